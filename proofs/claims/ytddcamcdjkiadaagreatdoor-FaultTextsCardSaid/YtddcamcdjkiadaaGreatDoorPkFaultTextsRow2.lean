/- Walks and plain laws for FaultTextsRow, part 2. -/
import Derived.Lib.ItoaLen
import Derived.Lib.AppendIntMem
import Derived.Lib.LaidTab
import Derived.Sort.QuietIn
import Derived.Sort.LoopGhostIn
import Derived.Sort.CutIn
import Derived.Lib.SplitLaws
import Derived.Lib.AtoiAll
import Derived.Lib.ItoaMem
import Derived.Lib.IndexLaws
import Derived.Maps.OwnIn
import Derived.Maps.OwnOps
import Derived.Maps.Views
import Derived.StringKeys
import Derived.Test.YtddcamcdjkiadaaGreatDoorPkFaultTextsRow1
namespace Go.Proofs.YtddcamcdjkiadaaGreatDoor
open Go.RowKit
set_option linter.unusedVariables false

theorem OwnM.snoc {w w1 w3 : World} {base gn cap : Nat} {v v' : Value} {M : Mask} {r : List Int} {g : Nat → Nat} {vs : List Value}
    (ho : w.ownsRow base 30 1 v M.length vs) (hin : ∀ i j, i < M.length → j < M.length → g i = g j → i = j)
    (he : ∀ j (hj : j < M.length), (∃ cap, vs[j]? = some (.slice (some ⟨g j, 0, none⟩) M[j].length cap)) ∧ base ≤ g j ∧ SpRow w (g j) M[j])
    (hb1 : Below w.heap.size w w1) (hr : SpRow w1 gn r) (hgn : w.heap.size ≤ gn) (hbase : base ≤ w.heap.size) (hg : w1.grownBy w3 v.ownBlock)
    (ho' : w3.ownsRow base 30 1 v' (M.length + 1) (vs ++ [.slice (some ⟨gn, 0, none⟩) r.length cap])) : OwnM w3 base v' (M ++ [r]) := by
  have hlen : vs.length = M.length := by have := ho.1; omega
  have hown : ∀ b, v.ownBlock = some b → b < w.heap.size ∧ ∃ c f, w.heap[b]? = some (.cells c 30 f) := by
    intro b hb
    rcases ho.2 with ⟨rfl, _⟩ | ⟨g, cap, cur, rfl, hbg, hgg, _⟩
    · simp [Value.ownBlock] at hb
    · obtain rfl : g = b := by simpa [Value.ownBlock] using hb
      exact ⟨(Array.getElem?_eq_some_iff.1 hgg).1, cur, _, hgg⟩
  have hold : ∀ b l, SpRow w b l → w3.heap[b]? = w.heap[b]? := by
    intro b l hs
    refine (hg.block b (Nat.lt_of_lt_of_le hs.lt hb1.size) ?_).trans (hb1.block b hs.lt)
    intro e
    obtain ⟨_, c, f, hc⟩ := hown b e.symm
    obtain ⟨sp, hs⟩ := hs
    rw [hs] at hc
    simp at hc
  have hnew : w3.heap[gn]? = w1.heap[gn]? := by
    refine hg.block gn hr.lt ?_
    intro e
    have := (hown gn e.symm).1
    omega
  refine ⟨fun j => if j < M.length then g j else gn, vs ++ [.slice (some ⟨gn, 0, none⟩) r.length cap], by simpa using ho', ?_, ?_⟩
  · intro i j hi hj e
    simp only [List.length_append, List.length_cons, List.length_nil, Nat.zero_add] at hi hj
    by_cases h1 : i < M.length <;> by_cases h2 : j < M.length <;> simp only [h1, h2, if_true, if_false] at e
    · exact hin i j h1 h2 e
    · have := (he i h1).2.2.lt; omega
    · have := (he j h2).2.2.lt; omega
    · omega
  · intro j hj
    simp only [List.length_append, List.length_cons, List.length_nil, Nat.zero_add] at hj
    by_cases h1 : j < M.length
    · obtain ⟨⟨c, hc⟩, h2, h3⟩ := he j h1
      simp only [h1, if_true]
      rw [List.getElem_append_left h1]
      exact ⟨⟨c, by rw [List.getElem?_append_left (by omega)]; exact hc⟩, h2, h3.keep (hold _ _ h3)⟩
    · obtain rfl : j = M.length := by omega
      simp only [Nat.lt_irrefl, if_false]
      rw [List.getElem_append_right (Nat.le_refl _)]
      simp only [Nat.sub_self, List.getElem_cons_zero]
      exact ⟨⟨cap, by rw [List.getElem?_append_right (by omega), hlen]; simp⟩, by omega, hr.keep hnew⟩

theorem spRow_own {w : World} {b0 : Nat} {v : Value} {l : List Int} {n : Nat} (h : w.ownsRow b0 3 1 v n (l.map (Value.int .i64))) (hn : l.length = n) (h0 : 0 < n) : ∃ g cap, v = .slice (some ⟨g, 0, none⟩) n cap ∧ b0 ≤ g ∧ SpRow w g l := by
  rcases h.2 with ⟨rfl, h1⟩ | ⟨g, cap, cur, rfl, hbg, hgg, hnc, hcm, hsz, htk⟩
  · omega
  · refine ⟨g, cap, rfl, hbg, cur.toList.drop n, ?_⟩
    rw [hgg]
    congr 2
    apply Array.toList_inj.1
    simp only [Nat.mul_one] at htk
    rw [← htk]
    simp

theorem okF_cases {M : Mask} {kind row pixel : Int} (h : okF M ⟨kind, row, pixel⟩ = true) (hM : okM M = true) :
    (kind = 0 ∧ row = 0 ∧ pixel = 0) ∨ (kind = 1 ∧ ∃ i : Nat, row = i ∧ i < M.length ∧ pixel = 0) ∨ (kind = 2 ∧ ∃ j : Nat, pixel = j ∧ j < colsM M ∧ row = 0) ∨
    (kind = 3 ∧ ∃ i j : Nat, row = i ∧ pixel = j ∧ i < M.length ∧ j < colsM M ∧ atM M i j ≠ 0) := by
  obtain ⟨m1, m6, c1, c10, _⟩ := okM_len hM
  unfold okF at h
  simp only [] at h
  split at h
  · simp at h; exact .inl ⟨by assumption, h⟩
  · split at h
    · simp [inB] at h
      exact .inr (.inl ⟨by assumption, row.toNat, by omega, by omega, h.2⟩)
    · split at h
      · simp [inB] at h
        exact .inr (.inr (.inl ⟨by assumption, pixel.toNat, by omega, by omega, h.2⟩))
      · split at h
        · simp [inB] at h
          exact .inr (.inr (.inr ⟨by assumption, row.toNat, pixel.toNat, by omega, by omega, by omega, by omega, by
            rw [show ((row.toNat : Nat) : Int) = row by omega, show ((pixel.toNat : Nat) : Int) = pixel by omega]; exact h.2⟩))
        · cases h

theorem okM1 {M : Mask} (h : okM M = true) : 1 ≤ colsM M := (okM_len h).2.2.1
theorem okM10 {M : Mask} (h : okM M = true) : colsM M ≤ 10 := (okM_len h).2.2.2.1
theorem okML {M : Mask} (h : okM M = true) : 1 ≤ M.length := (okM_len h).1

set_option maxHeartbeats 4000000 in
set_option maxRecDepth 100000 in
theorem faulty_c (w : World) (a : Option Addr) (n cap : Nat) (M : Mask) (hn : M.length = n) (H : RowsAt w a M) (hM : okM M = true) (f : Flt) (hf : okF M f = true) :
    Calls Tryz.prog 85 #[.slice a n cap, f.val] w fun e w' => ∃ v base, e = .returned v ∧ w.heap.size ≤ base ∧ OwnM w' base v (faultyM M f) ∧ Below w.heap.size w w' := by
  obtain ⟨wf, hwf, hb0, hcells⟩ := fltBox w f
  obtain ⟨m1, m6, c1, c10, hrows⟩ := okM_len hM
  have hn6 : n ≤ 6 := by omega
  have HN := hid hn
  have HH := hid (H.below hb0)
  have HR := hid hrows
  have HC := hid hcells
  have HF := hid hf
  have HM := hid hM
  obtain ⟨kind, row, pixel⟩ := f
  unfold Flt.val
  simp only [] at HC hwf ⊢
  have HWF := hid hwf
  have HB0 := hid hb0
  clear hn H hrows hcells hf hwf hb0 hM
  go_enter Tryz.func85, Tryz.ntmps85
  go_wp2
  rw [← HWF.out]
  go_loopw [5, 10] (fun v i wr => ∃ k : Nat, k ≤ n ∧ i = .int .i64 k ∧ OwnM wr wf.heap.size v (M.take k) ∧ Below wf.heap.size wf wr) (fun _ i _ => n - (intOf i).toNat)
  case atStart => exact ⟨0, Nat.zero_le _, rfl, OwnM.nil _ _, Below.refl _ _⟩
  case round =>
    obtain ⟨k, hk, rfl, ho, hbk⟩ := hrel
    by_cases hlt : k < n
    · have hkM : k < M.length := by rw [HN.out]; exact hlt
      obtain ⟨b, off, ra, rn, rc, rfl, hbs, hq0, hrn, hrm, hri⟩ := (HH.out.below hbk) k hkM
      have hrl := HR.out M[k] (List.getElem_mem hkM)
      have HCl := hid (clone_c wr ra rn rc M[k] hrn (by omega) hri)
      have htk : M.take (k + 1) = M.take k ++ [M[k]] := List.take_succ_eq_append_getElem hkM
      have hlen : (M.take k).length = k := by rw [List.length_take]; omega
      obtain ⟨r, hr⟩ : ∃ r, r = M[k] := ⟨_, rfl⟩
      rw [← hr] at htk HCl hrl hrn hri
      have hrn1 : 0 < rn := by omega
      have hrn10 : rn ≤ 10 := by omega
      have HTK := hid htk
      have HO := hid ho
      have HRN := hid hrn
      obtain ⟨va, vc, hv⟩ : ∃ va vc, u5 = .slice va k vc := by
        obtain ⟨_, _, ho1, _⟩ := ho
        obtain ⟨a', c', e⟩ := ownsRow_slice ho1
        exact ⟨a', c', by rw [e, hlen]⟩
      subst hv
      have HL := hid hlen
      clear htk ho hrn hri hrl hr hkM hlen
      go_wp2_with (go_at_call 103; refine HCl.out.mono ?_; rintro e w2 ⟨cv, rfl, hown2, hb2⟩; refine Stop.of ?_)
      refine Stop.go ?_
      obtain ⟨gn, cc, rfl, hgn, hsr⟩ := spRow_own hown2 HRN.out hrn1
      obtain ⟨g, vs, ho, hin, he⟩ := HO.out
      rw [HL.out] at ho
      have hb2a : Below wr.heap.size wr (w2.alloc (.cells #[.slice (some ⟨gn, 0, none⟩) rn cc] 30)) := hb2.alloc hb2.size _
      have ho2 : (w2.alloc (.cells #[.slice (some ⟨gn, 0, none⟩) rn cc] 30)).ownsRow wf.heap.size 30 1 (.slice va k vc) k vs := by
        refine ⟨ho.1, ?_⟩
        rcases ho.2 with hn0 | ⟨g, cap, cur, e, hb, hgg, rest⟩
        · exact .inl hn0
        · exact .inr ⟨g, cap, cur, e, hb, (hb2a.block g (Array.getElem?_eq_some_iff.1 hgg).1).trans hgg, rest⟩
      have M1 := hid (show k + 1 ≤ maxLen by unfold maxLen; omega)
      have M2 := hid (show (k + 1) * 24 ≤ 140737488355328 by omega)
      have M3 := hid (Nat.le_trans hbk.size hb2a.size)
      have HO2 := hid ho2
      have HE := hid he
      have HIN := hid hin
      have HSR := hid hsr
      have HB2 := hid hb2a
      have HOO := hid ho
      clear ho2 he hin hsr hb2a ho hown2
      go_wp2_with (at_builtin; refine wpList_app _ rfl (.tmp 14) (.tmp 17) 35 rfl wf.heap.size 30 (.slice none 0 0) 1 24 Tryz.underlying35 info_ints rfl Nat.one_pos (.slice va k vc) k vs rfl HO2.out (some ⟨w2.heap.size, 0, none⟩) 1 1 [.slice (some ⟨gn, 0, none⟩) rn cc] rfl rfl no_none (one_news w2 _ _) (slice_oneCell _ _ _) M1.out M2.out M3.out ?_; refine Stop.of ?_)
      refine Stop.go ?_
      intro a3 c3 w3 own3 g3
      have hsn : OwnM w3 wf.heap.size (.slice a3 (k + 1) c3) (M.take k ++ [r]) := by
        have own3' : w3.ownsRow wf.heap.size 30 1 (.slice a3 (k + 1) c3) ((M.take k).length + 1) (vs ++ [.slice (some ⟨gn, 0, none⟩) r.length cc]) := by rw [HL.out, HRN.out]; exact own3
        exact OwnM.snoc (by rw [HL.out]; exact HOO.out) HIN.out HE.out HB2.out (HSR.out.keep (Lib.alloc_old _ _ _ HSR.out.lt)) hgn hbk.size g3 own3'
      have hB3 : Below wf.heap.size wf w3 := (hbk.trans (HB2.out.mono hbk.size)).grown g3 M3.out (fun q hq => (HO2.out.lt q hq).1)
      rw [← HTK.out] at hsn
      go_wp2
      exact ⟨⟨k + 1, by omega, by go_num, hsn, hB3⟩, by simp [intOf]; omega⟩
    · obtain rfl : k = n := by omega
      rw [List.take_of_length_le (by have := HN.out; omega)] at ho
      obtain ⟨w9, hw9⟩ : ∃ w9, w9 = wr := ⟨_, rfl⟩
      rw [← hw9] at ho hbk ⊢
      clear hw9
      obtain ⟨va, vc, hv⟩ : ∃ va vc, u5 = .slice va k vc := by
        obtain ⟨_, _, ho1, _⟩ := ho
        obtain ⟨a', c', e⟩ := ownsRow_slice ho1
        exact ⟨a', c', by rw [e, HN.out]⟩
      subst hv
      have hHS : wf.heap.size ≤ w9.heap.size := hbk.size
      have HO := hid ho
      have HBK := hid hbk
      obtain ⟨hz, f0, f1, f2⟩ := HC.out w9 hbk
      have hS0 : w9.drew.cell? ⟨w.heap.size, 0, none⟩ = some (.int .i64 kind) ∧ w9.drew.cell? ⟨w.heap.size, 1, none⟩ = some (.int .i64 row) ∧ w9.drew.cell? ⟨w.heap.size, 2, none⟩ = some (.int .i64 pixel) := ⟨f0, f1, f2⟩
      have HS0 := hid hS0
      clear hS0
      go_wp2
      refine plain_region (fun j W => decide (j < 7) = true → W.cell? ⟨w.heap.size, 0, none⟩ = some (.int .i64 kind) ∧ W.cell? ⟨w.heap.size, 1, none⟩ = some (.int .i64 row) ∧ W.cell? ⟨w.heap.size, 2, none⟩ = some (.int .i64 pixel)) (by kernel_rfl) ?_
      refine AnyT.takeW (i := 1) (v := .pointer (some ⟨w.heap.size, 0, none⟩)) rfl (by kernel_rfl) (by kernel_rfl) (by kernel_rfl) (fun _ _ _ h => h) (by kernel_rfl) (by rfl) (by rintro w' ⟨h0, h1, h2⟩; go_simp) HS0.out ?_
      refine AnyT.takeW (i := 2) (v := .int .i64 kind) rfl (by kernel_rfl) (by kernel_rfl) (by kernel_rfl) (fun _ _ _ h => h) (by kernel_rfl) (by rfl) (by rintro w' ⟨h0, h1, h2⟩; go_simp) HS0.out ?_
      refine AnyT.takeW (i := 4) (v := .slice va k vc) rfl (by kernel_rfl) (by kernel_rfl) (by kernel_rfl) (fun _ _ _ h => h) (by kernel_rfl) (by rfl) (by rintro w' ⟨h0, h1, h2⟩; go_simp) HS0.out ?_
      refine AnyT.takeW (i := 5) (v := .agg #[.int .i64 kind, .int .i64 row, .int .i64 pixel]) rfl (by kernel_rfl) (by kernel_rfl) (by kernel_rfl) (fun _ _ _ h => h) (by kernel_rfl) (by rfl) (by rintro w' ⟨h0, h1, h2⟩; go_simp) HS0.out ?_
      refine AnyT.next (i := 0) (by kernel_rfl) rfl (wpOp_of_list rfl ?_)
      go_wp2_with (go_at_call 117; refine (deeds_c _).mono ?_; rintro e w10 ⟨rfl, hb10⟩)
      have hbk10 : Below wf.heap.size wf w10 := hbk.drew.trans (hb10.mono hHS)
      obtain ⟨_, f0, f1, f2⟩ := HC.out w10 hbk10
      have ho10 : OwnM w10 wf.heap.size (.slice va k vc) M := HO.out.keep (fun q _ hq => hb10.block q hq)
      have HS1 := hid (show w10.cell? ⟨w.heap.size, 0, none⟩ = some (.int .i64 kind) ∧ w10.cell? ⟨w.heap.size, 1, none⟩ = some (.int .i64 row) ∧ w10.cell? ⟨w.heap.size, 2, none⟩ = some (.int .i64 pixel) from ⟨f0, f1, f2⟩)
      have HO10 := hid ho10
      have hs10 : wf.heap.size ≤ w10.heap.size := hbk10.size
      refine ⟨fun _ => HS1.out, ?_⟩
      have hfin : ∀ w11, Below wf.heap.size w10 w11 → Below w.heap.size w w11 := fun w11 h => HB0.out.trans ((hbk10.trans h).mono HB0.out.size)
      have HFin := hid hfin
      have HB10 := hid hbk10
      clear f0 f1 f2 hb10 hbk10 hfin ho10 ho hbk
      rcases okF_cases HF.out HM.out with ⟨rfl, rfl, rfl⟩ | ⟨rfl, i, rfl, hi, rfl⟩ | ⟨rfl, j, rfl, hj, rfl⟩ | ⟨rfl, i, j, rfl, rfl, hi, hj, hne⟩
      · refine AnyT.takeW (i := 3) (v := .func (.func 140) #[] #[]) rfl (by kernel_rfl) (by kernel_rfl) (by kernel_rfl) (fun _ _ _ h => h) (by kernel_rfl) (by rfl) (by rintro w' _; first | rfl | kernel_rfl) HS1.out ?_
        refine AnyT.next (i := 6) (by kernel_rfl) rfl (wpOp_of_list rfl ?_)
        go_wp2_with (go_at_call 140; refine (deed1_c _ _ _ _).mono ?_; rintro e w11 ⟨rfl, hb11⟩; refine Stop.of ?_)
        refine Stop.go ?_
        have hbw11 : Below wf.heap.size w10 w11 := hb11.mono hs10
        obtain ⟨_, g0, g1, g2⟩ := HC.out w11 (HB10.out.trans hbw11)
        go_wp2
        refine ⟨fun _ => ⟨g0, g1, g2⟩, AnyT.done (by kernel_rfl) ?_ _⟩
        go_wp2
        go_ret
        exact ⟨_, wf.heap.size, rfl, HB0.out.size, by exact HO10.out.keep (fun q _ hq => hb11.block q hq), HFin.out _ hbw11⟩
      · have hl := HR.out M[i] (List.getElem_mem hi)
        refine AnyT.takeW (i := 3) (v := .func (.func 141) #[] #[]) rfl (by kernel_rfl) (by kernel_rfl) (by kernel_rfl) (fun _ _ _ h => h) (by kernel_rfl) (by rfl) (by rintro w' _; first | rfl | kernel_rfl) HS1.out ?_
        refine AnyT.next (i := 6) (by kernel_rfl) rfl (wpOp_of_list rfl ?_)
        go_wp2_with (go_at_call 141; refine (deed2_c w10 wf.heap.size _ M HO10.out hs10 i hi (by rw [hl.1]; exact okM1 HM.out) (by rw [hl.1]; exact okM10 HM.out) (by rw [HN.out]; exact hn6) 0).mono ?_; rintro e w11 ⟨rfl, hown11, hb11⟩; refine Stop.of ?_)
        refine Stop.go ?_
        have hbw11 : Below wf.heap.size w10 w11 := hb11
        obtain ⟨_, g0, g1, g2⟩ := HC.out w11 (HB10.out.trans hbw11)
        go_wp2
        refine ⟨fun _ => ⟨g0, g1, g2⟩, AnyT.done (by kernel_rfl) ?_ _⟩
        go_wp2
        go_ret
        exact ⟨_, wf.heap.size, rfl, HB0.out.size, by simpa [faultyM] using hown11, HFin.out _ hbw11⟩
      · have hj2 := hj
        refine AnyT.takeW (i := 3) (v := .func (.func 142) #[] #[]) rfl (by kernel_rfl) (by kernel_rfl) (by kernel_rfl) (fun _ _ _ h => h) (by kernel_rfl) (by rfl) (by rintro w' _; first | rfl | kernel_rfl) HS1.out ?_
        refine AnyT.next (i := 6) (by kernel_rfl) rfl (wpOp_of_list rfl ?_)
        go_wp2_with (go_at_call 142; refine (deed3_c w10 wf.heap.size _ M HO10.out hs10 j (fun r hr => by rw [(HR.out r hr).1]; exact hj) (fun r hr => by rw [(HR.out r hr).1]; exact okM10 HM.out) (okML HM.out) (by rw [HN.out]; exact hn6) 0).mono ?_; rintro e w11 ⟨rfl, hown11, hb11⟩; refine Stop.of ?_)
        refine Stop.go ?_
        have hbw11 : Below wf.heap.size w10 w11 := hb11
        obtain ⟨_, g0, g1, g2⟩ := HC.out w11 (HB10.out.trans hbw11)
        go_wp2
        refine ⟨fun _ => ⟨g0, g1, g2⟩, AnyT.done (by kernel_rfl) ?_ _⟩
        go_wp2
        go_ret
        exact ⟨_, wf.heap.size, rfl, HB0.out.size, by simpa [faultyM] using hown11, HFin.out _ hbw11⟩
      · have hl := HR.out M[i] (List.getElem_mem hi)
        refine AnyT.takeW (i := 3) (v := .func (.func 143) #[] #[]) rfl (by kernel_rfl) (by kernel_rfl) (by kernel_rfl) (fun _ _ _ h => h) (by kernel_rfl) (by rfl) (by rintro w' _; first | rfl | kernel_rfl) HS1.out ?_
        refine AnyT.next (i := 6) (by kernel_rfl) rfl (wpOp_of_list rfl ?_)
        go_wp2_with (go_at_call 143; refine (deed4_c w10 wf.heap.size _ M HO10.out hs10 i j hi (by rw [hl.1]; exact hj) hl.2 (by rw [hl.1]; exact okM10 HM.out) (by rw [HN.out]; exact hn6)).mono ?_; rintro e w11 ⟨rfl, hown11, hb11⟩; refine Stop.of ?_)
        refine Stop.go ?_
        have hbw11 : Below wf.heap.size w10 w11 := hb11
        obtain ⟨_, g0, g1, g2⟩ := HC.out w11 (HB10.out.trans hbw11)
        go_wp2
        refine ⟨fun _ => ⟨g0, g1, g2⟩, AnyT.done (by kernel_rfl) ?_ _⟩
        go_wp2
        go_ret
        exact ⟨_, wf.heap.size, rfl, HB0.out.size, by simpa [faultyM] using hown11, HFin.out _ hbw11⟩
end Go.Proofs.YtddcamcdjkiadaaGreatDoor

namespace Go.Proofs.YtddcamcdjkiadaaGreatDoor
open Go.RowKit Go.Shelf
set_option linter.unusedVariables false

def Tab (w : World) : Prop := Lib.TabIs Tryz.prog w "internal/strconv.uint64pow10" .u64 Lib.pow10Tab
theorem tabNamed : Tryz.prog.globalNamed "internal/strconv.uint64pow10" = some 5 := by kernel_rfl
theorem Tab.below {w w' : World} (h : Tab w) (hb : Below w.heap.size w w') : Tab w' := by
  unfold Tab Lib.TabIs World.var? at h ⊢
  rw [tabNamed] at h ⊢
  simp only [Option.bind_some] at h ⊢
  have hlt : 5 < w.heap.size := by
    rcases Nat.lt_or_ge 5 w.heap.size with h' | h'
    · exact h'
    · rw [Array.getElem?_eq_none h'] at h; cases h
  rw [hb.block 5 hlt]
  exact h

def isInt (n : Int) : Prop := -9223372036854775808 ≤ n ∧ n ≤ 9223372036854775807

theorem itoa_c (n : Int) (hn : isInt n) (w : World) (ht : Tab w) : Calls Tryz.prog 59 #[.int .i64 n] w fun e w' => e = .returned (.string ⟨(Lib.itoa n).toArray⟩) ∧ Below w.heap.size w w' :=
  (Tryz.strconv_Itoa n hn.1 hn.2 w ht).mono fun e w' ⟨h, k, os, e2⟩ => ⟨h, by rw [e2]; exact Lib.below_grow _ w (Nat.le_refl _) k os⟩

def numT (l : List Int) : List UInt8 := l.flatMap (fun n => Lib.itoa n ++ [32])
theorem numT_take (l : List Int) (k : Nat) (hk : k < l.length) : numT (l.take (k + 1)) = numT (l.take k) ++ (Lib.itoa l[k] ++ [32]) := by
  unfold numT
  rw [List.take_succ_eq_append_getElem hk, List.flatMap_append]; simp
theorem numT_length (l : List Int) (h : ∀ n ∈ l, isInt n) : (numT l).length ≤ 22 * l.length := by
  induction l with
  | nil => simp [numT]
  | cons x l ih =>
    have h1 := Lib.itoa_length_le x (h x (by simp)).1 (h x (by simp)).2
    have h2 := ih (fun n hn => h n (by simp [hn]))
    have e : numT (x :: l) = Lib.itoa x ++ [32] ++ numT l := by simp [numT]
    rw [e]; simp; omega

theorem wrap_isInt (n : Int) : isInt (wrap64 n) := by unfold isInt wrap64; omega
theorem dotW_isInt (row x : List Int) : isInt (dotW row x) := by
  unfold dotW
  cases row.length with
  | zero => simp [dotTo, isInt]
  | succ k => exact wrap_isInt _
theorem readM_isInt (M : Mask) (x : List Int) : ∀ n ∈ readM M x, isInt n := by
  intro n hn
  unfold readM at hn
  obtain ⟨r, _, rfl⟩ := List.mem_map.1 hn
  exact dotW_isInt r x

set_option maxHeartbeats 2000000 in
theorem numbers_c (w : World) (ht : Tab w) (a : Option Addr) (n cap : Nat) (l : List Int) (hn : l.length = n) (hm : n ≤ 65536) (H : IntsAt w a l) (hi : ∀ x ∈ l, isInt x) :
    Calls Tryz.prog 58 #[.slice a n cap] w fun e w' => e = .returned (.string ⟨(numT l).toArray⟩) ∧ Below w.heap.size w w' := by
  have HN := hid hn
  have HH := hid H
  have HT := hid ht
  have HI := hid hi
  clear hn H ht hi
  go_enter Tryz.func58, Tryz.ntmps58
  go_wp2
  go_loopw [3, 8] (fun s i wr => ∃ (k : Nat) (S : ByteArray), k ≤ n ∧ i = .int .i64 k ∧ s = .string S ∧ S.size ≤ 22 * k ∧ Hid (S = ⟨(numT (l.take k)).toArray⟩) ∧ Below w.heap.size w wr) (fun _ i _ => n - (intOf i).toNat)
  case atStart => exact ⟨0, _, Nat.zero_le _, rfl, rfl, by simp [ByteArray.size], hid rfl, Below.refl _ _⟩
  case round =>
    obtain ⟨k, S, hk, rfl, rfl, hS, HS, hb⟩ := hrel
    by_cases hlt : k < n
    · have hkl : k < l.length := by rw [HN.out]; exact hlt
      obtain ⟨b, off, rfl, hbs, hc⟩ := (HH.out.below hb) k hkl
      have hx : l[k]?.getD 0 = l[k] := by rw [List.getElem?_eq_getElem hkl]; rfl
      obtain ⟨X, hX⟩ : ∃ X, X = l[k]?.getD 0 := ⟨_, rfl⟩
      rw [← hX] at hc
      have hXi : isInt X := by rw [hX, hx]; exact HI.out _ (List.getElem_mem hkl)
      have HC := hid (itoa_c X hXi wr (HT.out.below hb))
      have hlen := Lib.itoa_length_le X hXi.1 hXi.2
      have htk := numT_take l k hkl
      rw [← hx, ← hX] at htk
      obtain ⟨I, hI⟩ : ∃ I : ByteArray, I = ⟨(Lib.itoa X).toArray⟩ := ⟨_, rfl⟩
      have hIs : I.size ≤ 21 := by rw [hI]; simpa [ByteArray.size] using hlen
      rw [← hI] at HC
      have hnew : Hid ((S ++ (I ++ ⟨#[32]⟩) : ByteArray) = ⟨(numT (l.take (k + 1))).toArray⟩) := hid (by
        rw [htk, HS.out, hI]
        rw [show (⟨#[32]⟩ : ByteArray) = ⟨[32].toArray⟩ from rfl, ByteArray.mk_append_mk, ByteArray.mk_append_mk])
      have hsp : (⟨#[32]⟩ : ByteArray).size = 1 := rfl
      have h1 : I.size + (⟨#[32]⟩ : ByteArray).size ≤ 9223372036854775807 := by rw [hsp]; omega
      obtain ⟨J, hJ⟩ : ∃ J : ByteArray, J = I ++ ⟨#[32]⟩ := ⟨_, rfl⟩
      have hJs : J.size ≤ 22 := by rw [hJ, ByteArray.size_append, hsp]; omega
      rw [← hJ] at hnew
      have hr1 : ∀ w, (Op.stringOp .add I ⟨#[32]⟩).run Tryz.prog w = .ok (.string J) w := fun w => by rw [run_string_add_sum w _ _ h1, hJ]
      obtain ⟨R, hR⟩ : ∃ R : ByteArray, R = S ++ J := ⟨_, rfl⟩
      have hRs : R.size ≤ 22 * (k + 1) := by rw [hR, ByteArray.size_append]; omega
      have hr2 : ∀ w, (Op.stringOp .add S J).run Tryz.prog w = .ok (.string R) w := fun w => by rw [run_string_add_sum w _ _ (by omega), hR]
      rw [← hR] at hnew
      clear hR hJ hI hX hx htk hlen h1 hJs hIs hkl hXi hsp
      go_wp2_with (go_at_call 59; refine HC.out.mono ?_; rintro e w1 ⟨rfl, hb1⟩)
      exact ⟨⟨k + 1, R, by omega, by go_num, rfl, hRs, hnew, chain hb hb1⟩, by simp [intOf]; omega⟩
    · obtain rfl : k = n := by omega
      go_wp2
      go_ret
      refine ⟨?_, hb⟩
      rw [HS.out, List.take_of_length_le (by have := HN.out; omega)]
      rfl

def readF (M : Mask) (f : Flt) (x : List Int) : List Int := readM (faultyM M f) x

theorem faultyM_cols {M : Mask} {f : Flt} (hM : okM M = true) (hf : okF M f = true) : ∀ r ∈ faultyM M f, r.length = colsM M ∧ ∀ n ∈ r, -1 ≤ n ∧ n ≤ 1 := by
  obtain ⟨m1, m6, c1, c10, hrows⟩ := okM_len hM
  obtain ⟨kind, row, pixel⟩ := f
  unfold faultyM
  rcases okF_cases hf hM with ⟨rfl, rfl, rfl⟩ | ⟨rfl, i, rfl, hi, rfl⟩ | ⟨rfl, j, rfl, hj, rfl⟩ | ⟨rfl, i, j, rfl, rfl, hi, hj, hne⟩
  · simpa using hrows
  · simp only [if_true]
    unfold deadM
    intro r hr
    rcases List.mem_or_eq_of_mem_set hr with h | h
    · exact hrows r h
    · subst h
      have := hrows M[i] (List.getElem_mem hi)
      simp only [Int.toNat_natCast]
      rw [List.getElem?_eq_getElem hi]
      refine ⟨by simpa using this.1, fun n hn => ?_⟩
      obtain rfl := List.eq_of_mem_replicate hn
      omega
  · simp only [show ¬ ((2 : Int) = 1) by omega, if_false, if_true]
    unfold darkM
    intro r hr
    obtain ⟨s, hs, rfl⟩ := List.mem_map.1 hr
    have := hrows s hs
    refine ⟨by simpa using this.1, fun n hn => ?_⟩
    rcases List.mem_or_eq_of_mem_set hn with h | h
    · exact this.2 n h
    · omega
  · simp only [show ¬ ((3 : Int) = 1) by omega, show ¬ ((3 : Int) = 2) by omega, if_false, if_true]
    unfold turnM
    intro r hr
    rcases List.mem_or_eq_of_mem_set hr with h | h
    · exact hrows r h
    · subst h
      have := hrows M[i] (List.getElem_mem hi)
      simp only [Int.toNat_natCast]
      rw [List.getElem?_eq_getElem hi]
      simp only [Option.getD_some]
      refine ⟨by simpa using this.1, fun n hn => ?_⟩
      rcases List.mem_or_eq_of_mem_set hn with h | h
      · exact this.2 n h
      · have hj' : j < M[i].length := by omega
        rw [List.getElem?_eq_getElem hj'] at h
        have := this.2 _ (List.getElem_mem hj')
        simp at h
        omega

theorem okM_of {M : Mask} (h1 : 1 ≤ M.length) (h6 : M.length ≤ 6) (c : Nat) (hc1 : 1 ≤ c) (hc : c ≤ 10) (h : ∀ r ∈ M, r.length = c ∧ ∀ n ∈ r, -1 ≤ n ∧ n ≤ 1) : okM M = true ∧ colsM M = c := by
  have hcol : colsM M = c := by
    unfold colsM
    rw [List.getElem?_eq_getElem (by omega)]
    exact (h _ (List.getElem_mem (by omega))).1
  refine ⟨?_, hcol⟩
  unfold okM
  simp only [Bool.and_eq_true, List.all_eq_true, decide_eq_true_eq]
  refine ⟨by simp [inB]; omega, fun r hr => ⟨by rw [(h r hr).1, hcol], ?_⟩⟩
  unfold okMRow
  simp only [Bool.and_eq_true, List.all_eq_true]
  refine ⟨by rw [(h r hr).1]; simp [inB]; omega, fun n hn => ?_⟩
  have := (h r hr).2 n hn
  simp [inB]; omega

theorem okM_faulty {M : Mask} {f : Flt} (hM : okM M = true) (hf : okF M f = true) : okM (faultyM M f) = true ∧ colsM (faultyM M f) = colsM M := by
  obtain ⟨m1, m6, c1, c10, hrows⟩ := okM_len hM
  exact okM_of (by rw [faultyM_row]; exact m1) (by rw [faultyM_row]; exact m6) (colsM M) c1 c10 (faultyM_cols hM hf)

theorem shownE_faulty {M : Mask} {f : Flt} {x : List Int} (hM : okM M = true) (hf : okF M f = true) (hx : okShown M x = true) : shownE (faultyM M f) x = 0 := by
  obtain ⟨h1, h2⟩ := okM_faulty hM hf
  have h := okShown_iff (faultyM M f) x
  have h3 : okShown (faultyM M f) x = true := by
    unfold okShown at hx ⊢
    rw [h1, h2]
    simp only [Bool.and_eq_true] at hx ⊢
    exact ⟨⟨trivial, hx.1.2⟩, hx.2⟩
  rw [h3] at h
  simpa using h

theorem reads_c (w : World) (a : Option Addr) (n cap : Nat) (M : Mask) (hn : M.length = n) (H : RowsAt w a M) (hM : okM M = true) (f : Flt) (hf : okF M f = true) (a2 : Option Addr) (n2 cap2 : Nat) (x : List Int) (hn2 : x.length = n2) (H2 : IntsAt w a2 x) (hx : okShown M x = true) :
    Calls Tryz.prog 120 #[.slice a n cap, f.val, .slice a2 n2 cap2] w fun e w' => ∃ v base, e = .returned v ∧ w.heap.size ≤ base ∧ w'.ownsRow base 3 1 v n ((readF M f x).map (Value.int .i64)) ∧ Below w.heap.size w w' := by
  obtain ⟨wf, hwf, hb0, hcells⟩ := fltBox w f
  have HF := hid (faulty_c wf a n cap M hn (H.below hb0) hM f hf)
  have hm2 : n2 ≤ maxLen := by
    unfold okShown at hx
    simp at hx
    have := (okM_len hM).2.2.2.1
    unfold maxLen; omega
  have HR := hid (fun (W : World) (hb : Below w.heap.size w W) (va : Option Addr) (vc : Nat) (hv : RowsAt W va (faultyM M f)) =>
    maskRead_c W va n vc (faultyM M f) (by rw [faultyM_row, hn]) (by have := (okM_len hM).2.1; unfold maxLen; omega) hv a2 n2 cap2 x hn2 hm2 (H2.below hb) (shownE_faulty hM hf hx))
  have HRows := hid (fun (r : List Int) (hr : r ∈ faultyM M f) => show r.length ≤ maxLen by have := (faultyM_cols hM hf r hr).1; have := (okM_len hM).2.2.2.1; unfold maxLen; omega)
  have HN := hid (show (faultyM M f).length = n by rw [faultyM_row, hn])
  have HB0 := hid hb0
  obtain ⟨_, f0, f1, f2⟩ := hcells wf (Below.refl _ _)
  have hre : readF M f x = readM (faultyM M f) x := rfl
  rw [hre]
  obtain ⟨Mf, hMf⟩ : ∃ Mf, Mf = faultyM M f := ⟨_, rfl⟩
  rw [← hMf] at HF HR HRows HN ⊢
  have HWF := hid hwf
  clear hre hMf hn H hf hn2 H2 hx hM hcells hb0 hwf
  obtain ⟨kind, row, pixel⟩ := f
  unfold Flt.val at HF ⊢
  simp only [] at HF HWF f0 f1 f2 ⊢
  have hw := HWF.out
  clear HWF
  subst hw
  go_enter Tryz.func120, Tryz.ntmps120
  go_wp2_with (go_at_call 85; refine HF.out.mono ?_; rintro e w1 ⟨v, base, rfl, hbase, hown, hb1⟩; refine Stop.of ?_)
  refine Stop.go ?_
  obtain ⟨va, vc, rfl, hrows⟩ := hown.rows HRows.out
  have HR1 := hid (HR.out w1 (chain HB0.out hb1) va vc hrows)
  have HNN := HN.out
  rw [HNN]
  go_wp2_with (go_at_call 104; refine HR1.out.mono ?_; rintro e w2 ⟨v2, base2, rfl, hbase2, hown2, hb2⟩; refine Stop.of ?_)
  refine Stop.go ?_
  go_wp2
  go_ret
  exact ⟨v2, base2, rfl, Nat.le_trans (Nat.le_trans HB0.out.size hb1.size) hbase2, hown2, chain (chain HB0.out hb1) hb2⟩
end Go.Proofs.YtddcamcdjkiadaaGreatDoor

namespace Go.Proofs.YtddcamcdjkiadaaGreatDoor
open Go.RowKit Go.Shelf
set_option linter.unusedVariables false

def toldT (M : Mask) (f : Flt) (L : List (List Int)) : List UInt8 := L.flatMap (fun x => numT (readF M f x))
theorem toldT_take (M : Mask) (f : Flt) (L : List (List Int)) (k : Nat) (hk : k < L.length) : toldT M f (L.take (k + 1)) = toldT M f (L.take k) ++ numT (readF M f L[k]) := by
  unfold toldT
  rw [List.take_succ_eq_append_getElem hk, List.flatMap_append]; simp

theorem readF_length {M : Mask} {f : Flt} {x : List Int} : (readF M f x).length = M.length := by unfold readF readM; simp [faultyM_row]

theorem ints_own {w : World} {base : Nat} {v : Value} {n : Nat} {l : List Int} (h : w.ownsRow base 3 1 v n (l.map (Value.int .i64))) (hn : l.length = n) : ∃ a cap, v = .slice a n cap ∧ IntsAt w a l := by
  rcases h.2 with ⟨rfl, h0⟩ | ⟨g, cap, cur, rfl, hg, hh, hnc, hcm, hsz, htk⟩
  · exact ⟨none, 0, by rw [h0], fun j hj => by omega⟩
  · refine ⟨_, cap, rfl, fun j hj => ⟨g, 0, rfl, (Array.getElem?_eq_some_iff.1 hh).1, ?_⟩⟩
    have := World.ownsRow.cellAt (w := w) (base := base) (e := 3) (size := 1) (g := g) (n := n) (cap := cap) (xs := l.map (Value.int .i64)) ⟨h.1, .inr ⟨g, cap, cur, rfl, hg, hh, hnc, hcm, hsz, htk⟩⟩ j (by omega)
    rw [Nat.zero_add, this, List.getElem?_map, List.getElem?_eq_getElem hj]; rfl

set_option maxHeartbeats 2000000 in
theorem told_c (w : World) (ht : Tab w) (a : Option Addr) (n cap : Nat) (M : Mask) (hn : M.length = n) (H : RowsAt w a M) (hM : okM M = true) (f : Flt) (hf : okF M f = true) (a2 : Option Addr) (n2 cap2 : Nat) (L : List (List Int)) (hn2 : L.length = n2) (hm2 : n2 ≤ 65536) (H2 : RowsAt w a2 L) (hx : ∀ x ∈ L, okShown M x = true) :
    Calls Tryz.prog 87 #[.slice a n cap, f.val, .slice a2 n2 cap2] w fun e w' => e = .returned (.string ⟨(toldT M f L).toArray⟩) ∧ Below w.heap.size w w' := by
  obtain ⟨wf, hwf, hb0, hcells⟩ := fltBox w f
  have HRd := hid (fun (W : World) (hb : Below w.heap.size w W) (xa : Option Addr) (xn xc : Nat) (x : List Int) (hxL : x ∈ L) (hxn : x.length = xn) (hxi : IntsAt W xa x) =>
    reads_c W a n cap M hn (H.below hb) hM f hf xa xn xc x hxn hxi (hx x hxL))
  have HNm := hid (fun (W : World) (hb : Below w.heap.size w W) (va : Option Addr) (vc : Nat) (x : List Int) (hi : IntsAt W va (readF M f x)) =>
    numbers_c W (ht.below hb) va n vc (readF M f x) (by rw [readF_length, hn]) (by have := (okM_len hM).2.1; omega) hi (readM_isInt _ _))
  have HLen := hid (fun (x : List Int) => show (numT (readF M f x)).length ≤ 132 from by
    have h1 := numT_length (readF M f x) (readM_isInt _ _)
    have h2 := (okM_len hM).2.1
    rw [readF_length] at h1
    omega)
  have HRN := hid (fun (x : List Int) => show (readF M f x).length = n by rw [readF_length, hn])
  have HN2 := hid hn2
  have HH2 := hid H2
  have HC := hid hcells
  have HB0 := hid hb0
  have HTk := hid (toldT_take M f L)
  have HT0 := hid (show toldT M f [] = [] from rfl)
  have HTA := hid (show toldT M f = toldT M f from rfl)
  have hw := hwf
  clear hn H hf hM hx ht hn2 H2 hcells hb0 hwf
  obtain ⟨T, hT⟩ : ∃ T, T = toldT M f := ⟨_, rfl⟩
  obtain ⟨R, hR⟩ : ∃ R, R = readF M f := ⟨_, rfl⟩
  rw [← hT] at HTk HT0 ⊢
  rw [← hR] at HTk HRd HNm HLen HRN
  clear hT hR HTA
  obtain ⟨kind, row, pixel⟩ := f
  unfold Flt.val at HRd ⊢
  simp only [] at HRd HC hw ⊢
  have HW := hid hw
  clear hw
  go_enter Tryz.func87, Tryz.ntmps87
  go_wp2
  rw [← HW.out]
  go_loopw [7, 12] (fun s i wr => ∃ (k : Nat) (S : ByteArray), k ≤ n2 ∧ i = .int .i64 k ∧ s = .string S ∧ S.size ≤ 132 * k ∧ Hid (S = ⟨(T (L.take k)).toArray⟩) ∧ Below wf.heap.size wf wr) (fun _ i _ => n2 - (intOf i).toNat)
  case atStart => exact ⟨0, _, Nat.zero_le _, rfl, rfl, by simp [ByteArray.size], hid (by rw [List.take_zero, HT0.out]), Below.refl _ _⟩
  case round =>
    obtain ⟨k, S, hk, rfl, rfl, hS, HS, hbf⟩ := hrel
    obtain ⟨_, f0, f1, f2⟩ := HC.out wr hbf
    have hb : Below w.heap.size w wr := chain HB0.out hbf
    by_cases hlt : k < n2
    · have hkl : k < L.length := by rw [HN2.out]; exact hlt
      obtain ⟨b, off, xa, xn, xc, rfl, hbs, hc, hxn, hxm, hxi⟩ := (HH2.out.below hb) k hkl
      have HRd1 := hid (HRd.out wr hb xa xn xc L[k] (List.getElem_mem hkl) hxn hxi)
      have htk := HTk.out k hkl
      have HNm1 := hid (fun (W : World) (hbW : Below w.heap.size w W) (va : Option Addr) (vc : Nat) (h5 : IntsAt W va (R (L[k]'hkl))) => HNm.out W hbW va vc (L[k]'hkl) h5)
      have hlen := HLen.out L[k]
      have HRL := hid (HRN.out L[k])
      obtain ⟨X, hX⟩ : ∃ X, X = R L[k] := ⟨_, rfl⟩
      rw [← hX] at HRd1 htk HNm1 hlen HRL
      obtain ⟨J, hJ⟩ : ∃ J : ByteArray, J = ⟨(numT X).toArray⟩ := ⟨_, rfl⟩
      have hJs : J.size ≤ 132 := by rw [hJ]; exact hlen
      rw [← hJ] at HNm1
      have hnew : Hid ((S ++ J : ByteArray) = ⟨(T (L.take (k + 1))).toArray⟩) := hid (by rw [htk, HS.out, hJ, ByteArray.mk_append_mk])
      obtain ⟨Z, hZ⟩ : ∃ Z : ByteArray, Z = S ++ J := ⟨_, rfl⟩
      have hZs : Z.size ≤ 132 * (k + 1) := by rw [hZ, ByteArray.size_append]; omega
      have hr2 : ∀ w, (Op.stringOp .add S J).run Tryz.prog w = .ok (.string Z) w := fun w => by rw [run_string_add_sum w _ _ (by omega), hZ]
      rw [← hZ] at hnew
      clear hZ hJ hlen htk hxn hxi hkl hX
      go_wp2_with (go_at_call 120; refine HRd1.out.mono ?_; rintro e w1 ⟨v, base, rfl, hbase, hown, hb1⟩; refine Stop.of ?_)
      refine Stop.go ?_
      obtain ⟨va, vc, rfl, hiv⟩ := ints_own hown HRL.out
      have HNm2 := hid (HNm1.out w1 (chain hb hb1) va vc hiv)
      clear hown hiv
      go_wp2_with (go_at_call 58; refine HNm2.out.mono ?_; rintro e w2 ⟨rfl, hb2⟩)
      exact ⟨⟨k + 1, Z, by omega, by go_num, rfl, hZs, hnew, chain (chain hbf hb1) hb2⟩, by simp [intOf]; omega⟩
    · obtain rfl : k = n2 := by omega
      go_wp2
      go_ret
      refine ⟨?_, hb⟩
      rw [HS.out, List.take_of_length_le (by have := HN2.out; omega)]
      rfl
end Go.Proofs.YtddcamcdjkiadaaGreatDoor

namespace Go.Proofs.YtddcamcdjkiadaaGreatDoor
open Go.RowKit
set_option linter.unusedVariables false

def IterVals (P : Program) (g : Nat) (lb : Array Value) (xs : List Value) (fp : Nat → Prop) (w0 : World) : Prop :=
  ∀ (l : Nat) (J Jx : List Value → World → Prop) (W : World), Below w0.heap.size w0 W →
    (∀ s A B, J s A → Below A.heap.size A B → J s B) →
    (∀ pre x W1, pre ++ [x] <+: xs → J pre W1 →
      YieldAt Fence.wide 0 P l #[x] W1 fun e W' =>
        (e = .returned (.bool true) ∧ J (pre ++ [x]) W' ∧ W1.heap.size ≤ W'.heap.size ∧ (∀ k, fp k → W'.heap[k]? = W1.heap[k]?)) ∨ (e = .returned (.bool false) ∧ Jx (pre ++ [x]) W')) →
    J [] W →
    CallsIn Fence.wide 0 P g (#[.func (.yield l) #[] #[]] ++ lb) W fun e W' => (∃ v, e = .returned v) ∧ (J xs W' ∨ (∃ pre, pre <+: xs ∧ Jx pre W'))

def roundEndV (S : Nat → Prop) (I : List Value → World → Prop) (Ix : Code → List Value → World → Prop) (xs : List Value) (W : World) : Exit → Act → World → Prop
  | .normal, _, W' => W.heap.size ≤ W'.heap.size ∧ (∀ k, S k → W'.heap[k]? = W.heap[k]?) ∧ I xs W'
  | .ret, _, W' => W.heap.size ≤ W'.heap.size ∧ (∀ k, S k → W'.heap[k]? = W.heap[k]?) ∧ Ix .ret xs W'
  | .exit id, _, W' => W.heap.size ≤ W'.heap.size ∧ (∀ k, S k → W'.heap[k]? = W.heap[k]?) ∧ Ix (.exit id) xs W'
  | .goto t, _, W' => W.heap.size ≤ W'.heap.size ∧ (∀ k, S k → W'.heap[k]? = W.heap[k]?) ∧ Ix (.goto t) xs W'
  | .panic _, _, _ => False
  | .outgrown, _, _ => False

theorem range_vals {P : Program} {g : Operand} {p : Tmp} {assign body : Code} {Q : Exit → Act → World → Prop} {a : Act} {w : World}
    {gf : Nat} {lb : Array Value} (hg : a.eval g = .func (.func gf) #[] lb) (eg : ∀ args w, (callFunc gf args).run P w = .ok (.enter gf args) w)
    {xs : List Value} {fp : Nat → Prop} {w0 : World} (hseq : IterVals P gf lb xs fp w0) (hb0 : Below w0.heap.size w0 w) (hfp : ∀ k, fp k → k < w.heap.size)
    (I : List Value → World → Prop) (Ix : Code → List Value → World → Prop)
    (hI : ∀ s A B, I s A → w.heap.size + 2 ≤ A.heap.size → Keep (fun k => k ≠ w.heap.size ∧ k ≠ w.heap.size + 1) A B → I s B)
    (hIx : ∀ c s A B, Ix c s A → Keep (fun k => k ≠ w.heap.size ∧ k ≠ w.heap.size + 1) A B → Ix c s B)
    (h0 : ∀ W, Keep (fun k => k < w.heap.size) w W → w.heap.size + 2 ≤ W.heap.size → I [] W) (Ax : Value → Act → World → Prop)
    (hAx : ∀ x a' A B, Ax x a' A → Keep (fun k => k ≠ w.heap.size ∧ k ≠ w.heap.size + 1) A B → Ax x a' B)
    (hassign : ∀ (l : Nat) (pre : List Value) (x : Value) (W : World) (K : Act → World → Prop), pre ++ [x] <+: xs → w.heap.size + 2 ≤ W.heap.size → (∀ a' W', Below W.heap.size W W' → Ax x a' W' → K a' W') →
      assign.wpIn (Fence.wide.inRound l) 0 P (Exit.then K (fun _ _ _ => False)) { tmps := a.tmps.setIfInBounds p x, defers := [] } W)
    (hbody : ∀ (l : Nat) (pre : List Value) (x : Value) (a' : Act) (W : World), pre ++ [x] <+: xs → I pre W → Ax x a' W → w.heap.size + 2 ≤ W.heap.size →
      (∃ o, W.heap[w.heap.size]? = some o ∧ o.isCells = false) → (∃ o, W.heap[w.heap.size + 1]? = some o ∧ o.isCells = false) →
      body.wpIn (Fence.wide.inRound l) 0 P (roundEndV (fun k => fp k ∨ k = w.heap.size ∨ k = w.heap.size + 1) I Ix (pre ++ [x]) W) a' W)
    (hdone : ∀ (W : World), I xs W → W.heap[w.heap.size]? = some (.deferred (some [])) → Q .normal { a with defers := { target := .collected w.heap.size, args := #[] } :: a.defers } W)
    (hstop : ∀ (c : Code) (pre : List Value) (W : World), pre <+: xs → Ix c pre W → W.heap[w.heap.size]? = some (.deferred (some [])) → c.wpIn Fence.wide 0 P Q { a with defers := { target := .collected w.heap.size, args := #[] } :: a.defers } W) :
    (Code.rangeFunc g #[p] assign body).wpIn Fence.wide 0 P Q a w := by
  refine wpIn_rangeFunc ?_
  intro fn hfn
  obtain ⟨rec, hrec⟩ : ∃ rec : LoopState → Option Code → Loop, rec = fun st pe => { state := st, pending := pe, fn, tmps := a.tmps, params := #[p], assign, body, defers := w.heap.size } := ⟨_, rfl⟩
  obtain ⟨W1, hW1⟩ : ∃ W1, (w.alloc (.deferred (some []))).alloc (.loop (rec .ready none)) = W1 := ⟨_, rfl⟩
  have hsz1 : W1.heap.size = w.heap.size + 2 := by rw [← hW1]; simp
  have hL1 : W1.heap[w.heap.size + 1]? = some (.loop (rec .ready none)) := by
    rw [← hW1]; have := World.alloc_heap_new (w.alloc (.deferred (some []))) (.loop (rec .ready none)); rwa [World.size_alloc] at this
  have hK1 : W1.heap[w.heap.size]? = some (.deferred (some [])) := by
    rw [← hW1]; exact (Below.heap_alloc _ _ _ (by simp)).trans (World.alloc_heap_new w _)
  have hbw : Below w.heap.size w W1 := by rw [← hW1]; exact ((Below.refl _ w).alloc (Nat.le_refl _) _).alloc (by simp) _
  refine ⟨w.heap.size + 1, [{ target := .collected w.heap.size, args := #[] }], W1, { target := .fn (.func gf) lb, args := #[.func (.yield (w.heap.size + 1)) #[] #[]] }, W1, gf,
    #[.func (.yield (w.heap.size + 1)) #[] #[]] ++ lb, W1, ?_, ?_, ?_, ?_, fun h => by simp [Fence.wide] at h, ?_⟩
  · rw [← hW1, hrec]; exact run_enterLoop_outer _ _ _ _ _
  · simp only [resolve, hg]
    simp [go_sem]
  · intro f' hf'; exact trivial
  · simp [invoke, go_sem, eg]
  · refine (hseq (w.heap.size + 1)
      (fun pre W => (I pre W ∧ w.heap.size + 2 ≤ W.heap.size) ∧ W.heap[w.heap.size + 1]? = some (.loop (rec .ready none)) ∧ W.heap[w.heap.size]? = some (.deferred (some [])))
      (fun pre W => ∃ c, Ix c pre W ∧ W.heap[w.heap.size + 1]? = some (.loop (rec .done (some c))) ∧ W.heap[w.heap.size]? = some (.deferred (some [])))
      W1 (chain hb0 hbw) ?_ ?_ ?_).mono ?_
    · rintro s A B ⟨⟨hi, hsA⟩, hl, hk⟩ hAB
      exact ⟨⟨hI s A B hi hsA (Keep.of_below hAB), Nat.le_trans hsA hAB.size⟩, (hAB.block _ (Array.getElem?_eq_some_iff.1 hl).1).trans hl, (hAB.block _ (Array.getElem?_eq_some_iff.1 hk).1).trans hk⟩
    · rintro pre x W hpre ⟨⟨hi, hsW⟩, hl, hk⟩
      have hlt : w.heap.size + 1 < W.heap.size := (Array.getElem?_eq_some_iff.1 hl).1
      have hy := run_yield (P := P) (args := #[x]) hl (by rw [hrec]; simp)
      rw [hrec] at hy
      have hy' : (Instr.yield (w.heap.size + 1) #[x]).run P W = .ok (.round (w.heap.size + 1) fn (a.tmps.setIfInBounds p x) assign body) W := by
        simpa using hy
      refine ⟨fn, _, assign, body, hy', roundIn_of_wpIn hfn ?_⟩
      refine hassign _ pre x W _ hpre hsW ?_
      intro a' W' hbW' hax
      have hlW' : W'.heap[w.heap.size + 1]? = some (.loop (rec .ready none)) := (hbW'.block _ hlt).trans hl
      have hkW' : W'.heap[w.heap.size]? = some (.deferred (some [])) := (hbW'.block _ (by omega)).trans hk
      have hltW' : w.heap.size + 1 < W'.heap.size := by have := hbW'.size; omega
      refine ⟨_, run_beginRound hlW' (by rw [hrec]), ?_⟩
      have hl2 : (W'.putObj (w.heap.size + 1) (.loop { rec .ready none with state := .busy })).heap[w.heap.size + 1]? = some (.loop { rec .ready none with state := .busy }) := World.putObj_heap_same hltW'
      have hkp := Keep.put W' (w.heap.size + 1) (.loop { rec .ready none with state := .busy })
      have hkp2 : Keep (fun k => k ≠ w.heap.size ∧ k ≠ w.heap.size + 1) W' _ := hkp.mono fun k hk => hk.2
      refine wpIn_mono (hbody _ pre x a' _ hpre (hI pre _ _ (hI pre _ _ hi hsW (Keep.of_below hbW')) (Nat.le_trans hsW hbW'.size) hkp2) (hAx _ _ _ _ hax hkp2) (Nat.le_trans (Nat.le_trans hsW hbW'.size) hkp.size) ⟨_, (World.putObj_heap_other (by omega)).trans hkW', rfl⟩ ⟨_, hl2, rfl⟩) ?_
      have fin : ∀ (jump : Option Code) (W3 : World), (∀ k, (fp k ∨ k = w.heap.size ∨ k = w.heap.size + 1) → W3.heap[k]? = (W'.putObj (w.heap.size + 1) (.loop { rec .ready none with state := .busy })).heap[k]?) →
          (Instr.endRound (w.heap.size + 1) jump).run P W3 = .ok (.bool jump.isNone) (W3.putObj (w.heap.size + 1) (.loop (rec (if jump.isNone then .ready else .done) jump))) ∧
          W3.heap[w.heap.size + 1]? = some (.loop { rec .ready none with state := .busy }) ∧
          (W3.putObj (w.heap.size + 1) (.loop (rec (if jump.isNone then .ready else .done) jump))).heap[w.heap.size + 1]? = some (.loop (rec (if jump.isNone then .ready else .done) jump)) ∧
          (W3.putObj (w.heap.size + 1) (.loop (rec (if jump.isNone then .ready else .done) jump))).heap[w.heap.size]? = some (.deferred (some [])) := fun jump W3 hk3 => by
        have hl3 := (hk3 (w.heap.size + 1) (by simp)).trans hl2
        have := run_endRound (P := P) jump hl3
        rw [hrec] at this ⊢
        refine ⟨this, by rw [hrec] at hl3; exact hl3, World.putObj_heap_same (Array.getElem?_eq_some_iff.1 hl3).1, (World.putObj_heap_other (by omega)).trans ((hk3 w.heap.size (by simp)).trans ((World.putObj_heap_other (by omega)).trans hkW'))⟩
      rintro e a3 W3 hp
      have keepP : ∀ (o : Obj), Keep (fun k => k ≠ w.heap.size ∧ k ≠ w.heap.size + 1) W3 (W3.putObj (w.heap.size + 1) o) := fun o => (Keep.put W3 (w.heap.size + 1) o).mono fun k hk => hk.2
      cases e with
      | normal =>
        obtain ⟨hs3, hk3, hi3⟩ := hp
        obtain ⟨hr, hl3, hl4, hk4⟩ := fin none W3 hk3
        have hs3' : W.heap.size ≤ W3.heap.size := Nat.le_trans (Nat.le_trans hbW'.size hkp.size) hs3
        refine ⟨_, _, hr, .inl ⟨rfl, ⟨⟨hI _ _ _ hi3 (Nat.le_trans hsW hs3') (keepP _), Nat.le_trans (Nat.le_trans hsW hs3') (keepP _).size⟩, hl4, hk4⟩, ?_, ?_⟩⟩
        · exact Nat.le_trans hs3' (keepP _).size
        · intro k hk
          have hne : k ≠ w.heap.size + 1 := by have := hfp k hk; omega
          exact (World.putObj_heap_other hne).trans ((hk3 k (by simp [hk])).trans ((World.putObj_heap_other hne).trans (hbW'.block k (by have := hfp k hk; omega))))
      | ret =>
        obtain ⟨hs3, hk3, hi3⟩ := hp
        obtain ⟨hr, hl3, hl4, hk4⟩ := fin (some .ret) W3 hk3
        exact ⟨_, _, hr, .inr ⟨rfl, .ret, hIx _ _ _ _ hi3 (keepP _), hl4, hk4⟩⟩
      | exit id =>
        obtain ⟨hs3, hk3, hi3⟩ := hp
        obtain ⟨hr, hl3, hl4, hk4⟩ := fin (some (.exit id)) W3 hk3
        exact ⟨_, _, hr, .inr ⟨rfl, .exit id, hIx _ _ _ _ hi3 (keepP _), hl4, hk4⟩⟩
      | goto t =>
        obtain ⟨hs3, hk3, hi3⟩ := hp
        obtain ⟨hr, hl3, hl4, hk4⟩ := fin (some (.goto t)) W3 hk3
        exact ⟨_, _, hr, .inr ⟨rfl, .goto t, hIx _ _ _ _ hi3 (keepP _), hl4, hk4⟩⟩
      | panic ch => exact hp.elim
      | outgrown => exact hp.elim
    · exact ⟨⟨h0 W1 (Keep.of_below hbw) (by omega), by omega⟩, hL1, hK1⟩
    · rintro e W2 ⟨⟨v, rfl⟩, (⟨⟨hi, hs2⟩, hl, hk⟩ | ⟨pre, hSp, c, hi, hl, hk⟩)⟩
      · refine ⟨none, _, by have := run_endLoop (P := P) hl (by rw [hrec]; simp); rw [hrec] at this; exact this, hdone _ (hI _ _ _ hi hs2 ((Keep.put W2 _ _).mono fun k hk => hk.2)) ((World.putObj_heap_other (by omega)).trans hk)⟩
      · refine ⟨some c, _, by have := run_endLoop (P := P) hl (by rw [hrec]; simp); rw [hrec] at this; exact this, hstop c pre _ hSp (hIx _ _ _ _ hi ((Keep.put W2 _ _).mono fun k hk => hk.2)) ((World.putObj_heap_other (by omega)).trans hk)⟩
end Go.Proofs.YtddcamcdjkiadaaGreatDoor

namespace Go.Proofs.YtddcamcdjkiadaaGreatDoor
open Go.RowKit
set_option linter.unusedVariables false
attribute [local go_sem] Oper.semAt_some

def candF (n c t : Nat) : Flt := ⟨(t / (n * c) : Nat), (t / c % n : Nat), (t % c : Nat)⟩
def everyTo (M : Mask) (t : Nat) : List Flt := ((List.range t).map (candF M.length (colsM M))).filter (okF M)
def everyF (M : Mask) : List Flt := everyTo M (4 * (M.length * colsM M))

theorem candF_at {n c k i j : Nat} (hi : i < n) (hj : j < c) : candF n c ((k * n + i) * c + j) = ⟨k, i, j⟩ := by
  have h1 : ((k * n + i) * c + j) / c = k * n + i := by
    rw [Nat.mul_comm, Nat.mul_add_div (by omega), Nat.div_eq_of_lt hj]; rfl
  have h2 : ((k * n + i) * c + j) % c = j := by
    rw [Nat.mul_comm, Nat.mul_add_mod, Nat.mod_eq_of_lt hj]
  have h3 : (k * n + i) % n = i := by rw [Nat.mul_comm, Nat.mul_add_mod, Nat.mod_eq_of_lt hi]
  have h4 : ((k * n + i) * c + j) / (n * c) = k := by
    rw [Nat.mul_comm n c, ← Nat.div_div_eq_div_mul, h1, Nat.mul_comm, Nat.mul_add_div (by omega), Nat.div_eq_of_lt hi]; rfl
  unfold candF
  rw [h4, h1, h2, h3]

theorem everyTo_succ (M : Mask) {k i j : Nat} (hi : i < M.length) (hj : j < colsM M) :
    everyTo M ((k * M.length + i) * colsM M + (j + 1)) = everyTo M ((k * M.length + i) * colsM M + j) ++ (if okF M ⟨k, i, j⟩ then [⟨k, i, j⟩] else []) := by
  unfold everyTo
  rw [← Nat.add_assoc, List.range_succ, List.map_append, List.filter_append]
  simp only [List.map_cons, List.map_nil]
  rw [candF_at hi hj]
  cases h : okF M ⟨k, i, j⟩ <;> simp [h]

theorem everyTo_prefix (M : Mask) {s t : Nat} (h : s ≤ t) : everyTo M s <+: everyTo M t := by
  unfold everyTo
  obtain ⟨d, rfl⟩ := Nat.exists_eq_add_of_le h
  rw [List.range_add, List.map_append, List.filter_append]
  exact List.prefix_append _ _

theorem index_lt {n c k i j : Nat} (hk : k < 4) (hi : i < n) (hj : j < c) : (k * n + i) * c + (j + 1) ≤ 4 * (n * c) := by
  have h1 : (k * n + i) * c + (j + 1) ≤ (k * n + i + 1) * c := by rw [Nat.add_mul (k * n + i) 1 c]; omega
  have h2 : k * n + i + 1 ≤ 4 * n := by
    have : k * n + n ≤ 4 * n := by
      have := Nat.mul_le_mul (show k + 1 ≤ 4 by omega) (Nat.le_refl n)
      rw [Nat.add_mul] at this; omega
    omega
  calc (k * n + i) * c + (j + 1) ≤ (k * n + i + 1) * c := h1
    _ ≤ (4 * n) * c := Nat.mul_le_mul h2 (Nat.le_refl c)
    _ = 4 * (n * c) := Nat.mul_assoc _ _ _

theorem frame_keep {w0 wr w1 : World} {p : Nat → Prop} (hp : ∀ q, p q → q < w0.heap.size) (hfr : ∀ q, p q → wr.heap[q]? = w0.heap[q]?) (hb : Below wr.heap.size wr w1) : ∀ q, p q → w1.heap[q]? = w0.heap[q]? := by
  intro q hq
  have h1 := hfr q hq
  have h2 := hp q hq
  have h3 : q < wr.heap.size := by
    rcases Nat.lt_or_ge q wr.heap.size with h4 | h4
    · exact h4
    · rw [Array.getElem?_eq_none h4, Array.getElem?_eq_getElem h2] at h1; cases h1
  rw [hb.block q h3]; exact h1

set_option maxRecDepth 100000 in
set_option maxHeartbeats 4000000 in
theorem iter_faults (w0 : World) (fb : Nat) (a : Option Addr) (n cap : Nat) (M : Mask) (hn : M.length = n) (H : RowsAt w0 a M) (hM : okM M = true) (hfb : fb < w0.heap.size) (hf : w0.cell? ⟨fb, 0, none⟩ = some (.slice a n cap)) (N : Nat) (hN : N ≤ w0.heap.size) (HN : Below N w0 w0) (hold : ∀ W, (∀ k, k < N ∨ k = fb → W.heap[k]? = w0.heap[k]?) → RowsAt W a M) :
    IterVals Tryz.prog 114 #[.pointer (some ⟨fb, 0, none⟩)] ((everyF M).map Flt.val) (fun k => k < N ∨ k = fb) w0 := by
  intro l J Jx W hb hJ hY h0
  obtain ⟨m1, m6, c1, c10, hrows⟩ := okM_len hM
  have hn6 : n ≤ 6 := by omega
  obtain ⟨c, hc⟩ : ∃ c, c = colsM M := ⟨_, rfl⟩
  have HJ := hid hJ
  have HY := hid hY
  have H0 := hid h0
  have HNN := hid hn
  have HC := hid hc
  have HM := hid hM
  have HW0 := hid (show ∀ k, k < N ∨ k = fb → W.heap[k]? = w0.heap[k]? from fun k hk => hb.block k (by rcases hk with h | rfl <;> omega))
  have HOld := hid hold
  have HFb := hid hfb
  have HFc := hid hf
  have HNw := hid hN
  rw [← hc] at c1 c10
  have HFP := hid (show ∀ q, (q < N ∨ q = fb) → q < w0.heap.size from fun q hq => by rcases hq with h | rfl <;> omega)
  clear hJ hY h0 hn hc hM hold hfb hf hN H hrows m1 m6 HN
  have hmk : ∀ (fn : Fn) (first cap : Array Value) (w : World), (Instr.makeFunc fn first cap).run Tryz.prog w = .ok (.func fn first cap) w := fun _ _ _ _ => rfl
  refine callsIn_of_wp Tryz.func114 rfl trivial ?_ rfl
  simp only [Tryz.ntmps114, List.size_toArray, List.length_cons, List.length_nil, Nat.reduceAdd, Nat.reduceSub, Array.replicate_succ, Array.replicate_zero, List.push_toArray, List.append_toArray, List.nil_append, List.cons_append]
  gi_wp2
  gi_loopw [7] (fun v wr => ∃ k : Nat, k ≤ 4 ∧ v = .int .i64 k ∧ J ((everyTo M (k * n * c)).map Flt.val) wr ∧ (∀ q, q < N ∨ q = fb → wr.heap[q]? = w0.heap[q]?)) (fun v _ => 4 - (intOf v).toNat)
  case atStart => exact ⟨0, by omega, rfl, by simpa [everyTo] using H0.out, HW0.out⟩
  case round =>
    obtain ⟨k, hk, rfl, hJk, hfr⟩ := hrel
    have hfc : wr.cell? ⟨fb, 0, none⟩ = some (.slice a n cap) := (World.cell?_of_block (a := ⟨fb, 0, none⟩) (hfr fb (.inr rfl))).trans HFc.out
    by_cases hk4 : k < 4
    · have hk4' : ((k : Int) < 4) := by omega
      obtain ⟨wk, hwk⟩ : ∃ wk, wk = wr := ⟨_, rfl⟩
      rw [← hwk] at hJk hfr hfc ⊢
      clear hwk
      have HJK := hid hJk
      have HFR := hid hfr
      clear hJk hfr
      gi_wp2
      gi_loopw [12] (fun v wr => ∃ i : Nat, i ≤ n ∧ v = .int .i64 i ∧ J ((everyTo M ((k * n + i) * c)).map Flt.val) wr ∧ (∀ q, q < N ∨ q = fb → wr.heap[q]? = w0.heap[q]?)) (fun v _ => n - (intOf v).toNat)
      case atStart => exact ⟨0, Nat.zero_le _, rfl, by simpa using HJK.out, HFR.out⟩
      case round =>
        obtain ⟨i, hi, rfl, hJi, hfr⟩ := hrel
        have hfc : wr.cell? ⟨fb, 0, none⟩ = some (.slice a n cap) := (World.cell?_of_block (a := ⟨fb, 0, none⟩) (hfr fb (.inr rfl))).trans HFc.out
        by_cases hin : i < n
        · obtain ⟨wi, hwi⟩ : ∃ wi, wi = wr := ⟨_, rfl⟩
          rw [← hwi] at hJi hfr hfc ⊢
          clear hwi
          obtain ⟨b, off, qa, qn, qc, rfl, hbs, hq0, hqn, hqm, hqi⟩ := (HOld.out wi hfr) 0 (by have := HNN.out; omega)
          simp only [Nat.add_zero] at hq0
          have hqc : qn = c := by rw [HC.out]; unfold colsM; rw [List.getElem?_eq_getElem (by have := HNN.out; omega), ← hqn]; rfl
          subst hqc
          have HJI := hid hJi
          have HFR := hid hfr
          clear hJi hfr hqn hqi
          have hn0 : 0 < n := by omega
          gi_wp2
          gi_loopw [19] (fun v wr => ∃ j : Nat, j ≤ qn ∧ v = .int .i64 j ∧ J ((everyTo M ((k * n + i) * qn + j)).map Flt.val) wr ∧ (∀ q, q < N ∨ q = fb → wr.heap[q]? = w0.heap[q]?)) (fun v _ => qn - (intOf v).toNat)
          case atStart => exact ⟨0, Nat.zero_le _, rfl, by simpa using HJI.out, HFR.out⟩
          case round =>
            obtain ⟨j, hj, rfl, hJj, hfr⟩ := hrel
            have hfc : wr.cell? ⟨fb, 0, none⟩ = some (.slice (some ⟨b, off, none⟩) n cap) := (World.cell?_of_block (a := ⟨fb, 0, none⟩) (hfr fb (.inr rfl))).trans HFc.out
            by_cases hjn : j < qn
            · have hsucc := everyTo_succ M (k := k) (i := i) (j := j) (by have := HNN.out; omega) (by have := HC.out; omega)
              have hpre := everyTo_prefix M (index_lt (n := M.length) (c := colsM M) hk4 (show i < M.length by have := HNN.out; omega) (show j < colsM M by have := HC.out; omega))
              rw [HNN.out, ← HC.out] at hsucc hpre
              obtain ⟨wf, hwf, hb0, hcells⟩ := fltBox wr ⟨k, i, j⟩
              obtain ⟨_, f0, f1, f2⟩ := hcells wf (Below.refl _ _)
              have hfcf : wf.cell? ⟨fb, 0, none⟩ = some (.slice (some ⟨b, off, none⟩) n cap) := (hb0.cell (p := ⟨fb, 0, none⟩) (World.block_lt_of_cell? wr ⟨fb, 0, none⟩ hfc)).trans hfc
              have HV := hid (fvalid_c wf (some ⟨b, off, none⟩) n cap M HNN.out ((HOld.out wr hfr).below hb0) HM.out ⟨k, i, j⟩)
              have HCells := hid hcells
              have HJJ := hid hJj
              have HFR2 := hid hfr
              have HB0 := hid hb0
              have HWF := hid hwf
              have HPre := hid hpre
              have HS := hid hsucc
              clear hJj hfr hcells hb0 hpre hsucc
              simp only [Flt.val] at HV
              cases hok : okF M ⟨k, i, j⟩
              · rw [hok] at HV
                have HOK := hid hok
                clear hok
                subst hwf
                gi_wp2_with (refine ⟨trivial, rfl, ?_⟩; gi_at_call 115; refine (callsIn_wide.2 HV.out).mono ?_; rintro e w1 ⟨rfl, hb1⟩; refine Stop.of ?_)
                refine Stop.go ?_
                gi_wp2
                refine ⟨fun _ h => (by cases h), ?_⟩
                gi_wp2
                have hbe := chain HB0.out hb1
                go_roundw
                case rel =>
                  refine ⟨j + 1, by omega, by go_num, ?_, frame_keep HFP.out HFR2.out hbe⟩
                  have h9 := HS.out
                  rw [HOK.out] at h9
                  simp only [Bool.false_eq_true, if_false, List.append_nil] at h9
                  rw [h9]
                  exact HJ.out _ _ _ HJJ.out hbe
                case measure => simp [intOf]; omega
              · rw [hok] at HV HS
                simp only [if_true] at HS
                subst hwf
                gi_wp2_with (refine ⟨trivial, rfl, ?_⟩; gi_at_call 115; refine (callsIn_wide.2 HV.out).mono ?_; rintro e w1 ⟨rfl, hb1⟩; refine Stop.of ?_)
                refine Stop.go ?_
                have hbe := chain HB0.out hb1
                have HFR1 := hid (frame_keep HFP.out HFR2.out hbe)
                obtain ⟨_, e0, e1, e2⟩ := HCells.out w1 hb1
                have hpx : (everyTo M ((k * n + i) * qn + j)).map Flt.val ++ [Flt.val ⟨k, i, j⟩] <+: (everyF M).map Flt.val := by
                  have := HPre.out
                  rw [HS.out] at this
                  have h2 := List.IsPrefix.map Flt.val this
                  unfold everyF
                  rw [HNN.out, ← HC.out]
                  simpa using h2
                have hyk := HY.out _ (Flt.val ⟨k, i, j⟩) w1 hpx (HJ.out _ _ _ HJJ.out hbe)
                have HPX := hid hpx
                have HJ9 := hid (show (everyTo M ((k * n + i) * qn + (j + 1))).map Flt.val = (everyTo M ((k * n + i) * qn + j)).map Flt.val ++ [Flt.val ⟨k, i, j⟩] by rw [HS.out, List.map_append]; rfl)
                clear hpx
                simp only [Flt.val] at hyk
                obtain ⟨fn, tmps, assign, body, hy, hR⟩ := hyk
                gi_wp2
                refine ⟨rfl, hR.mono ?_⟩
                clear hR hy
                rintro e W3 (⟨rfl, hJ3, hs3, hk3⟩ | ⟨rfl, hJx⟩)
                · gi_wp2
                  go_roundw
                  case rel =>
                    refine ⟨j + 1, by omega, by go_num, ?_, fun q hq => (hk3 q hq).trans (HFR1.out q hq)⟩
                    rw [HJ9.out]; exact hJ3
                  case measure => simp [intOf]; omega
                · gi_wp2
                  refine bodyPost_ret (results_none rfl _ _ _) rfl ?_
                  exact ⟨⟨_, rfl⟩, .inr ⟨_, HPX.out, hJx⟩⟩
            · obtain rfl : j = qn := by omega
              gi_wp2
              go_roundw
              case rel =>
                refine ⟨i + 1, by omega, by go_num, ?_, hfr⟩
                rw [show (k * n + (i + 1)) * j = (k * n + i) * j + j by rw [← Nat.add_assoc, Nat.add_mul]; omega]
                exact hJj
              case measure => simp [intOf]; omega
        · obtain rfl : i = n := by omega
          gi_wp2
          go_roundw
          case rel =>
            refine ⟨k + 1, by omega, by go_num, ?_, hfr⟩
            rw [Nat.add_mul k 1 i, Nat.one_mul]
            exact hJi
          case measure => simp [intOf]; omega
    · obtain rfl : k = 4 := by omega
      gi_wp2
      go_end0
      refine ⟨⟨_, rfl⟩, .inl ?_⟩
      unfold everyF
      rw [HNN.out, ← HC.out, ← Nat.mul_assoc]
      exact hJk
end Go.Proofs.YtddcamcdjkiadaaGreatDoor

namespace Go.Proofs.YtddcamcdjkiadaaGreatDoor
open Go.RowKit Go.Shelf
set_option linter.unusedVariables false

def undec (l : List UInt8) : Nat := l.foldl (fun a d => a * 10 + (d.toNat - 48)) 0
theorem dig8 {k : Nat} (h : k < 10) : (UInt8.ofNat (48 + k)).toNat = 48 + k := by
  rw [UInt8.toNat_ofNat_of_lt']; show 48 + k < 256; omega
theorem undec_dec (u : Nat) : undec (Lib.decDigits u) = u := by
  induction u using Nat.strongRecOn with
  | _ u ih =>
    rw [Lib.decDigits]
    split
    · rename_i h
      simp only [undec, List.foldl_cons, List.foldl_nil, dig8 h]; omega
    · rename_i h
      have h1 := ih (u / 10) (by omega)
      unfold undec at h1 ⊢
      rw [List.foldl_append, h1]
      simp only [List.foldl_cons, List.foldl_nil, dig8 (Nat.mod_lt u (show 10 > 0 by omega))]; omega
theorem dec_mem (u : Nat) : ∀ d ∈ Lib.decDigits u, 48 ≤ d.toNat ∧ d.toNat ≤ 57 := by
  induction u using Nat.strongRecOn with
  | _ u ih =>
    rw [Lib.decDigits]
    split
    · rename_i h
      intro d hd
      simp only [List.mem_singleton] at hd
      subst hd
      rw [dig8 h]; omega
    · rename_i h
      intro d hd
      rcases List.mem_append.1 hd with hd | hd
      · exact ih (u / 10) (by omega) d hd
      · simp only [List.mem_singleton] at hd
        subst hd
        have := Nat.mod_lt u (show 10 > 0 by omega)
        rw [dig8 this]; omega
theorem dec_ne (u : Nat) : Lib.decDigits u ≠ [] := by
  rw [Lib.decDigits]
  split <;> simp
theorem itoa_inj {a b : Int} (h : Lib.itoa a = Lib.itoa b) : a = b := by
  unfold Lib.itoa at h
  by_cases ha : a < 0 <;> by_cases hb : b < 0
  · rw [if_pos ha, if_pos hb] at h
    have h2 := congrArg undec (List.cons.inj h).2
    rw [undec_dec, undec_dec] at h2; omega
  · rw [if_pos ha, if_neg hb] at h
    have := dec_mem b.toNat 45 (by rw [← h]; simp)
    simp at this
  · rw [if_neg ha, if_pos hb] at h
    have := dec_mem a.toNat 45 (by rw [h]; simp)
    simp at this
  · rw [if_neg ha, if_neg hb] at h
    have h2 := congrArg undec h
    rw [undec_dec, undec_dec] at h2; omega
theorem itoa_mem (n : Int) : ∀ d ∈ Lib.itoa n, d.toNat = 45 ∨ (48 ≤ d.toNat ∧ d.toNat ≤ 57) := by
  intro d hd
  unfold Lib.itoa at hd
  split at hd
  · rcases List.mem_cons.1 hd with rfl | hd
    · left; rfl
    · right; exact dec_mem _ d hd
  · right; exact dec_mem _ d hd
theorem itoa_no (n : Int) (c : UInt8) (h : c.toNat < 45) : c ∉ Lib.itoa n := by
  intro hc
  have := itoa_mem n c hc
  omega

theorem snoc_ind {α : Type} {P : List α → Prop} (h0 : P []) (h1 : ∀ xs f, P xs → P (xs ++ [f])) (xs : List α) : P xs := by
  have key : ∀ n, ∀ xs : List α, xs.length = n → P xs := by
    intro n
    induction n with
    | zero => intro xs h; rw [List.eq_nil_of_length_eq_zero h]; exact h0
    | succ n ih =>
      intro xs h
      have hne : xs ≠ [] := by intro e; subst e; simp at h
      rw [← List.dropLast_concat_getLast hne]
      exact h1 _ _ (ih _ (by rw [List.length_dropLast]; omega))
  exact key _ xs rfl
theorem flat_congr {α β : Type} {l : List α} {f g : α → List β} (h : ∀ x ∈ l, f x = g x) : l.flatMap f = l.flatMap g := by
  induction l with
  | nil => rfl
  | cons x l ih => rw [List.flatMap_cons, List.flatMap_cons, h x (by simp), ih (fun y hy => h y (by simp [hy]))]

theorem cut_inj {α : Type} {x : α} : ∀ {s s' t t' : List α}, x ∉ s → x ∉ s' → s ++ x :: t = s' ++ x :: t' → s = s' ∧ t = t'
  | [], [], t, t', _, _, h => by simpa using h
  | [], y :: s', t, t', _, h2, h => by
    simp only [List.nil_append, List.cons_append, List.cons.injEq] at h
    exact absurd (by rw [h.1]; simp) h2
  | y :: s, [], t, t', h1, _, h => by
    simp only [List.nil_append, List.cons_append, List.cons.injEq] at h
    exact absurd (by rw [h.1]; simp) h1
  | y :: s, z :: s', t, t', h1, h2, h => by
    simp only [List.cons_append, List.cons.injEq] at h
    obtain ⟨e1, e2⟩ := cut_inj (fun hm => h1 (by simp [hm])) (fun hm => h2 (by simp [hm])) h.2
    exact ⟨by rw [h.1, e1], e2⟩

theorem numT_cons (x : Int) (l : List Int) : numT (x :: l) = Lib.itoa x ++ 32 :: numT l := by simp [numT]
theorem numT_inj : ∀ {l l' : List Int}, numT l = numT l' → l = l'
  | [], [], _ => rfl
  | [], x :: l', h => by rw [numT_cons] at h; simp [numT] at h
  | x :: l, [], h => by rw [numT_cons] at h; simp [numT] at h
  | x :: l, y :: l', h => by
    rw [numT_cons, numT_cons] at h
    obtain ⟨e1, e2⟩ := cut_inj (itoa_no x 32 (by decide)) (itoa_no y 32 (by decide)) h
    rw [itoa_inj e1, numT_inj e2]

theorem flat_inj {α β : Type} (f g : α → List β) : ∀ (L : List α), (∀ x ∈ L, (f x).length = (g x).length) → L.flatMap f = L.flatMap g → ∀ x ∈ L, f x = g x
  | [], _, _, x, hx => by simp at hx
  | y :: L, hl, h, x, hx => by
    simp only [List.flatMap_cons] at h
    obtain ⟨e1, e2⟩ := List.append_inj h (hl y (by simp))
    rcases List.mem_cons.1 hx with rfl | hx
    · exact e1
    · exact flat_inj f g L (fun z hz => hl z (by simp [hz])) e2 x hx

def sameR (M : Mask) (L : List (List Int)) (f g : Flt) : Bool := L.all (fun x => decide (readF M f x = readF M g x))
theorem toldT_numT (M : Mask) (f : Flt) (L : List (List Int)) : toldT M f L = numT (L.flatMap (readF M f)) := by
  unfold toldT numT
  rw [List.flatMap_assoc]
theorem toldT_iff (M : Mask) (f g : Flt) (L : List (List Int)) : toldT M f L = toldT M g L ↔ sameR M L f g = true := by
  unfold sameR
  rw [List.all_eq_true]
  constructor
  · intro h x hx
    rw [toldT_numT, toldT_numT] at h
    exact decide_eq_true (flat_inj _ _ L (fun y _ => by rw [readF_length, readF_length]) (numT_inj h) x hx)
  · intro h
    unfold toldT
    exact flat_congr fun x hx => by rw [of_decide_eq_true (h x hx)]

theorem sgn_inj {a b : Int} (ha : -1 ≤ a ∧ a ≤ 1) (hb : -1 ≤ b ∧ b ≤ 1) (h : sgnB a = sgnB b) : a = b := by
  have h1 : a = -1 ∨ a = 0 ∨ a = 1 := by omega
  have h2 : b = -1 ∨ b = 0 ∨ b = 1 := by omega
  rcases h1 with rfl | rfl | rfl <;> rcases h2 with rfl | rfl | rfl <;> simp [sgnB] at h ⊢
theorem sgn_no (r : List Int) : (10 : UInt8) ∉ r.map sgnB := by
  intro h
  obtain ⟨n, _, e⟩ := List.mem_map.1 h
  unfold sgnB at e
  split at e
  · cases e
  · split at e <;> cases e
theorem sgn_map_inj : ∀ {r s : List Int}, (∀ n ∈ r, -1 ≤ n ∧ n ≤ 1) → (∀ n ∈ s, -1 ≤ n ∧ n ≤ 1) → r.map sgnB = s.map sgnB → r = s
  | [], [], _, _, _ => rfl
  | [], y :: s, _, _, h => by simp at h
  | x :: r, [], _, _, h => by simp at h
  | x :: r, y :: s, h1, h2, h => by
    simp only [List.map_cons, List.cons.injEq] at h
    rw [sgn_inj (h1 x (by simp)) (h2 y (by simp)) h.1, sgn_map_inj (fun n hn => h1 n (by simp [hn])) (fun n hn => h2 n (by simp [hn])) h.2]
theorem fmtM_cons (r : List Int) (M : Mask) : fmtM (r :: M) = r.map sgnB ++ 10 :: fmtM M := by simp [fmtM]
theorem fmtM_inj : ∀ {M N : Mask}, (∀ r ∈ M, ∀ n ∈ r, -1 ≤ n ∧ n ≤ 1) → (∀ r ∈ N, ∀ n ∈ r, -1 ≤ n ∧ n ≤ 1) → fmtM M = fmtM N → M = N
  | [], [], _, _, _ => rfl
  | [], r :: N, _, _, h => by rw [fmtM_cons] at h; simp [fmtM] at h
  | r :: M, [], _, _, h => by rw [fmtM_cons] at h; simp [fmtM] at h
  | r :: M, s :: N, h1, h2, h => by
    rw [fmtM_cons, fmtM_cons] at h
    obtain ⟨e1, e2⟩ := cut_inj (sgn_no r) (sgn_no s) h
    rw [sgn_map_inj (h1 r (by simp)) (h2 s (by simp)) e1, fmtM_inj (fun t ht => h1 t (by simp [ht])) (fun t ht => h2 t (by simp [ht])) e2]
theorem textM_inj {M N : Mask} (hM : okM M = true) (hN : okM N = true) (h : textM M = textM N) : M = N := by
  unfold textM at h
  rw [if_pos hM, if_pos hN] at h
  exact fmtM_inj (fun r hr => ((okM_len hM).2.2.2.2 r hr).2) (fun r hr => ((okM_len hN).2.2.2.2 r hr).2) h

def allTo (M : Mask) (xs : List Flt) : List Flt := xs.foldl (fun out f => if out.any (fun g => decide (faultyM M g = faultyM M f)) then out else out ++ [f]) []
def allF (M : Mask) : List Flt := allTo M (everyF M)
theorem allTo_snoc (M : Mask) (xs : List Flt) (f : Flt) : allTo M (xs ++ [f]) = if (allTo M xs).any (fun g => decide (faultyM M g = faultyM M f)) then allTo M xs else allTo M xs ++ [f] := by
  unfold allTo; rw [List.foldl_append]; rfl
theorem allTo_length (M : Mask) (xs : List Flt) : (allTo M xs).length ≤ xs.length := by
  induction xs using snoc_ind with
  | h0 => simp [allTo]
  | h1 xs f ih => rw [allTo_snoc]; split <;> simp <;> omega
theorem allTo_mem {M : Mask} {xs : List Flt} {f : Flt} (h : f ∈ allTo M xs) : f ∈ xs := by
  induction xs using snoc_ind with
  | h0 => simp [allTo] at h
  | h1 xs g ih =>
    rw [allTo_snoc] at h
    split at h
    · exact List.mem_append_left _ (ih h)
    · rcases List.mem_append.1 h with h | h
      · exact List.mem_append_left _ (ih h)
      · exact List.mem_append_right _ h
theorem allTo_has {M : Mask} {xs : List Flt} {f : Flt} (h : f ∈ xs) : ∃ g ∈ allTo M xs, faultyM M g = faultyM M f := by
  induction xs using snoc_ind with
  | h0 => simp at h
  | h1 xs g ih =>
    rw [allTo_snoc]
    rcases List.mem_append.1 h with h | h
    · obtain ⟨k, hk, e⟩ := ih h
      split
      · exact ⟨k, hk, e⟩
      · exact ⟨k, List.mem_append_left _ hk, e⟩
    · simp only [List.mem_singleton] at h
      subst h
      split
      · rename_i hany
        obtain ⟨k, hk, e⟩ := List.any_eq_true.1 hany
        exact ⟨k, hk, of_decide_eq_true e⟩
      · exact ⟨f, by simp, rfl⟩
theorem every_ok {M : Mask} {f : Flt} (h : f ∈ everyF M) : okF M f = true := by
  unfold everyF everyTo at h
  exact (List.mem_filter.1 h).2
theorem all_ok {M : Mask} {f : Flt} (h : f ∈ allF M) : okF M f = true := every_ok (allTo_mem h)
theorem every_length {M : Mask} : (everyF M).length ≤ 4 * (M.length * colsM M) := by
  unfold everyF everyTo
  refine Nat.le_trans (List.length_filter_le _ _) ?_
  simp
theorem every_240 {M : Mask} (h : okM M = true) : (everyF M).length ≤ 240 := by
  obtain ⟨_, m6, _, c10, _⟩ := okM_len h
  have := Nat.mul_le_mul m6 c10
  have := @every_length M
  omega
theorem all_240 {M : Mask} (h : okM M = true) : (allF M).length ≤ 240 := Nat.le_trans (allTo_length M _) (every_240 h)

end Go.Proofs.YtddcamcdjkiadaaGreatDoor

namespace Go.Proofs.YtddcamcdjkiadaaGreatDoor
open Go Go.Lib
set_option linter.unusedVariables false

theorem dec_fold_le (l : List UInt8) : ∀ (acc : Nat), acc ≤ l.foldl (fun a d => a * 10 + (d.toNat - 48)) acc := by
  induction l with
  | nil => intro acc; exact Nat.le_refl _
  | cons d l ih =>
    intro acc
    rw [List.foldl_cons]
    have := ih (acc * 10 + (d.toNat - 48))
    omega
theorem parse_dec : ∀ (l : List UInt8) (acc : Nat), (∀ d ∈ l, 48 ≤ d.toNat ∧ d.toNat ≤ 57) → l.foldl (fun a d => a * 10 + (d.toNat - 48)) acc < 18446744073709551616 → parseUint10 acc l = .ok (l.foldl (fun a d => a * 10 + (d.toNat - 48)) acc)
  | [], acc, _, _ => rfl
  | d :: l, acc, hd, h => by
    have h1 := hd d (by simp)
    rw [List.foldl_cons] at h ⊢
    have h2 := dec_fold_le l (acc * 10 + (d.toNat - 48))
    rw [parseUint10, if_pos h1, if_neg (by omega), if_neg (by omega)]
    exact parse_dec l _ (fun x hx => hd x (by simp [hx])) h
theorem parse_num (u : Nat) (h : u < 18446744073709551616) : parseMag (decDigits u) = .ok u := by
  have e : (decDigits u).foldl (fun a d => a * 10 + (d.toNat - 48)) 0 = u := undec_dec u
  unfold parseMag
  rw [if_neg (dec_ne u), parse_dec _ 0 (dec_mem u) (by rw [e]; exact h), e]
theorem atoi_itoa (n : Int) (h0 : -9223372036854775808 ≤ n) (h1 : n ≤ 9223372036854775807) : atoiAll (itoa n) = .ok n := by
  by_cases hn : n < 0
  · have e : itoa n = 45 :: decDigits (-n).toNat := by
      unfold itoa; rw [if_pos hn]; congr 2; omega
    rw [e]
    unfold atoiAll
    simp only []
    have e2 : ((45 : UInt8).toNat = 43 ∨ (45 : UInt8).toNat = 45) = True := by simp
    simp only [e2, if_true]
    rw [parse_num _ (by omega)]
    simp only []
    rw [if_neg (fun h => h.1 rfl), if_neg (fun h => by have := h.2; omega), if_pos (show UInt8.toNat 45 = 45 from rfl)]
    congr 1; omega
  · have e : itoa n = decDigits n.toNat := by unfold itoa; rw [if_neg hn]
    rw [e]
    rcases hd : decDigits n.toNat with _ | ⟨c, r⟩
    · exact absurd hd (dec_ne _)
    · have hc := dec_mem n.toNat c (by rw [hd]; simp)
      unfold atoiAll
      simp only []
      have e2 : (c.toNat = 43 ∨ c.toNat = 45) = False := by simp; omega
      simp only [e2, if_false]
      rw [← hd, parse_num _ (by omega)]
      simp only []
      rw [if_neg (fun h => by have := h.2; omega), if_neg (fun h => by have := h.1; omega), if_neg (by omega)]
      congr 1; omega
def atV (w : List UInt8) : Int := match atoiAll w with | .ok v => v | .range => atoiSat w | _ => 0
theorem atV_itoa (n : Int) (h0 : -9223372036854775808 ≤ n) (h1 : n ≤ 9223372036854775807) : atV (itoa n) = n := by unfold atV; rw [atoi_itoa n h0 h1]

def wordsF : List UInt8 → List (List UInt8)
  | [] => [[]]
  | b :: r => if b = 32 then [] :: wordsF r else match wordsF r with | [] => [[b]] | w :: ws => (b :: w) :: ws
theorem words_ne (s : List UInt8) : wordsF s ≠ [] := by
  cases s with
  | nil => simp [wordsF]
  | cons b r =>
    unfold wordsF
    split
    · simp
    · split <;> simp
theorem index_cons_ne (b c : UInt8) (l : List UInt8) (h : b ≠ c) : index (b :: l) [c] = if index l [c] == -1 then -1 else index l [c] + 1 := by
  have hp : ([c] : List UInt8).isPrefixOf (b :: l) = false := by simp [List.isPrefixOf, Ne.symm h]
  rw [index, hp]; simp
theorem index_cons_eq (c : UInt8) (l : List UInt8) : index (c :: l) [c] = 0 := by rw [index]; simp [List.isPrefixOf]
theorem split_words : ∀ (s : List UInt8) (k : Nat), s.count 32 ≤ k → splitK [32] 0 k s = wordsF s
  | [], k, _ => by
    cases k with
    | zero => rfl
    | succ k => rw [splitK, if_pos (by simp [index])]; rfl
  | b :: r, k, h => by
    by_cases e : b = 32
    · subst e
      rw [List.count_cons_self] at h
      cases k with
      | zero => omega
      | succ k =>
        rw [splitK, index_cons_eq, if_neg (by simp)]
        simp only [Int.toNat_zero, Nat.add_zero, List.take_zero, List.length_singleton, Nat.zero_add, List.drop_succ_cons, List.drop_zero]
        rw [split_words r k (by omega)]
        simp [wordsF]
    · have hc : (b :: r).count 32 = r.count 32 := List.count_cons_of_ne (by simpa using e)
      rw [hc] at h
      have ih := split_words r k h
      have hw : wordsF (b :: r) = match wordsF r with | [] => [[b]] | w :: ws => (b :: w) :: ws := by rw [wordsF, if_neg e]
      rw [hw, ← ih]
      cases k with
      | zero => rfl
      | succ k =>
        rw [splitK, splitK, index_cons_ne b 32 r e]
        have hge := index_ge r [32]
        by_cases hm : index r [32] = -1
        · simp [hm]
        · have hm1 : ¬ (index r [32] == -1) = true := by simpa using hm
          have hm2 : ¬ (index r [32] + 1 == -1) = true := by simp; omega
          rw [if_neg hm1, if_neg hm2, if_neg hm1]
          obtain ⟨i, hi⟩ : ∃ i : Nat, index r [32] = i := ⟨(index r [32]).toNat, by omega⟩
          rw [hi]
          have e1 : ((i : Int) + 1).toNat = i + 1 := by omega
          rw [e1]
          simp only [Int.toNat_natCast, Nat.add_zero, List.length_singleton, List.take_succ_cons, List.drop_succ_cons]
theorem splitB_words (s : ByteArray) : (splitB ⟨#[32]⟩ 0 (countB s ⟨#[32]⟩) s).map (fun b => b.data.toList) = wordsF s.data.toList := by
  rw [splitB_data]
  have e : countB s ⟨#[32]⟩ = s.data.toList.count 32 := count_one 32 s.data.toList
  rw [e]
  exact split_words _ _ (Nat.le_refl _)
def joinW : List (List UInt8) → List UInt8
  | [] => []
  | [w] => w
  | w :: v :: ws => w ++ 32 :: joinW (v :: ws)
theorem words_app (a r : List UInt8) (h : (32 : UInt8) ∉ a) : wordsF (a ++ 32 :: r) = a :: wordsF r := by
  induction a with
  | nil => simp [wordsF]
  | cons b a ih =>
    have hb : b ≠ 32 := fun e => h (by simp [e])
    have ha : (32 : UInt8) ∉ a := fun e => h (by simp [e])
    rw [List.cons_append, wordsF, if_neg hb, ih ha]
theorem words_one (a : List UInt8) (h : (32 : UInt8) ∉ a) : wordsF a = [a] := by
  induction a with
  | nil => rfl
  | cons b a ih =>
    have hb : b ≠ 32 := fun e => h (by simp [e])
    have ha : (32 : UInt8) ∉ a := fun e => h (by simp [e])
    rw [wordsF, if_neg hb, ih ha]
theorem words_join : ∀ (ws : List (List UInt8)), ws ≠ [] → (∀ w ∈ ws, (32 : UInt8) ∉ w) → wordsF (joinW ws) = ws
  | [], h, _ => absurd rfl h
  | [w], _, h => words_one w (h w (by simp))
  | w :: v :: ws, _, h => by
    rw [joinW, words_app w _ (h w (by simp)), words_join (v :: ws) (by simp) (fun x hx => h x (by simp [hx]))]
theorem join_words : ∀ s : List UInt8, joinW (wordsF s) = s
  | [] => rfl
  | b :: r => by
    have ih := join_words r
    by_cases e : b = 32
    · subst e
      have hn := words_ne r
      rcases hw : wordsF r with _ | ⟨v, ws⟩
      · exact absurd hw hn
      · rw [wordsF, if_pos rfl, hw, joinW, ← hw, ih]; rfl
    · rcases hw : wordsF r with _ | ⟨v, ws⟩
      · exact absurd hw (words_ne r)
      · rw [hw] at ih
        rw [wordsF, if_neg e, hw]
        simp only []
        cases ws with
        | nil => rw [joinW] at ih ⊢; rw [ih]
        | cons x ws => rw [joinW] at ih ⊢; rw [List.cons_append, ih]
theorem join_app : ∀ (a b : List (List UInt8)), a ≠ [] → b ≠ [] → joinW (a ++ b) = joinW a ++ 32 :: joinW b
  | [], _, h, _ => absurd rfl h
  | [w], [], _, h => absurd rfl h
  | [w], v :: b, _, _ => rfl
  | w :: v :: a, b, _, hb => by
    have ih := join_app (v :: a) b (by simp) hb
    rw [List.cons_append, List.cons_append, joinW, ← List.cons_append, ih, joinW]
    simp
theorem mem_join {c : UInt8} : ∀ (ws : List (List UInt8)), c ∈ joinW ws → c = 32 ∨ ∃ w ∈ ws, c ∈ w
  | [], h => by simp [joinW] at h
  | [w], h => .inr ⟨w, by simp, h⟩
  | w :: v :: ws, h => by
    rw [joinW] at h
    rcases List.mem_append.1 h with h | h
    · exact .inr ⟨w, by simp, h⟩
    · rcases List.mem_cons.1 h with h | h
      · exact .inl h
      · rcases mem_join (v :: ws) h with h | ⟨x, hx, h⟩
        · exact .inl h
        · exact .inr ⟨x, by simp [hx], h⟩

theorem cut_hit {s sep t r : List UInt8} (h : cut s sep = (t, r, true)) : s = t ++ sep ++ r := by
  unfold cut at h
  split at h
  · rename_i h0
    rcases index_spec s sep with ⟨h1, _⟩ | ⟨i, h1, h2, h3, _⟩
    · omega
    · rw [h1] at h
      simp only [Int.toNat_natCast, Prod.mk.injEq, and_true] at h
      obtain ⟨rfl, rfl⟩ := h
      have h4 := List.isPrefixOf_iff_prefix.1 h3
      obtain ⟨u, hu⟩ := h4
      rw [← List.drop_drop, ← hu]
      simp only [List.drop_left]
      rw [List.append_assoc, hu, List.take_append_drop]
  · cases h
theorem cut_app {a sep b : List UInt8} (h : NoOcc (a ++ sep ++ b) sep a.length) : cut (a ++ sep ++ b) sep = (a, b, true) := by
  have ho : occAt (a ++ sep ++ b) sep a.length = true := by
    unfold occAt
    rw [List.append_assoc, List.drop_left]
    exact List.isPrefixOf_iff_prefix.2 ⟨b, rfl⟩
  have hi := index_hit h (by simp) ho
  unfold cut
  rw [hi, if_pos (by omega)]
  simp only [Int.toNat_natCast]
  rw [← List.length_append, List.drop_left, List.append_assoc, List.take_left]
theorem cut_one (a b : List UInt8) (c : UInt8) (h : c ∉ a) : cut (a ++ c :: b) [c] = (a, b, true) := by
  have e : a ++ c :: b = a ++ [c] ++ b := by simp
  rw [e]
  refine cut_app fun j hj => ?_
  cases ho : occAt (a ++ [c] ++ b) [c] j
  · rfl
  · have h2 := occAt_head rfl ho
    rw [List.append_assoc, List.getElem?_append_left hj] at h2
    exact absurd (List.mem_of_getElem? h2) h
theorem cut_second (a b : List UInt8) (x c y : UInt8) (h : c ∉ a) (hx : x ≠ c) : cut (a ++ [x, c, y] ++ b) [x, c, y] = (a, b, true) := by
  refine cut_app fun j hj => ?_
  cases ho : occAt (a ++ [x, c, y] ++ b) [x, c, y] j
  · rfl
  · exfalso
    unfold occAt at ho
    obtain ⟨u, hu⟩ := List.isPrefixOf_iff_prefix.1 ho
    have h2 : ((a ++ [x, c, y] ++ b).drop j)[1]? = some c := by rw [← hu]; rfl
    rw [List.getElem?_drop] at h2
    by_cases hj2 : j + 1 < a.length
    · rw [List.append_assoc, List.getElem?_append_left hj2] at h2
      exact h (List.mem_of_getElem? h2)
    · have e : j + 1 = a.length := by omega
      rw [e, List.append_assoc, List.getElem?_append_right (Nat.le_refl _), Nat.sub_self] at h2
      simp at h2
      exact hx h2
end Go.Proofs.YtddcamcdjkiadaaGreatDoor

namespace Go.Proofs.YtddcamcdjkiadaaGreatDoor
open Go.RowKit Go.Shelf
set_option linter.unusedVariables false

theorem sameR_refl (M : Mask) (L : List (List Int)) (f : Flt) : sameR M L f f = true := by simp [sameR]
theorem sameR_iff (M : Mask) (L : List (List Int)) (f g : Flt) : sameR M L f g = true ↔ ∀ x ∈ L, readF M f x = readF M g x := by simp [sameR]
theorem sameR_symm {M : Mask} {L : List (List Int)} {f g : Flt} (h : sameR M L f g = true) : sameR M L g f = true := by
  rw [sameR_iff] at h ⊢; exact fun x hx => (h x hx).symm
def idxR (M : Mask) (L : List (List Int)) (A : List Flt) (f : Flt) : Nat := A.findIdx (fun g => sameR M L f g)
def classF (M : Mask) (L : List (List Int)) : List Int := (allF M).map (fun f => (idxR M L (allF M) f : Int))
theorem classF_length (M : Mask) (L : List (List Int)) : (classF M L).length = (allF M).length := by simp [classF]
theorem idxR_take {M : Mask} {L : List (List Int)} {A : List Flt} {k : Nat} (hk : k < A.length) : idxR M L (A.take (k + 1)) A[k] = idxR M L A A[k] := by
  unfold idxR
  obtain ⟨f, hf⟩ : ∃ f, f = A[k] := ⟨_, rfl⟩
  rw [← hf]
  have h : (A.take (k + 1)).findIdx (fun g => sameR M L f g) < (A.take (k + 1)).length := by
    rw [List.findIdx_lt_length]
    exact ⟨f, by rw [List.mem_take_iff_getElem]; exact ⟨k, by omega, hf.symm⟩, sameR_refl _ _ _⟩
  conv => rhs; rw [← List.take_append_drop (k + 1) A]
  rw [List.findIdx_append]
  rw [if_pos h]
def enoughF (M : Mask) (L : List (List Int)) : Bool := decide (∀ i, i < (allF M).length → (classF M L)[i]? = some (i : Int))
end Go.Proofs.YtddcamcdjkiadaaGreatDoor

namespace Go.Proofs.YtddcamcdjkiadaaGreatDoor
open Go.RowKit Go.Maps
set_option linter.unusedVariables false

theorem isKey_string (s : List UInt8) : WideAt.IsKeyLit (.string s) := trivial
theorem keyS {P : Program} {k : TypeId} (hk : P.underlying k = some .string) {s : ByteArray} (h : s.size ≤ maxLen) : keyOf P k (.string s) = some (.string s.data.toList) := by
  first | exact keyOf_string_mk hk h | exact WideMaps.keyOf_string_mk hk h

theorem plainElem_bool_inv {P : Program} {e : TypeId} (he : P.underlying e = some .bool) {v : Value} {z : DataW Unit × List MemPlace} (h : plainElem (H := Unit) P e v = some z) : ∃ c, v = .bool c ∧ z = (.lit (.bool c), []) := by
  unfold plainElem at h
  rw [he] at h
  cases v <;> simp at h
  exact ⟨_, rfl, h.symm⟩

def MapSB (D : DataW Unit) (p : List UInt8 → Bool) : Prop := IsMap D ∧ ∀ s, D.atKey (.string s) (.lit (.bool false)) = .lit (.bool (p s))
theorem MapSB.nil : MapSB (.map []) (fun _ => false) := ⟨⟨[], rfl⟩, fun s => rfl⟩
theorem MapSB.put {D : DataW Unit} {p : List UInt8 → Bool} (h : MapSB D p) (s : List UInt8) (b : Bool) : MapSB (D.put (.string s) (.lit (.bool b))) (fun t => if t = s then b else p t) := by
  refine ⟨h.1.put _ _, fun t => ?_⟩
  by_cases e : t = s
  · subst e; rw [atKey_put_same h.1 (isKey_string t)]; simp
  · rw [atKey_put_other (fun h' => e (by simpa using h')), h.2 t]; simp [e]

def MapSI (D : DataW Unit) (f : List UInt8 → Option Int) : Prop := IsMap D ∧ ∀ s, has D (.string s) = (f s).isSome ∧ D.atKey (.string s) (.lit (.int .i64 0)) = .lit (.int .i64 ((f s).getD 0))
theorem MapSI.nil : MapSI (.map []) (fun _ => none) := ⟨⟨[], rfl⟩, fun s => ⟨rfl, rfl⟩⟩
theorem MapSI.put {D : DataW Unit} {f : List UInt8 → Option Int} (h : MapSI D f) (s : List UInt8) (n : Int) : MapSI (D.put (.string s) (.lit (.int .i64 n))) (fun t => if t = s then some n else f t) := by
  refine ⟨h.1.put _ _, fun t => ?_⟩
  by_cases e : t = s
  · subst e; rw [atKey_put_same h.1 (isKey_string t), has_put_same h.1 (isKey_string t)]; simp
  · rw [atKey_put_other (fun h' => e (by simpa using h')), has_put_other (fun h' => e (by simpa using h')), (h.2 t).1, (h.2 t).2]; simp [e]

section
variable {P : Program} {F : Fence} {nF : Nat}

theorem wpListIn_lookup_sb (w : World) {ops : Array Oper} {rest : List Oper} {o : Oper} {a : Act} {Q : Exit → Act → World → Prop}
    (hg : o.guard = none) (m x : Operand) (t : TypeId) (hop : o.op = Op.lookup t m x false)
    (k e : TypeId) (hk : P.underlying k = some .string) (ht : P.underlying t = some (.map k e)) (he : P.underlying e = some .bool) (hz : (zeroValue e).run P w = .ok (.bool false) w) (b n : Nat) (D : DataW Unit) (p : List UInt8 → Bool) (hD : MapSB D p)
    (hm : a.eval m = .map (some b)) (hown : w.ownsMap P k (plainElem P e) b n D) (s : ByteArray) (hx : a.eval x = .string s) (hs : s.size ≤ maxLen)
    (hK : wpListIn F nF P ops Q rest (a.put o.dst (.bool (p s.data.toList))) w) :
    wpListIn F nF P ops Q (o :: rest) a w := by
  refine wpListIn_plain hg fun K' hK' => ?_
  obtain ⟨v, ps, hrun, hv⟩ := hown.lookup (string_keyed hk) ht hz (plainElem_bool he false) (keyS hk hs)
  obtain ⟨c, rfl, hc⟩ := plainElem_bool_inv he hv
  rw [hD.2] at hc
  simp only [Prod.mk.injEq, DataW.lit.injEq, Lit.bool.injEq] at hc
  rw [← hc.1] at hrun
  unfold Oper.wpIn
  refine ⟨by simp [Oper.about, hop], ?_⟩
  rw [Oper.semAt_plain F _ _ (by rw [hop]; intro c hc'; cases hc')]
  simp [execOp, hop, hm, hx, hrun, Result.andThen]
  exact hK' _ _ hK

theorem wpList_lookup_si (w : World) {ops : Array Oper} {rest : List Oper} {o : Oper} {a : Act} {Q : Exit → Act → World → Prop}
    (hg : o.guard = none) (m x : Operand) (t : TypeId) (c : Bool) (hop : o.op = Op.lookup t m x c)
    (k e : TypeId) (hk : P.underlying k = some .string) (ht : P.underlying t = some (.map k e)) (he : P.underlying e = some (.int .i64)) (hz : (zeroValue e).run P w = .ok (.int .i64 0) w) (b n : Nat) (D : DataW Unit) (f : List UInt8 → Option Int) (hD : MapSI D f)
    (hm : a.eval m = .map (some b)) (hown : w.ownsMap P k (plainElem P e) b n D) (s : ByteArray) (hx : a.eval x = .string s) (hs : s.size ≤ maxLen)
    (hK : wpList P ops Q rest (a.put o.dst (if c then .tuple #[.int .i64 ((f s.data.toList).getD 0), .bool (f s.data.toList).isSome] else .int .i64 ((f s.data.toList).getD 0))) w) :
    wpList P ops Q (o :: rest) a w := by
  refine wpList_plain hg fun K' hK' => ?_
  obtain ⟨h1, h2⟩ := hD.2 s.data.toList
  cases c
  · obtain ⟨v, ps, hrun, hv⟩ := hown.lookup (string_keyed hk) ht hz (plainElem_int he (by decide)) (keyS hk hs)
    obtain ⟨c, rfl, hc, _⟩ := plainElem_int_inv he hv
    rw [h2] at hc
    simp only [Prod.mk.injEq, DataW.lit.injEq, Lit.int.injEq, true_and] at hc
    rw [← hc.1] at hrun
    unfold Oper.wp
    simp [execOp, hop, hm, hx, hrun, Result.andThen]
    exact hK' _ _ (by simpa using hK)
  · obtain ⟨v, ps, hrun, hv⟩ := hown.look_ok (string_keyed hk) ht hz (plainElem_int he (by decide)) (keyS hk hs)
    obtain ⟨c, rfl, hc, _⟩ := plainElem_int_inv he hv
    rw [h2] at hc
    simp only [Prod.mk.injEq, DataW.lit.injEq, Lit.int.injEq, true_and] at hc
    rw [← hc.1, h1] at hrun
    unfold Oper.wp
    simp [execOp, hop, hm, hx, hrun, Result.andThen]
    exact hK' _ _ (by simpa using hK)

theorem wpList_lookup_si_ok (w : World) {ops : Array Oper} {rest : List Oper} {o : Oper} {a : Act} {Q : Exit → Act → World → Prop}
    (hg : o.guard = none) (m x : Operand) (t : TypeId) (hop : o.op = Op.lookup t m x true)
    (k e : TypeId) (hk : P.underlying k = some .string) (ht : P.underlying t = some (.map k e)) (he : P.underlying e = some (.int .i64)) (hz : (zeroValue e).run P w = .ok (.int .i64 0) w) (b n : Nat) (D : DataW Unit) (f : List UInt8 → Option Int) (hD : MapSI D f)
    (hm : a.eval m = .map (some b)) (hown : w.ownsMap P k (plainElem P e) b n D) (s : ByteArray) (hx : a.eval x = .string s) (hs : s.size ≤ maxLen) (X : Option Int) (hX : X = f s.data.toList)
    (hK : wpList P ops Q rest (a.put o.dst (.tuple #[.int .i64 (X.getD 0), .bool X.isSome])) w) :
    wpList P ops Q (o :: rest) a w := by
  subst hX
  exact wpList_lookup_si w hg m x t true hop k e hk ht he hz b n D f hD hm hown s hx hs (by rw [if_pos rfl]; exact hK)

theorem wpList_lookup_si_one (w : World) {ops : Array Oper} {rest : List Oper} {o : Oper} {a : Act} {Q : Exit → Act → World → Prop}
    (hg : o.guard = none) (m x : Operand) (t : TypeId) (hop : o.op = Op.lookup t m x false)
    (k e : TypeId) (hk : P.underlying k = some .string) (ht : P.underlying t = some (.map k e)) (he : P.underlying e = some (.int .i64)) (hz : (zeroValue e).run P w = .ok (.int .i64 0) w) (b n : Nat) (D : DataW Unit) (f : List UInt8 → Option Int) (hD : MapSI D f)
    (hm : a.eval m = .map (some b)) (hown : w.ownsMap P k (plainElem P e) b n D) (s : ByteArray) (hx : a.eval x = .string s) (hs : s.size ≤ maxLen) (X : Int) (hX : (f s.data.toList).getD 0 = X)
    (hK : wpList P ops Q rest (a.put o.dst (.int .i64 X)) w) :
    wpList P ops Q (o :: rest) a w := by
  subst hX
  exact wpList_lookup_si w hg m x t false hop k e hk ht he hz b n D f hD hm hown s hx hs (by rw [if_neg (by simp)]; exact hK)
end
end Go.Proofs.YtddcamcdjkiadaaGreatDoor

namespace Go.Proofs.YtddcamcdjkiadaaGreatDoor
open Go.RowKit
set_option linter.unusedVariables false

theorem r9in_c (n lo hi : Int) (w : World) : Calls Tryz.prog 60 #[.int .i64 n, .int .i64 lo, .int .i64 hi] w fun e w' => e = .returned (.bool (inB n lo hi)) ∧ w = w' := by
  by_cases h1 : lo ≤ n <;> by_cases h2 : n ≤ hi
  all_goals
    go_enter Tryz.func60, Tryz.ntmps60
    go_wp2
    go_ret
    exact ⟨ret_bool (by simp [inB, h1, h2]), rfl⟩

theorem all_stop {α : Type} {p : α → Bool} {l : List α} {k : Nat} (hk : k < l.length) (h : p l[k] = false) : l.all p = false := by
  rw [List.all_eq_false]; exact ⟨l[k], List.getElem_mem hk, by simp [h]⟩
theorem all_done {α : Type} {p : α → Bool} {l : List α} (h : ∀ j (hj : j < l.length), p l[j] = true) : l.all p = true := by
  rw [List.all_eq_true]
  intro x hx
  obtain ⟨i, hi, e⟩ := List.getElem_of_mem hx
  rw [← e]; exact h i hi

theorem drewN_add (w : World) (a b : Nat) : (w.drewN a).drewN b = w.drewN (a + b) := by simp [World.drewN, Nat.add_assoc]

theorem sameInts_c (w : World) (a a2 : Option Addr) (n cap n2 cap2 : Nat) (l l2 : List Int) (hn : l.length = n) (hn2 : l2.length = n2) (hm : n ≤ maxLen) (hm2 : n2 ≤ maxLen) (H : IntsAt w a l) (H2 : IntsAt w a2 l2) :
    Calls Tryz.prog 30 #[.slice a n cap, .slice a2 n2 cap2] w fun e w' => e = .returned (.bool (decide (l = l2))) ∧ ∃ k, w' = w.drewN k := by
  have HN := hid hn
  have HN2 := hid hn2
  have HH := hid H
  have HH2 := hid H2
  clear hn hn2 H H2
  unfold maxLen at hm hm2
  by_cases hl : n = n2
  · have hd : ((n : Int) != (n2 : Int)) = false := by simp [hl]
    have HL := hid hl
    clear hl
    go_enter Tryz.func30, Tryz.ntmps30
    go_wp2
    go_loopw [13] (fun i wr => ∃ k : Nat, k ≤ n ∧ i = .int .i64 k ∧ (∃ q, wr = w.drewN q) ∧ ∀ j (hj : j < l.length) (hj2 : j < l2.length), j < k → l[j] = l2[j]) (fun i _ => n - (intOf i).toNat)
    case atStart => exact ⟨0, Nat.zero_le _, rfl, ⟨0, rfl⟩, fun i _ _ h => by omega⟩
    case round =>
      obtain ⟨k, hk, rfl, ⟨q, rfl⟩, hno⟩ := hrel
      have HNO := hid hno
      clear hno
      by_cases hlt : k < n
      · have hkl : k < l.length := by rw [HN.out]; exact hlt
        have hkl2 : k < l2.length := by rw [HN2.out, ← HL.out]; exact hlt
        obtain ⟨b, off, rfl, hbs, hc⟩ := HH.out k hkl
        obtain ⟨b2, off2, rfl, hbs2, hc2⟩ := HH2.out k hkl2
        have hg : l[k]?.getD 0 = l[k] := by rw [List.getElem?_eq_getElem hkl]; rfl
        have hg2 : l2[k]?.getD 0 = l2[k] := by rw [List.getElem?_eq_getElem hkl2]; rfl
        rw [hg] at hc
        rw [hg2] at hc2
        have hlt2 : k < n2 := by have := HL.out; omega
        have HKL := hid hkl
        have HKL2 := hid hkl2
        clear hg hg2
        by_cases he : l[k] = l2[k]
        · have hb : (l[k] != l2[k]) = false := by simp [he]
          have HE := hid he
          clear he
          go_wp2
          go_quiet (fail)
          go_wp2
          refine ⟨⟨k + 1, by omega, by go_num, ⟨_, rfl⟩, fun j hj hj2 hjk => ?_⟩, by simp [intOf]; omega⟩
          by_cases e : j = k
          · subst e; exact HE.out
          · exact HNO.out j hj hj2 (by omega)
        · have hb : (l[k] != l2[k]) = true := by simp [he]
          have HE := hid he
          clear he
          go_wp2
          go_quiet (fail)
          go_wp2
          go_ret
          refine ⟨ret_bool ?_, q + nq, drewN_add _ _ _⟩
          symm
          rw [decide_eq_false_iff_not]
          rintro rfl
          exact HE.out rfl
      · go_wp2
        go_ret
        refine ⟨ret_bool ?_, _, rfl⟩
        symm
        rw [decide_eq_true_iff]
        have h1 := HN.out
        have h2 := HN2.out
        have h3 := HL.out
        exact List.ext_getElem (by omega) fun i g1 g2 => HNO.out i g1 g2 (by omega)
  · have hd : ((n : Int) != (n2 : Int)) = true := by simp; omega
    have HL := hid hl
    clear hl
    go_enter Tryz.func30, Tryz.ntmps30
    go_wp2
    go_ret
    refine ⟨ret_bool ?_, 0, rfl⟩
    symm
    rw [decide_eq_false_iff_not]
    rintro rfl
    exact HL.out (HN.out.symm.trans HN2.out)
end Go.Proofs.YtddcamcdjkiadaaGreatDoor

namespace Go.Proofs.YtddcamcdjkiadaaGreatDoor
open Go.RowKit
set_option linter.unusedVariables false

theorem pictures1 (w : World) (b : Nat) (a : Option Addr) (n cap : Nat) (M : Mask) (hn : M.length = n) (hm : n ≤ maxLen) (H : RowsAt w a M) (hb : b < w.heap.size) (hc : w.cell? ⟨b, 0, none⟩ = some (.slice a n cap)) :
    PredR Tryz.prog 118 #[.pointer (some ⟨b, 0, none⟩)] w (fun x => !okShown M x) := by
  intro x v W hbw hv
  have hc' : W.cell? ⟨b, 0, none⟩ = some (.slice a n cap) := (hbw.cell (p := ⟨b, 0, none⟩) hb).trans hc
  obtain ⟨ra, rn, rc, rfl, hrn, hrm, hri⟩ := hv
  have HR := hid (maskShown_c W a n cap M hn hm (H.below hbw) ra rn rc x hrn hrm hri)
  clear hrn hri hn H hc
  go_enter Tryz.func118, Tryz.ntmps118
  go_wp2_with (go_at_call 119; refine HR.out.mono ?_; rintro e w1 ⟨rfl, hb1⟩)
  go_ret
  exact ⟨rfl, hb1⟩

def picsB (M : Mask) (L : List (List Int)) : Bool := decide (L.length ≤ 12) && L.all (okShown M)
theorem picsB_iff {M : Mask} {L : List (List Int)} (h : picsB M L = true) : L.length ≤ 12 ∧ ∀ x ∈ L, okShown M x = true := by
  unfold picsB at h
  simpa using h

theorem pictures_c (w : World) (a : Option Addr) (n cap : Nat) (M : Mask) (hn : M.length = n) (hm : n ≤ maxLen) (H : RowsAt w a M) (a2 : Option Addr) (n2 cap2 : Nat) (L : List (List Int)) (hn2 : L.length = n2) (hm2 : n2 ≤ maxLen) (H2 : RowsAt w a2 L) :
    Calls Tryz.prog 86 #[.slice a n cap, .slice a2 n2 cap2] w fun e w' => e = .returned (.bool (picsB M L)) ∧ Below w.heap.size w w' := by
  have hb0 : Below w.heap.size w (w.alloc (.cells #[.slice a n cap] 35)) := (Below.refl _ _).alloc (Nat.le_refl _) _
  have hmf : ∀ (fn : Fn) (first cap : Array Value) (w : World), (Instr.makeFunc fn first cap).run Tryz.prog w = .ok (.func fn first cap) w := fun _ _ _ _ => rfl
  have HC := hid (containsR (w.alloc (.cells #[.slice a n cap] 35)) a2 n2 cap2 L hn2 hm2 (H2.below hb0) 118 #[.pointer (some ⟨w.heap.size, 0, none⟩)] _ (enters_of Tryz.func118 (by kernel_rfl) rfl)
    (pictures1 _ w.heap.size a n cap M hn hm (H.below hb0) (by simp) (by rw [World.cell?_alloc_at _ _ _ _ rfl]; rfl)))
  have HN2 := hid hn2
  unfold maxLen at hm2
  by_cases h12 : n2 ≤ 12
  · have hd : decide ((n2 : Int) ≤ 12) = true := by simp; omega
    have HQ := hid h12
    clear hn H hn2 H2 h12
    go_enter Tryz.func86, Tryz.ntmps86
    go_wp2_with (refine HC.out.mono ?_; rintro e w1 ⟨rfl, hb1⟩)
    go_ret
    exact ⟨ret_bool (by unfold picsB; rw [HN2.out, decide_eq_true HQ.out]; simp [List.all_eq_not_any_not]), chain hb0 hb1⟩
  · have hd : decide ((n2 : Int) ≤ 12) = false := by simp; omega
    have HQ := hid h12
    clear hn H hn2 H2 h12
    go_enter Tryz.func86, Tryz.ntmps86
    go_wp2
    go_ret
    exact ⟨ret_bool (by unfold picsB; rw [HN2.out, decide_eq_false HQ.out]; simp), hb0⟩

def listedE (M : Mask) (L : List (List Int)) : Int := if okM M = true then (if picsB M L = true then 0 else 7) else 1

theorem flisted_c (w : World) (a : Option Addr) (n cap : Nat) (M : Mask) (hn : M.length = n) (hm : n ≤ maxLen) (H : RowsAt w a M) (a2 : Option Addr) (n2 cap2 : Nat) (L : List (List Int)) (hn2 : L.length = n2) (hm2 : n2 ≤ maxLen) (H2 : RowsAt w a2 L) :
    Calls Tryz.prog 50 #[.slice a n cap, .slice a2 n2 cap2] w fun e w' => e = .returned (.int .i64 (listedE M L)) ∧ Below w.heap.size w w' := by
  have HV := hid (maskValid_c w a n cap M hn hm H)
  have HP := hid (fun (W : World) (hb : Below w.heap.size w W) => pictures_c W a n cap M hn hm (H.below hb) a2 n2 cap2 L hn2 hm2 (H2.below hb))
  clear hn H hn2 H2
  cases h1 : okM M
  · rw [h1] at HV
    have HE := hid h1
    clear h1
    go_enter Tryz.func50, Tryz.ntmps50
    go_wp2_with (go_at_call 39; refine HV.out.mono ?_; rintro e w1 ⟨rfl, hb1⟩)
    go_ret
    exact ⟨ret_int (by unfold listedE; rw [HE.out]; simp), hb1⟩
  · rw [h1] at HV
    have HE := hid h1
    clear h1
    cases h2 : picsB M L
    all_goals
      rw [h2] at HP
      have HF := hid h2
      clear h2
      go_enter Tryz.func50, Tryz.ntmps50
      go_wp2_with (first | (go_at_call 39; refine HV.out.mono ?_; rintro e w1 ⟨rfl, hb1⟩) | (go_at_call 86; refine (HP.out _ hb1).mono ?_; rintro e w2 ⟨rfl, hb2⟩))
      go_ret
      exact ⟨ret_int (by unfold listedE; rw [HE.out, HF.out]; simp), chain hb1 hb2⟩

end Go.Proofs.YtddcamcdjkiadaaGreatDoor
