/- Walk of fault.faulty. -/
import Derived.Test.YthaampmdponhbaaGreatDoorFltG
namespace Go.Proofs.YthaampmdponhbaaGreatDoor
open Go.RowKit
set_option linter.unusedVariables false

theorem OwnM.snoc {w w1 w3 : World} {base gn cap : Nat} {v v' : Value} {M : Mask} {r : List Int} {g : Nat → Nat} {vs : List Value}
    (ho : w.ownsRow base 27 1 v M.length vs) (hin : ∀ i j, i < M.length → j < M.length → g i = g j → i = j)
    (he : ∀ j (hj : j < M.length), (∃ cap, vs[j]? = some (.slice (some ⟨g j, 0, none⟩) M[j].length cap)) ∧ base ≤ g j ∧ SpRow w (g j) M[j])
    (hb1 : Below w.heap.size w w1) (hr : SpRow w1 gn r) (hgn : w.heap.size ≤ gn) (hbase : base ≤ w.heap.size) (hg : w1.grownBy w3 v.ownBlock)
    (ho' : w3.ownsRow base 27 1 v' (M.length + 1) (vs ++ [.slice (some ⟨gn, 0, none⟩) r.length cap])) : OwnM w3 base v' (M ++ [r]) := by
  have hlen : vs.length = M.length := by have := ho.1; omega
  have hown : ∀ b, v.ownBlock = some b → b < w.heap.size ∧ ∃ c f, w.heap[b]? = some (.cells c 27 f) := by
    intro b hb
    rcases ho.2 with ⟨rfl, _⟩ | ⟨g, cap, cur, rfl, hbg, hgg, _⟩
    · simp [Value.ownBlock] at hb
    · obtain rfl : g = b := by simpa [Value.ownBlock] using hb
      exact ⟨(Array.getElem?_eq_some_iff.1 hgg).1, cur, _, hgg⟩
  have hold : ∀ b l, SpRow w b l → w3.heap[b]? = w.heap[b]? := by
    intro b l hs
    refine (hg.block b (Nat.lt_of_lt_of_le hs.lt hb1.size) ?_).trans (hb1.block b hs.lt)
    intro e
    obtain ⟨_, c, f, hc⟩ := hown b e.symm
    obtain ⟨sp, hs⟩ := hs
    rw [hs] at hc
    simp at hc
  have hnew : w3.heap[gn]? = w1.heap[gn]? := by
    refine hg.block gn hr.lt ?_
    intro e
    have := (hown gn e.symm).1
    omega
  refine ⟨fun j => if j < M.length then g j else gn, vs ++ [.slice (some ⟨gn, 0, none⟩) r.length cap], by simpa using ho', ?_, ?_⟩
  · intro i j hi hj e
    simp only [List.length_append, List.length_cons, List.length_nil, Nat.zero_add] at hi hj
    by_cases h1 : i < M.length <;> by_cases h2 : j < M.length <;> simp only [h1, h2, if_true, if_false] at e
    · exact hin i j h1 h2 e
    · have := (he i h1).2.2.lt; omega
    · have := (he j h2).2.2.lt; omega
    · omega
  · intro j hj
    simp only [List.length_append, List.length_cons, List.length_nil, Nat.zero_add] at hj
    by_cases h1 : j < M.length
    · obtain ⟨⟨c, hc⟩, h2, h3⟩ := he j h1
      simp only [h1, if_true]
      rw [List.getElem_append_left h1]
      exact ⟨⟨c, by rw [List.getElem?_append_left (by omega)]; exact hc⟩, h2, h3.keep (hold _ _ h3)⟩
    · obtain rfl : j = M.length := by omega
      simp only [Nat.lt_irrefl, if_false]
      rw [List.getElem_append_right (Nat.le_refl _)]
      simp only [Nat.sub_self, List.getElem_cons_zero]
      exact ⟨⟨cap, by rw [List.getElem?_append_right (by omega), hlen]; simp⟩, by omega, hr.keep hnew⟩

/-- what clone makes, as a row of its own -/
theorem spRow_own {w : World} {b0 : Nat} {v : Value} {l : List Int} {n : Nat} (h : w.ownsRow b0 3 1 v n (l.map (Value.int .i64))) (hn : l.length = n) (h0 : 0 < n) : ∃ g cap, v = .slice (some ⟨g, 0, none⟩) n cap ∧ b0 ≤ g ∧ SpRow w g l := by
  rcases h.2 with ⟨rfl, h1⟩ | ⟨g, cap, cur, rfl, hbg, hgg, hnc, hcm, hsz, htk⟩
  · omega
  · refine ⟨g, cap, rfl, hbg, cur.toList.drop n, ?_⟩
    rw [hgg]
    congr 2
    apply Array.toList_inj.1
    simp only [Nat.mul_one] at htk
    rw [← htk]
    simp

theorem okF_cases {M : Mask} {kind row pixel : Int} (h : okF M ⟨kind, row, pixel⟩ = true) (hM : okM M = true) :
    (kind = 0 ∧ row = 0 ∧ pixel = 0) ∨ (kind = 1 ∧ ∃ i : Nat, row = i ∧ i < M.length ∧ pixel = 0) ∨ (kind = 2 ∧ ∃ j : Nat, pixel = j ∧ j < colsM M ∧ row = 0) ∨
    (kind = 3 ∧ ∃ i j : Nat, row = i ∧ pixel = j ∧ i < M.length ∧ j < colsM M ∧ atM M i j ≠ 0) := by
  obtain ⟨m1, m6, c1, c10, _⟩ := okM_len hM
  unfold okF at h
  simp only [] at h
  split at h
  · simp at h; exact .inl ⟨by assumption, h⟩
  · split at h
    · simp [inB] at h
      exact .inr (.inl ⟨by assumption, row.toNat, by omega, by omega, h.2⟩)
    · split at h
      · simp [inB] at h
        exact .inr (.inr (.inl ⟨by assumption, pixel.toNat, by omega, by omega, h.2⟩))
      · split at h
        · simp [inB] at h
          exact .inr (.inr (.inr ⟨by assumption, row.toNat, pixel.toNat, by omega, by omega, by omega, by omega, by
            rw [show ((row.toNat : Nat) : Int) = row by omega, show ((pixel.toNat : Nat) : Int) = pixel by omega]; exact h.2⟩))
        · cases h

theorem okM1 {M : Mask} (h : okM M = true) : 1 ≤ colsM M := (okM_len h).2.2.1
theorem okM10 {M : Mask} (h : okM M = true) : colsM M ≤ 10 := (okM_len h).2.2.2.1
theorem okML {M : Mask} (h : okM M = true) : 1 ≤ M.length := (okM_len h).1

set_option maxHeartbeats 4000000 in
set_option maxRecDepth 100000 in
theorem faulty_c (w : World) (a : Option Addr) (n cap : Nat) (M : Mask) (hn : M.length = n) (H : RowsAt w a M) (hM : okM M = true) (f : Flt) (hf : okF M f = true) :
    Calls Tryz.prog 80 #[.slice a n cap, f.val] w fun e w' => ∃ v base, e = .returned v ∧ w.heap.size ≤ base ∧ OwnM w' base v (faultyM M f) ∧ Below w.heap.size w w' := by
  obtain ⟨wf, hwf, hb0, hcells⟩ := fltBox w f
  obtain ⟨m1, m6, c1, c10, hrows⟩ := okM_len hM
  have hn6 : n ≤ 6 := by omega
  have HN := hid hn
  have HH := hid (H.below hb0)
  have HR := hid hrows
  have HC := hid hcells
  have HF := hid hf
  have HM := hid hM
  obtain ⟨kind, row, pixel⟩ := f
  unfold Flt.val
  simp only [] at HC hwf ⊢
  have HWF := hid hwf
  have HB0 := hid hb0
  clear hn H hrows hcells hf hwf hb0 hM
  go_enter Tryz.func80, Tryz.ntmps80
  go_wp2
  rw [← HWF.out]
  go_loopw [5, 10] (fun v i wr => ∃ k : Nat, k ≤ n ∧ i = .int .i64 k ∧ OwnM wr wf.heap.size v (M.take k) ∧ Below wf.heap.size wf wr) (fun _ i _ => n - (intOf i).toNat)
  case atStart => exact ⟨0, Nat.zero_le _, rfl, OwnM.nil _ _, Below.refl _ _⟩
  case round =>
    obtain ⟨k, hk, rfl, ho, hbk⟩ := hrel
    by_cases hlt : k < n
    · have hkM : k < M.length := by rw [HN.out]; exact hlt
      obtain ⟨b, off, ra, rn, rc, rfl, hbs, hq0, hrn, hrm, hri⟩ := (HH.out.below hbk) k hkM
      have hrl := HR.out M[k] (List.getElem_mem hkM)
      have HCl := hid (clone_c wr ra rn rc M[k] hrn (by omega) hri)
      have htk : M.take (k + 1) = M.take k ++ [M[k]] := List.take_succ_eq_append_getElem hkM
      have hlen : (M.take k).length = k := by rw [List.length_take]; omega
      obtain ⟨r, hr⟩ : ∃ r, r = M[k] := ⟨_, rfl⟩
      rw [← hr] at htk HCl hrl hrn hri
      have hrn1 : 0 < rn := by omega
      have hrn10 : rn ≤ 10 := by omega
      have HTK := hid htk
      have HO := hid ho
      have HRN := hid hrn
      obtain ⟨va, vc, hv⟩ : ∃ va vc, u5 = .slice va k vc := by
        obtain ⟨_, _, ho1, _⟩ := ho
        obtain ⟨a', c', e⟩ := ownsRow_slice ho1
        exact ⟨a', c', by rw [e, hlen]⟩
      subst hv
      have HL := hid hlen
      clear htk ho hrn hri hrl hr hkM hlen
      go_wp2_with (go_at_call 43; refine HCl.out.mono ?_; rintro e w2 ⟨cv, rfl, hown2, hb2⟩; refine Stop.of ?_)
      refine Stop.go ?_
      obtain ⟨gn, cc, rfl, hgn, hsr⟩ := spRow_own hown2 HRN.out hrn1
      obtain ⟨g, vs, ho, hin, he⟩ := HO.out
      rw [HL.out] at ho
      have hb2a : Below wr.heap.size wr (w2.alloc (.cells #[.slice (some ⟨gn, 0, none⟩) rn cc] 27)) := hb2.alloc hb2.size _
      have ho2 : (w2.alloc (.cells #[.slice (some ⟨gn, 0, none⟩) rn cc] 27)).ownsRow wf.heap.size 27 1 (.slice va k vc) k vs := by
        refine ⟨ho.1, ?_⟩
        rcases ho.2 with hn0 | ⟨g, cap, cur, e, hb, hgg, rest⟩
        · exact .inl hn0
        · exact .inr ⟨g, cap, cur, e, hb, (hb2a.block g (Array.getElem?_eq_some_iff.1 hgg).1).trans hgg, rest⟩
      have M1 := hid (show k + 1 ≤ maxLen by unfold maxLen; omega)
      have M2 := hid (show (k + 1) * 24 ≤ 140737488355328 by omega)
      have M3 := hid (Nat.le_trans hbk.size hb2a.size)
      have HO2 := hid ho2
      have HE := hid he
      have HIN := hid hin
      have HSR := hid hsr
      have HB2 := hid hb2a
      have HOO := hid ho
      clear ho2 he hin hsr hb2a ho hown2
      go_wp2_with (at_builtin; refine wpList_app _ rfl (.tmp 14) (.tmp 17) 23 rfl wf.heap.size 27 (.slice none 0 0) 1 24 Tryz.underlying23 info_ints rfl Nat.one_pos (.slice va k vc) k vs rfl HO2.out (some ⟨w2.heap.size, 0, none⟩) 1 1 [.slice (some ⟨gn, 0, none⟩) rn cc] rfl rfl no_none (one_news w2 _ _) (slice_oneCell _ _ _) M1.out M2.out M3.out ?_; refine Stop.of ?_)
      refine Stop.go ?_
      intro a3 c3 w3 own3 g3
      have hsn : OwnM w3 wf.heap.size (.slice a3 (k + 1) c3) (M.take k ++ [r]) := by
        have own3' : w3.ownsRow wf.heap.size 27 1 (.slice a3 (k + 1) c3) ((M.take k).length + 1) (vs ++ [.slice (some ⟨gn, 0, none⟩) r.length cc]) := by rw [HL.out, HRN.out]; exact own3
        exact OwnM.snoc (by rw [HL.out]; exact HOO.out) HIN.out HE.out HB2.out (HSR.out.keep (Lib.alloc_old _ _ _ HSR.out.lt)) hgn hbk.size g3 own3'
      have hB3 : Below wf.heap.size wf w3 := (hbk.trans (HB2.out.mono hbk.size)).grown g3 M3.out (fun q hq => (HO2.out.lt q hq).1)
      rw [← HTK.out] at hsn
      go_wp2
      exact ⟨⟨k + 1, by omega, by go_num, hsn, hB3⟩, by simp [intOf]; omega⟩
    · obtain rfl : k = n := by omega
      rw [List.take_of_length_le (by have := HN.out; omega)] at ho
      obtain ⟨w9, hw9⟩ : ∃ w9, w9 = wr := ⟨_, rfl⟩
      rw [← hw9] at ho hbk ⊢
      clear hw9
      obtain ⟨va, vc, hv⟩ : ∃ va vc, u5 = .slice va k vc := by
        obtain ⟨_, _, ho1, _⟩ := ho
        obtain ⟨a', c', e⟩ := ownsRow_slice ho1
        exact ⟨a', c', by rw [e, HN.out]⟩
      subst hv
      have hHS : wf.heap.size ≤ w9.heap.size := hbk.size
      have HO := hid ho
      have HBK := hid hbk
      obtain ⟨hz, f0, f1, f2⟩ := HC.out w9 hbk
      have hS0 : w9.drew.cell? ⟨w.heap.size, 0, none⟩ = some (.int .i64 kind) ∧ w9.drew.cell? ⟨w.heap.size, 1, none⟩ = some (.int .i64 row) ∧ w9.drew.cell? ⟨w.heap.size, 2, none⟩ = some (.int .i64 pixel) := ⟨f0, f1, f2⟩
      have HS0 := hid hS0
      clear hS0
      go_wp2
      refine plain_region (fun j W => decide (j < 7) = true → W.cell? ⟨w.heap.size, 0, none⟩ = some (.int .i64 kind) ∧ W.cell? ⟨w.heap.size, 1, none⟩ = some (.int .i64 row) ∧ W.cell? ⟨w.heap.size, 2, none⟩ = some (.int .i64 pixel)) (by kernel_rfl) ?_
      refine AnyT.takeW (i := 1) (v := .pointer (some ⟨w.heap.size, 0, none⟩)) rfl (by kernel_rfl) (by kernel_rfl) (by kernel_rfl) (fun _ _ _ h => h) (by kernel_rfl) (by rfl) (by rintro w' ⟨h0, h1, h2⟩; go_simp) HS0.out ?_
      refine AnyT.takeW (i := 2) (v := .int .i64 kind) rfl (by kernel_rfl) (by kernel_rfl) (by kernel_rfl) (fun _ _ _ h => h) (by kernel_rfl) (by rfl) (by rintro w' ⟨h0, h1, h2⟩; go_simp) HS0.out ?_
      refine AnyT.takeW (i := 4) (v := .slice va k vc) rfl (by kernel_rfl) (by kernel_rfl) (by kernel_rfl) (fun _ _ _ h => h) (by kernel_rfl) (by rfl) (by rintro w' ⟨h0, h1, h2⟩; go_simp) HS0.out ?_
      refine AnyT.takeW (i := 5) (v := .agg #[.int .i64 kind, .int .i64 row, .int .i64 pixel]) rfl (by kernel_rfl) (by kernel_rfl) (by kernel_rfl) (fun _ _ _ h => h) (by kernel_rfl) (by rfl) (by rintro w' ⟨h0, h1, h2⟩; go_simp) HS0.out ?_
      refine AnyT.next (i := 0) (by kernel_rfl) rfl (wpOp_of_list rfl ?_)
      go_wp2_with (go_at_call 108; refine (deeds_c _).mono ?_; rintro e w10 ⟨rfl, hb10⟩)
      have hbk10 : Below wf.heap.size wf w10 := hbk.drew.trans (hb10.mono hHS)
      obtain ⟨_, f0, f1, f2⟩ := HC.out w10 hbk10
      have ho10 : OwnM w10 wf.heap.size (.slice va k vc) M := HO.out.keep (fun q _ hq => hb10.block q hq)
      have HS1 := hid (show w10.cell? ⟨w.heap.size, 0, none⟩ = some (.int .i64 kind) ∧ w10.cell? ⟨w.heap.size, 1, none⟩ = some (.int .i64 row) ∧ w10.cell? ⟨w.heap.size, 2, none⟩ = some (.int .i64 pixel) from ⟨f0, f1, f2⟩)
      have HO10 := hid ho10
      have hs10 : wf.heap.size ≤ w10.heap.size := hbk10.size
      refine ⟨fun _ => HS1.out, ?_⟩
      have hfin : ∀ w11, Below wf.heap.size w10 w11 → Below w.heap.size w w11 := fun w11 h => HB0.out.trans ((hbk10.trans h).mono HB0.out.size)
      have HFin := hid hfin
      have HB10 := hid hbk10
      clear f0 f1 f2 hb10 hbk10 hfin ho10 ho hbk
      rcases okF_cases HF.out HM.out with ⟨rfl, rfl, rfl⟩ | ⟨rfl, i, rfl, hi, rfl⟩ | ⟨rfl, j, rfl, hj, rfl⟩ | ⟨rfl, i, j, rfl, rfl, hi, hj, hne⟩
      · refine AnyT.takeW (i := 3) (v := .func (.func 129) #[] #[]) rfl (by kernel_rfl) (by kernel_rfl) (by kernel_rfl) (fun _ _ _ h => h) (by kernel_rfl) (by rfl) (by rintro w' _; first | rfl | kernel_rfl) HS1.out ?_
        refine AnyT.next (i := 6) (by kernel_rfl) rfl (wpOp_of_list rfl ?_)
        go_wp2_with (go_at_call 129; refine (deed1_c _ _ _ _).mono ?_; rintro e w11 ⟨rfl, hb11⟩; refine Stop.of ?_)
        refine Stop.go ?_
        have hbw11 : Below wf.heap.size w10 w11 := hb11.mono hs10
        obtain ⟨_, g0, g1, g2⟩ := HC.out w11 (HB10.out.trans hbw11)
        go_wp2
        refine ⟨fun _ => ⟨g0, g1, g2⟩, AnyT.done (by kernel_rfl) ?_ _⟩
        go_wp2
        go_ret
        exact ⟨_, wf.heap.size, rfl, HB0.out.size, by exact HO10.out.keep (fun q _ hq => hb11.block q hq), HFin.out _ hbw11⟩
      · have hl := HR.out M[i] (List.getElem_mem hi)
        refine AnyT.takeW (i := 3) (v := .func (.func 130) #[] #[]) rfl (by kernel_rfl) (by kernel_rfl) (by kernel_rfl) (fun _ _ _ h => h) (by kernel_rfl) (by rfl) (by rintro w' _; first | rfl | kernel_rfl) HS1.out ?_
        refine AnyT.next (i := 6) (by kernel_rfl) rfl (wpOp_of_list rfl ?_)
        go_wp2_with (go_at_call 130; refine (deed2_c w10 wf.heap.size _ M HO10.out hs10 i hi (by rw [hl.1]; exact okM1 HM.out) (by rw [hl.1]; exact okM10 HM.out) (by rw [HN.out]; exact hn6) 0).mono ?_; rintro e w11 ⟨rfl, hown11, hb11⟩; refine Stop.of ?_)
        refine Stop.go ?_
        have hbw11 : Below wf.heap.size w10 w11 := hb11
        obtain ⟨_, g0, g1, g2⟩ := HC.out w11 (HB10.out.trans hbw11)
        go_wp2
        refine ⟨fun _ => ⟨g0, g1, g2⟩, AnyT.done (by kernel_rfl) ?_ _⟩
        go_wp2
        go_ret
        exact ⟨_, wf.heap.size, rfl, HB0.out.size, by simpa [faultyM] using hown11, HFin.out _ hbw11⟩
      · have hj2 := hj
        refine AnyT.takeW (i := 3) (v := .func (.func 131) #[] #[]) rfl (by kernel_rfl) (by kernel_rfl) (by kernel_rfl) (fun _ _ _ h => h) (by kernel_rfl) (by rfl) (by rintro w' _; first | rfl | kernel_rfl) HS1.out ?_
        refine AnyT.next (i := 6) (by kernel_rfl) rfl (wpOp_of_list rfl ?_)
        go_wp2_with (go_at_call 131; refine (deed3_c w10 wf.heap.size _ M HO10.out hs10 j (fun r hr => by rw [(HR.out r hr).1]; exact hj) (fun r hr => by rw [(HR.out r hr).1]; exact okM10 HM.out) (okML HM.out) (by rw [HN.out]; exact hn6) 0).mono ?_; rintro e w11 ⟨rfl, hown11, hb11⟩; refine Stop.of ?_)
        refine Stop.go ?_
        have hbw11 : Below wf.heap.size w10 w11 := hb11
        obtain ⟨_, g0, g1, g2⟩ := HC.out w11 (HB10.out.trans hbw11)
        go_wp2
        refine ⟨fun _ => ⟨g0, g1, g2⟩, AnyT.done (by kernel_rfl) ?_ _⟩
        go_wp2
        go_ret
        exact ⟨_, wf.heap.size, rfl, HB0.out.size, by simpa [faultyM] using hown11, HFin.out _ hbw11⟩
      · have hl := HR.out M[i] (List.getElem_mem hi)
        refine AnyT.takeW (i := 3) (v := .func (.func 132) #[] #[]) rfl (by kernel_rfl) (by kernel_rfl) (by kernel_rfl) (fun _ _ _ h => h) (by kernel_rfl) (by rfl) (by rintro w' _; first | rfl | kernel_rfl) HS1.out ?_
        refine AnyT.next (i := 6) (by kernel_rfl) rfl (wpOp_of_list rfl ?_)
        go_wp2_with (go_at_call 132; refine (deed4_c w10 wf.heap.size _ M HO10.out hs10 i j hi (by rw [hl.1]; exact hj) hl.2 (by rw [hl.1]; exact okM10 HM.out) (by rw [HN.out]; exact hn6)).mono ?_; rintro e w11 ⟨rfl, hown11, hb11⟩; refine Stop.of ?_)
        refine Stop.go ?_
        have hbw11 : Below wf.heap.size w10 w11 := hb11
        obtain ⟨_, g0, g1, g2⟩ := HC.out w11 (HB10.out.trans hbw11)
        go_wp2
        refine ⟨fun _ => ⟨g0, g1, g2⟩, AnyT.done (by kernel_rfl) ?_ _⟩
        go_wp2
        go_ret
        exact ⟨_, wf.heap.size, rfl, HB0.out.size, by simpa [faultyM] using hown11, HFin.out _ hbw11⟩
end Go.Proofs.YthaampmdponhbaaGreatDoor
