/- Walks and plain laws for StreamSentRow, part 11. -/
import Derived.Test.YtkmjeegnijohmaaGreatPkStreamSentRow10
namespace Go.Proofs.YtkmjeegnijohmaaGreat
open Go.RowKit
set_option linter.unusedVariables false

theorem news_ints {wr X : World} {xa : Option Addr} {x : List Int} (hxi : IntsAt wr xa x) (hX : Below wr.heap.size wr X) : ∀ ad, xa = some ad → ∀ j u, (x.map (Value.int .i64))[j]? = some u → X.cell? (ad.add j) = some u := by
  intro ad e j u hu
  rw [List.getElem?_map] at hu
  obtain ⟨v, hv, rfl⟩ := Option.map_eq_some_iff.1 hu
  obtain ⟨hjl, e2⟩ := List.getElem?_eq_some_iff.1 hv
  obtain ⟨b, off, ea, hb, hc⟩ := hxi j hjl
  rw [e] at ea
  cases ea
  rw [Addr.add_lit]
  refine (hX.cell (p := ⟨b, off + j, none⟩) hb).trans ?_
  rw [hc, hv]; rfl
theorem change_mil {M : Mask} {y x : List Int} (h : (changeF y x).length = colsM M ∧ ∀ v ∈ changeF y x, -2000 ≤ v ∧ v ≤ 2000) : (changeF y x).length = colsM M ∧ milB (changeF y x) = true := by
  refine ⟨h.1, ?_⟩
  unfold milB
  rw [List.all_eq_true]
  intro v hv
  have := h.2 v hv
  unfold inB
  simp only [Bool.and_eq_true, decide_eq_true_eq]
  omega
def EncR8 (k E : Nat) (KB : Bool) (xa : Option Addr) (xn xc : Nat) (x : List Int) (wr : World) (fr fr' : Act) (w' : World) : Prop :=
  ∃ eb ca cc fb, fr' = (((((((((fr.put (some 18) (.int .i64 k)).put (some 19) (.int .i64 E)).put (some 20) (.int .i64 ((k : Int) % (E : Int)))).put (some 21) (.bool KB)).put (some 22) (.slice (some ⟨eb, 0, none⟩) 0 0)).put (some 23) (.slice xa xn xc)).put (some 24) (.slice ca xn cc)).put (some 25) (.agg #[.bool KB, .slice ca xn cc])).put (some 10) (.pointer (some ⟨fb, 0, none⟩))) ∧
    w'.heap[fb]? = some (.cells #[.bool KB, .slice ca xn cc] 47 (0, 0)) ∧ wr.heap.size ≤ fb ∧ w'.ownsRow wr.heap.size 3 1 (.slice ca xn cc) xn (x.map (Value.int .i64)) ∧ Below wr.heap.size wr w'

set_option maxRecDepth 100000 in
set_option maxHeartbeats 4000000 in
theorem r8encode_c (w : World) (a a2 : Option Addr) (n cap n2 cap2 : Nat) (M : Mask) (p : List (List Int)) (E : Nat) (hn : M.length = n) (hn2 : p.length = n2) (hm : n ≤ maxLen) (H : RowsAt w a M) (H2 : RowsAt w a2 p) (hP : picsB M p = true) (hE : 1 ≤ E) (hE2 : E ≤ 60) :
    Calls Tryz.prog 59 #[.slice a n cap, .slice a2 n2 cap2, .int .i64 E] w fun e w' => ∃ v, e = .returned v ∧ FrmsO w' w.heap.size (fun _ => True) v (encF M p E) ∧ Below w.heap.size w w' := by
  obtain ⟨hM, hp1, hp60, hpp⟩ := picsB_ok hP
  have HN2 := hid hn2
  have HH2 := hid H2
  have HCT := hid (fun (k : Nat) (hk : k < p.length) => encF_take M p E hk)
  have HCL := hid (show (encF M p E).length = n2 by rw [encF_len, hn2])
  have HEA := hid (show ∀ k, encAt M p E k = if k % E = 0 then (true, p[k]?.getD []) else (false, readV M (changeF (p[k - 1]?.getD []) (p[k]?.getD []))) from fun k => rfl)
  have HPG := hid (fun (i : Nat) (hi : i < p.length) => pic_bnd (picsB_get hP hi))
  have HCB := hid (fun (i : Nat) (hi : i < p.length) => change_bnd (picsB_get hP (i := i - 1) (by omega)) (picsB_get hP hi))
  have HRD := hid (fun (X : World) (hX : Below w.heap.size w X) (va : Option Addr) (vn vc : Nat) (x : List Int) (hv : x.length = vn) (hI : IntsAt X va x) (h2 : x.length = colsM M) (h3 : milB x = true) => r2Read_c X a va n cap vn vc M x hn hv (H.below hX) hI hM h2 h3)
  obtain ⟨_, _, _, hc1, hc10⟩ := okM_ok hM
  obtain ⟨C, hC⟩ : ∃ C, C = encF M p E := ⟨_, rfl⟩
  rw [← hC] at HCT HCL ⊢
  have HM := hid hM
  have hn60 : n2 ≤ 60 := by omega
  clear hn hn2 hm H H2 hC hP hpp hM hp1 hp60
  go_enter Tryz.func59, Tryz.ntmps59
  go_wp2
  go_loopw [7, 13] (fun v i wr => ∃ k : Nat, k ≤ n2 ∧ i = .int .i64 k ∧ FrmsO wr w.heap.size (fun _ => True) v (C.take k) ∧ Below w.heap.size w wr) (fun _ i _ => n2 - (intOf i).toNat)
  case atStart => exact ⟨0, Nat.zero_le _, rfl, FrmsO.nil _ _ _, Below.refl _ _⟩
  case round =>
    obtain ⟨k, hk, rfl, ho, hbk⟩ := hrel
    by_cases hlt : k < n2
    · have hkl : k < p.length := by rw [HN2.out]; exact hlt
      obtain ⟨b, off, xa, xn, xc, rfl, hbs, hc, hxn, hxm, hxi⟩ := (HH2.out.below hbk) k hkl
      have hxv : p[k]?.getD [] = p[k] := by rw [List.getElem?_eq_getElem hkl]; rfl
      have htk := HCT.out k hkl
      rw [HEA.out k, hxv] at htk
      obtain ⟨x, hx⟩ : ∃ x, x = p[k] := ⟨_, rfl⟩
      have hpg := HPG.out k hkl
      rw [hxv] at hpg
      rw [← hx] at hxn hxi htk hpg
      obtain ⟨KB, hKB⟩ : ∃ KB, KB = ((k : Int) % (E : Int) == 0) := ⟨_, rfl⟩
      have hkb := hKB.symm
      have hki : (k : Int) < (n2 : Int) := by omega
      have hki0 : (0 : Int) ≤ (k : Int) := by omega
      have hE1 : (1 : Int) ≤ (E : Int) := by omega
      have HE0 := hid (show ¬ E = 0 by omega)
      have HTM := hid (show (k : Int).tmod (E : Int) = (k : Int) % (E : Int) from Int.tmod_eq_emod_of_nonneg (by omega))
      have hkm : (k : Int) ≤ 9223372036854775807 := by omega
      have hem : (E : Int) ≤ 9223372036854775807 := by omega
      have HTK := hid htk
      have hx10 : xn ≤ 10 := by have := hpg.1; omega
      have HXN := hid hxn
      have HXI := hid hxi
      have HX0 := hid (show xa = none → xn = 0 from fun h => by subst h; rcases Nat.eq_zero_or_pos xn with h | h; exact h; obtain ⟨_, _, e, _⟩ := hxi 0 (by omega); cases e)
      have HNW := hid (show ∀ X : World, Below wr.heap.size wr X → ∀ ad, xa = some ad → ∀ j u, (x.map (Value.int .i64))[j]? = some u → X.cell? (ad.add j) = some u from fun X hX => news_ints hxi hX)
      have HPK := hid hpg
      have HX := hid hx
      have HO := hid ho
      have HBK := hid hbk
      clear htk hxn hxi hpg hx ho hbk hKB hxv
      go_wp2
      refine region_cut (EncR8 k E KB xa xn xc x wr) ?_ ?_
      · refine plain_region (fun j w' => decide (j < 10) = true → True) (by kernel_rfl) ?_
        have hbd : Below wr.heap.size wr wr.drew := (Below.refl _ _).drew
        generalize wr.drew = wd at hbd ⊢
        refine AnyT.takeD (i := 0) (v := .int .i64 k) rfl rfl (by kernel_rfl) (by kernel_rfl) (by kernel_rfl) (by first | exact (fun _ _ _ h => h) | exact (fun _ _ _ h => absurd h.1 (by simp))) (by kernel_rfl) (by rfl) (by rintro w' _; go_simp) trivial ?_; go_frame
        refine AnyT.takeD (i := 1) (v := .int .i64 E) rfl rfl (by kernel_rfl) (by kernel_rfl) (by kernel_rfl) (by first | exact (fun _ _ _ h => h) | exact (fun _ _ _ h => absurd h.1 (by simp))) (by kernel_rfl) (by rfl) (by rintro w' _; go_simp) trivial ?_; go_frame
        refine AnyT.takeD (i := 2) (v := .int .i64 ((k : Int) % (E : Int))) rfl rfl (by kernel_rfl) (by kernel_rfl) (by kernel_rfl) (by first | exact (fun _ _ _ h => h) | exact (fun _ _ _ h => absurd h.1 (by simp))) (by kernel_rfl) (by rfl) (by rintro w' _; go_simp; rw [if_neg HE0.out, HTM.out]) trivial ?_; go_frame
        refine AnyT.takeD (i := 3) (v := .bool KB) rfl rfl (by kernel_rfl) (by kernel_rfl) (by kernel_rfl) (by first | exact (fun _ _ _ h => h) | exact (fun _ _ _ h => absurd h.1 (by simp))) (by kernel_rfl) (by rfl) (by rintro w' _; go_simp) trivial ?_; go_frame
        refine AnyT.takeD (i := 5) (v := .slice xa xn xc) rfl rfl (by kernel_rfl) (by kernel_rfl) (by kernel_rfl) (by first | exact (fun _ _ _ h => h) | exact (fun _ _ _ h => absurd h.1 (by simp))) (by kernel_rfl) (by rfl) (by rintro w' _; go_simp) trivial ?_; go_frame
        have HBD := hid hbd
        have hwd := hbd.size
        clear hbd
        refine AnyT.next2 (i := 4) (j := 8) (by kernel_rfl) (wpOp_of_list rfl ?_) (wpOp_of_list rfl ?_)
        · go_wp2
          refine ⟨fun _ => trivial, ?_⟩
          have M := World.ownsRow_made (base := wd.heap.size) (e := 3) (size := 1) wd #[] 0 (Nat.le_refl _) (Nat.zero_le _) rfl
          have hbA := HBD.out.alloc HBD.out.size (.cells #[] 3)
          refine AnyT.next2 (i := 6) (j := 8) (by kernel_rfl) (wpOp_of_list rfl ?_) (wpOp_of_list rfl ?_)
          · (refine wpList_app _ rfl (.tmp 22) (.tmp 23) 33 rfl wd.heap.size 3 (.int .i64 0) 1 8 Tryz.underlying33 li_int rfl Nat.one_pos (.slice (some ⟨wd.heap.size, 0, none⟩) 0 0) 0 [] rfl M xa xn xc (x.map (Value.int .i64)) rfl (by rw [List.length_map, HXN.out, Nat.mul_one]) HX0.out (HNW.out _ hbA) (ints_one _) (by rw [Nat.zero_add]; unfold maxLen; omega) (by omega) (by first | omega | (simp; omega) | simp) ?_)
            intro ca cc w5 own5 g5
            rw [Nat.zero_add, List.nil_append] at own5
            rw [Nat.zero_add]
            have hb5 := hbA.grown g5 hbA.size (fun g hg => by have := (M.lt g hg).1; omega)
            have hO5 := own5
            have HO5 := hid own5
            have HB5 := hid hb5
            clear own5 g5 hb5 hbA M hO5
            refine ⟨fun _ => trivial, ?_⟩
            refine AnyT.takeD (i := 7) (v := .agg #[.bool KB, .slice ca xn cc]) rfl rfl (by kernel_rfl) (by kernel_rfl) (by kernel_rfl) (by first | exact (fun _ _ _ h => h) | exact (fun _ _ _ h => absurd h.1 (by simp))) (by kernel_rfl) (by rfl) (by rintro w' _; go_simp) trivial ?_; go_frame
            refine AnyT.next (i := 8) (by kernel_rfl) rfl (wpOp_of_list rfl ?_)
            go_wp2
            refine ⟨fun _ => trivial, ?_⟩
            have hw6 : (w5.alloc (.cells #[.bool false, .slice none 0 0] 47)).heap[w5.heap.size]? = some (.cells #[.bool false, .slice none 0 0] 47 (0, 0)) := World.alloc_heap_new _ _
            have HO6 := hid (HO5.out.alloc (.cells #[.bool false, .slice none 0 0] 47))
            have HB6 := hid (HB5.out.alloc HB5.out.size (.cells #[.bool false, .slice none 0 0] 47))
            generalize w5.alloc (.cells #[.bool false, .slice none 0 0] 47) = w6 at hw6 HO6 HB6 ⊢
            obtain ⟨z0, z1, f0, f1, hlt6⟩ := box2_facts hw6
            have HW6 := hid hw6
            clear hw6
            refine AnyT.next (i := 9) (by kernel_rfl) rfl (wpOp_of_list rfl ?_)
            go_wp2
            have hne : ∀ g, (Value.slice ca xn cc).ownBlock = some g → g ≠ w5.heap.size := fun g hg => by have := (HO5.out.lt g hg).2; omega
            have hfl : wr.heap.size ≤ w5.heap.size := HB5.out.size
            exact ⟨fun _ => trivial, by kernel_rfl, rfl, wd.heap.size, ca, cc, w5.heap.size, by go_frame, set2_block HW6.out, hfl, own_mono (own_set (own_set HO6.out _ hne) _ hne) hwd, below_set (below_set HB6.out hfl _ _) hfl _ _⟩
          · go_wp2
            refine ⟨fun _ => trivial, ?_⟩
            have hw6 : ((wd.alloc (.cells #[] 3)).alloc (.cells #[.bool false, .slice none 0 0] 47)).heap[(wd.alloc (.cells #[] 3)).heap.size]? = some (.cells #[.bool false, .slice none 0 0] 47 (0, 0)) := World.alloc_heap_new _ _
            have hs6 : ((wd.alloc (.cells #[] 3)).alloc (.cells #[.bool false, .slice none 0 0] 47)).heap.size = wd.heap.size + 2 := by simp
            rw [World.size_alloc] at hw6
            have hbB := hbA.alloc hbA.size (.cells #[.bool false, .slice none 0 0] 47)
            have hM6 := M.alloc (.cells #[.bool false, .slice none 0 0] 47)
            generalize (wd.alloc (.cells #[] 3)).alloc (.cells #[.bool false, .slice none 0 0] 47) = w6 at hw6 hs6 hbB hM6 ⊢
            refine AnyT.next (i := 6) (by kernel_rfl) rfl (wpOp_of_list rfl ?_)
            (refine wpList_app _ rfl (.tmp 22) (.tmp 23) 33 rfl wd.heap.size 3 (.int .i64 0) 1 8 Tryz.underlying33 li_int rfl Nat.one_pos (.slice (some ⟨wd.heap.size, 0, none⟩) 0 0) 0 [] rfl hM6 xa xn xc (x.map (Value.int .i64)) rfl (by rw [List.length_map, HXN.out, Nat.mul_one]) HX0.out (HNW.out _ hbB) (ints_one _) (by rw [Nat.zero_add]; unfold maxLen; omega) (by omega) (by first | omega | (simp; omega) | simp) ?_)
            intro ca cc w7 own5 g5
            rw [Nat.zero_add, List.nil_append] at own5
            rw [Nat.zero_add]
            have hb5 := hbB.grown g5 hbB.size (fun g hg => by have := (M.lt g hg).1; omega)
            have hw7 : w7.heap[wd.heap.size + 1]? = some (.cells #[.bool false, .slice none 0 0] 47 (0, 0)) := (g5.block _ (by omega) (by simp [Value.ownBlock])).trans hw6
            have hne : ∀ g, (Value.slice ca xn cc).ownBlock = some g → g ≠ wd.heap.size + 1 := fun g hg e => by
              rcases own5.2 with ⟨h, h'⟩ | ⟨g', cap', cur, h, h1, h2, _⟩
              · cases h; simp [Value.ownBlock] at hg
              · cases h
                obtain rfl : g' = g := by simpa [Value.ownBlock] using hg
                rw [e, hw7] at h2; cases h2
            have HNE := hid hne
            have HO5 := hid own5
            have HB5 := hid hb5
            obtain ⟨z0, z1, f0, f1, hlt6⟩ := box2_facts hw7
            have HW7 := hid hw7
            clear own5 g5 hb5 hbA hbB M hM6 hw6 hw7 hne
            refine ⟨fun _ => trivial, ?_⟩
            refine AnyT.takeD (i := 7) (v := .agg #[.bool KB, .slice ca xn cc]) rfl rfl (by kernel_rfl) (by kernel_rfl) (by kernel_rfl) (by first | exact (fun _ _ _ h => h) | exact (fun _ _ _ h => absurd h.1 (by simp))) (by kernel_rfl) (by rfl) (by rintro w' _; go_simp) trivial ?_; go_frame
            refine AnyT.next (i := 9) (by kernel_rfl) rfl (wpOp_of_list rfl ?_)
            go_wp2
            have hfl : wr.heap.size ≤ wd.heap.size + 1 := by omega
            exact ⟨fun _ => trivial, by kernel_rfl, rfl, wd.heap.size, ca, cc, wd.heap.size + 1, by go_frame, set2_block HW7.out, hfl, own_mono (own_set (own_set HO5.out _ HNE.out) _ HNE.out) hwd, below_set (below_set HB5.out hfl _ _) hfl _ _⟩
        · go_wp2
          refine ⟨fun _ => trivial, ?_⟩
          have hw6 : (wd.alloc (.cells #[.bool false, .slice none 0 0] 47)).heap[wd.heap.size]? = some (.cells #[.bool false, .slice none 0 0] 47 (0, 0)) := World.alloc_heap_new _ _
          have hs6 : (wd.alloc (.cells #[.bool false, .slice none 0 0] 47)).heap.size = wd.heap.size + 1 := by simp
          have hbA := HBD.out.alloc HBD.out.size (.cells #[.bool false, .slice none 0 0] 47)
          generalize wd.alloc (.cells #[.bool false, .slice none 0 0] 47) = w6 at hw6 hs6 hbA ⊢
          refine AnyT.next (i := 4) (by kernel_rfl) rfl (wpOp_of_list rfl ?_)
          go_wp2
          refine ⟨fun _ => trivial, ?_⟩
          have M := World.ownsRow_made (base := w6.heap.size) (e := 3) (size := 1) w6 #[] 0 (Nat.le_refl _) (Nat.zero_le _) rfl
          rw [hs6] at M
          have hbB := hbA.alloc hbA.size (.cells #[] 3)
          refine AnyT.next (i := 6) (by kernel_rfl) rfl (wpOp_of_list rfl ?_)
          (refine wpList_app _ rfl (.tmp 22) (.tmp 23) 33 rfl (wd.heap.size + 1) 3 (.int .i64 0) 1 8 Tryz.underlying33 li_int rfl Nat.one_pos (.slice (some ⟨wd.heap.size + 1, 0, none⟩) 0 0) 0 [] rfl M xa xn xc (x.map (Value.int .i64)) rfl (by rw [List.length_map, HXN.out, Nat.mul_one]) HX0.out (HNW.out _ hbB) (ints_one _) (by rw [Nat.zero_add]; unfold maxLen; omega) (by omega) (by first | omega | (simp; omega) | simp) ?_)
          intro ca cc w7 own5 g5
          rw [Nat.zero_add, List.nil_append] at own5
          rw [Nat.zero_add]
          have hb5 := hbB.grown g5 hbB.size (fun g hg => by have := (M.lt g hg).1; omega)
          have hw7 : w7.heap[wd.heap.size]? = some (.cells #[.bool false, .slice none 0 0] 47 (0, 0)) := (g5.block _ (by first | (simp; omega) | simp) (by first | (simp [Value.ownBlock]; omega) | simp [Value.ownBlock])).trans ((Below.heap_alloc _ _ _ (by omega)).trans hw6)
          have hne : ∀ g, (Value.slice ca xn cc).ownBlock = some g → g ≠ wd.heap.size := fun g hg e => by
            rcases own5.2 with ⟨h, h'⟩ | ⟨g', cap', cur, h, h1, h2, _⟩
            · cases h; simp [Value.ownBlock] at hg
            · cases h
              obtain rfl : g' = g := by simpa [Value.ownBlock] using hg
              rw [e, hw7] at h2; cases h2
          have HNE := hid hne
          have HO5 := hid own5
          have HB5 := hid hb5
          obtain ⟨z0, z1, f0, f1, hlt6⟩ := box2_facts hw7
          have HW7 := hid hw7
          clear own5 g5 hb5 hbA hbB M hw6 hw7 hne
          refine ⟨fun _ => trivial, ?_⟩
          refine AnyT.takeD (i := 7) (v := .agg #[.bool KB, .slice ca xn cc]) rfl rfl (by kernel_rfl) (by kernel_rfl) (by kernel_rfl) (by first | exact (fun _ _ _ h => h) | exact (fun _ _ _ h => absurd h.1 (by simp))) (by kernel_rfl) (by rfl) (by rintro w' _; go_simp) trivial ?_; go_frame
          refine AnyT.next (i := 9) (by kernel_rfl) rfl (wpOp_of_list rfl ?_)
          go_wp2
          exact ⟨fun _ => trivial, by kernel_rfl, rfl, wd.heap.size + 1, ca, cc, wd.heap.size, by go_frame, set2_block HW7.out, hwd, own_mono (own_set (own_set HO5.out _ HNE.out) _ HNE.out) (by omega), below_set (below_set HB5.out hwd _ _) hwd _ _⟩
      · rintro a' w5 ⟨eb, ca, cc, fb, rfl, hfb, hfl, hown, hb5⟩
        obtain ⟨z0, z1, f0, f1, hlt5⟩ := box2_facts hfb
        have hCk : (C.take k).length = k := by rw [List.length_take, HCL.out]; omega
        have HCK := hid hCk
        obtain ⟨va, vc, hva⟩ := HO.out.slice
        rw [hCk] at hva
        subst hva
        have M1 := hid (show k + 1 ≤ maxLen by unfold maxLen; omega)
        have M2 := hid (show (k + 1) * 32 ≤ 140737488355328 by omega)
        have hwr := HBK.out.size
        have HFB := hid hfb
        have HFL := hid hfl
        have HOWN := hid hown
        have HB5 := hid hb5
        clear hCk hfb hown
        cases KB
        · have hkE : ¬ k % E = 0 := fun h => by
            have : (k : Int) % (E : Int) = 0 := by omega
            rw [this] at hkb; simp at hkb
          have hk1 : 1 ≤ k := by
            rcases Nat.eq_zero_or_pos k with h | h
            · subst h; simp at hkE
            · exact h
          have htk2 := HTK.out
          rw [if_neg hkE] at htk2
          obtain ⟨q, hq⟩ : ∃ q, q = k - 1 := ⟨_, rfl⟩
          obtain ⟨b', off', ya, yn, yc, e', hbs', hc', hyn, hym, hyi⟩ := (HH2.out.below HBK.out) q (by have := HN2.out; omega)
          cases e'
          have hyv : p[k - 1]?.getD [] = p[q] := by rw [← hq, List.getElem?_eq_getElem (by have := HN2.out; omega)]; rfl
          have hpq := HPG.out q (by have := HN2.out; omega)
          rw [← hq] at hyv
          rw [hyv] at hpq
          have hcb := HCB.out k (by have := HN2.out; omega)
          rw [← hq, hyv] at hcb
          have hxv : p[k]?.getD [] = x := by rw [HX.out, List.getElem?_eq_getElem (by have := HN2.out; omega)]; rfl
          rw [hxv] at hcb
          rw [← hq, hyv] at htk2
          obtain ⟨y, hy⟩ : ∃ y, y = p[q]'(by have := HN2.out; omega) := ⟨_, rfl⟩
          rw [← hy] at hyn hyi hpq hcb htk2
          obtain rfl : yn = xn := by have := HPK.out.1; have := HXN.out; have := hpq.1; omega
          have hw : wrap64 ((k : Int) - 1) = (q : Int) := by unfold wrap64; omega
          have hw2 : IntKind.i64.wrap ((k : Int) - 1) = (q : Int) := by rw [IntWalk.i64_left]; exact hw
          have hq0 : (0 : Int) ≤ (q : Int) := by omega
          have hqn : (q : Int) < (n2 : Int) := by omega
          have hc5 : w5.cell? ⟨b, off + q, none⟩ = some (.slice ya yn yc) := (hb5.cell (p := ⟨b, _, none⟩) hbs).trans hc'
          have HCH := hid (r8change_c w5 ya xa yn yc xc y x hyn HXN.out (by have := HPK.out.1; have := HXN.out; omega) (hyi.below hb5) (HXI.out.below hb5) hpq.2 HPK.out.2)
          have HTK2 := hid htk2
          have HCB2 := hid hcb
          have HKX := hid hkE
          have hbw5 := hid (chain HBK.out hb5)
          have hsE := hid (change_mil hcb)
          have hRV := hid (show readM M (changeF y x) = readV M (changeF y x) from readM_V HM.out (fun v hv => by have := hcb.2 v hv; omega))
          have hXL := hid (show (changeF y x).length = yn by rw [changeF_len]; exact HXN.out)
          clear htk2 hcb hkE hq hyv hpq hxv hy hyn hyi hb5 hc'
          go_wp2_with (go_at_call 81; refine HCH.out.mono ?_; rintro e w6 ⟨v6, rfl, ho6, hb6⟩; refine Stop.of ?_)
          refine Stop.go ?_
          obtain ⟨da, dc, rfl, hdi, hdm⟩ := ints_of_own ho6 hXL.out
          have hRDX := HRD.out w6 (chain hbw5.out hb6) da yn dc (changeF y x) hXL.out hdi hsE.out.1 hsE.out.2
          have HRX := hid hRDX
          have HB6 := hid hb6
          clear hRDX ho6 hdi hb6
          go_wp2_with (go_at_call 80; refine HRX.out.mono ?_; rintro e w7 ⟨v7, rfl, ho7, hb7⟩; refine Stop.of ?_)
          refine Stop.go ?_
          obtain ⟨ra, rc, rfl⟩ := ownsRow_slice ho7
          have hB7 := chain HB6.out hb7
          have hf7 : w7.heap[fb]? = some (.cells #[.bool false, .slice ca yn cc] 47 (0, 0)) := (hB7.block fb hlt5).trans HFB.out
          obtain ⟨y0, y1, g0, g1, hlt7⟩ := box2_facts hf7
          have hf8 : (w7.setCell ⟨fb, 1, none⟩ (.slice ra n rc)).heap[fb]? = some (.cells #[.bool false, .slice ra n rc] 47 (0, 0)) := by rw [cells_set hf7 1]; rfl
          obtain ⟨d0, d1, k0, k1, hlt8⟩ := box2_facts hf8
          have hfw : w.heap.size ≤ fb := by have := HFL.out; omega
          have hB8 : Below w.heap.size w (w7.setCell ⟨fb, 1, none⟩ (.slice ra n rc)) := below_set (chain hbw5.out hB7) hfw _ _
          have hK8 : Keep (fun k => k ≠ fb) wr (w7.setCell ⟨fb, 1, none⟩ (.slice ra n rc)) := (Keep.of_below (chain HB5.out hB7) : Keep (fun k => k ≠ fb) _ _).trans (Keep.set _ _ _ _)
          have hFO := FrmsO.keep (S' := fun _ => True) HO.out hK8 (fun b _ hb => ⟨by have := HFL.out; omega, trivial⟩)
          have hEI : ElemI 3 (w7.setCell ⟨fb, 1, none⟩ (.slice ra n rc)) w.heap.size (fun _ => True) (.slice ra n rc) (readV M (changeF y x)) := by
            have h1 := own_set (o := 1) (u := .slice ra n rc) ho7 (b := fb) (fun g hg => by have := (ho7.lt g hg).1; have := HB6.out.size; omega)
            exact ElemI.own' h1 rfl (by have := h1.1; simpa using this) (by rcases h1.2 with ⟨_, h⟩ | ⟨_, _, _, _, _, _, h, h', _⟩ <;> unfold maxLen at * <;> omega) (fun _ _ => trivial)
          obtain ⟨xs, hoo, hgg, hoe⟩ := hFO
          have hoo' := hoo
          rw [HCK.out] at hoo'
          have HOO := hid hoo
          have HOE := hid hoe
          have HOO' := hid hoo'
          have HEI := hid hEI
          have HB8 := hid hB8
          clear hoo hgg hoe hoo' hEI hB8 hK8 ho7 hb7 hf8 hf7 hB7
          have M3 := hid (show w.heap.size ≤ ((w7.setCell ⟨fb, 1, none⟩ (.slice ra n rc)).alloc (.cells #[.bool false, .slice ra n rc] 47)).heap.size from Nat.le_trans HB8.out.size (le_alloc _ _))
          have hnw := news2 (w7.setCell ⟨fb, 1, none⟩ (.slice ra n rc)) (.bool false) (.slice ra n rc) 47
          have hsz : (w7.setCell ⟨fb, 1, none⟩ (.slice ra n rc)).heap.size = w7.heap.size := by simp [World.setCell]
          rw [hsz] at hnw
          have HNW := hid hnw
          clear hnw hsz
          go_wp2_with (at_builtin; refine wpList_app _ rfl (.tmp 42) (.tmp 44) 37 rfl w.heap.size 47 (.agg #[.bool false, .slice none 0 0]) 2 32 Tryz.underlying37 info_frame rfl (by decide) (.slice va k vc) k xs rfl (HOO'.out.alloc _) (some ⟨w7.heap.size, 0, none⟩) 1 1 [.bool false, .slice ra n rc] rfl rfl no_none HNW.out (frm_one _ _ _ _) M1.out M2.out M3.out ?_; intro a9 c9 w9 own9 g9; refine Stop.of ?_)
          refine Stop.go ?_
          have hsn := FrmsO.snoc (f := (false, readV M (changeF y x))) HOO.out HOE.out HEI.out ((Below.refl _ _).alloc (Nat.le_refl _) _) g9 (by rw [HCK.out]; exact own9) (fun _ _ => trivial)
          have hB9 : Below w.heap.size w w9 := (HB8.out.alloc HB8.out.size _).grown g9 M3.out (fun g hg => (HOO'.out.lt g hg).1)
          rw [← HTK2.out] at hsn
          have HSN := hid hsn
          have HB9 := hid hB9
          clear hsn hB9 own9 g9
          go_wp2
          refine ⟨⟨k + 1, by omega, by go_num, HSN.out, HB9.out⟩, by simp [intOf]; omega⟩
        · have hkE : k % E = 0 := by
            have : (k : Int) % (E : Int) = 0 := by simpa using hkb
            omega
          have htk2 := HTK.out
          rw [if_pos hkE] at htk2
          have hB8 : Below w.heap.size w w5 := chain HBK.out hb5
          have hFO := FrmsO.below HO.out hb5
          have hEI : ElemI 3 w5 w.heap.size (fun _ => True) (.slice ca xn cc) x := ElemI.own' HOWN.out rfl HXN.out hxm (fun _ _ => trivial)
          obtain ⟨xs, hoo, hgg, hoe⟩ := hFO
          have hoo' := hoo
          rw [HCK.out] at hoo'
          have HOO := hid hoo
          have HOE := hid hoe
          have HOO' := hid hoo'
          have HEI := hid hEI
          have HB8 := hid hB8
          have HTK2 := hid htk2
          clear hoo hgg hoe hoo' hEI hB8 htk2 hkE
          have M3 := hid (show w.heap.size ≤ (w5.alloc (.cells #[.bool true, .slice ca xn cc] 47)).heap.size from Nat.le_trans HB8.out.size (le_alloc _ _))
          go_wp2_with (at_builtin; refine wpList_app _ rfl (.tmp 42) (.tmp 44) 37 rfl w.heap.size 47 (.agg #[.bool false, .slice none 0 0]) 2 32 Tryz.underlying37 info_frame rfl (by decide) (.slice va k vc) k xs rfl (HOO'.out.alloc _) (some ⟨w5.heap.size, 0, none⟩) 1 1 [.bool true, .slice ca xn cc] rfl rfl no_none (news2 _ _ _ _) (frm_one _ _ _ _) M1.out M2.out M3.out ?_; intro a9 c9 w9 own9 g9; refine Stop.of ?_)
          refine Stop.go ?_
          have hsn := FrmsO.snoc (f := (true, x)) HOO.out HOE.out HEI.out ((Below.refl _ _).alloc (Nat.le_refl _) _) g9 (by rw [HCK.out]; exact own9) (fun _ _ => trivial)
          have hB9 : Below w.heap.size w w9 := (HB8.out.alloc HB8.out.size _).grown g9 M3.out (fun g hg => (HOO'.out.lt g hg).1)
          rw [← HTK2.out] at hsn
          have HSN := hid hsn
          have HB9 := hid hB9
          clear hsn hB9 own9 g9
          go_wp2
          refine ⟨⟨k + 1, by omega, by go_num, HSN.out, HB9.out⟩, by simp [intOf]; omega⟩
    · obtain rfl : n2 = k := by omega
      rw [List.take_of_length_le (by rw [HCL.out]; exact Nat.le_refl _)] at ho
      go_wp2
      go_ret
      exact ⟨_, rfl, ho, hbk⟩
end Go.Proofs.YtkmjeegnijohmaaGreat

namespace Go.Proofs.YtkmjeegnijohmaaGreat
open Go.RowKit
set_option linter.unusedVariables false

def encE (M : Mask) (p : List (List Int)) (every : Int) : Int := if picsB M p = true then (if inB every 1 60 = true then 0 else 7) else 1

set_option maxHeartbeats 1000000 in
theorem sEncode_c (w : World) (a a2 : Option Addr) (n cap n2 cap2 : Nat) (M : Mask) (p : List (List Int)) (every : Int) (hn : M.length = n) (hm : n ≤ maxLen) (H : RowsAt w a M) (hn2 : p.length = n2) (hm2 : n2 ≤ maxLen) (H2 : RowsAt w a2 p) :
    Calls Tryz.prog 30 #[.slice a n cap, .slice a2 n2 cap2, .int .i64 every] w fun e w' => Below w.heap.size w w' ∧
      ((encE M p every ≠ 0 ∧ e = .returned (.tuple #[.slice none 0 0, .int .i64 (encE M p every)])) ∨ (encE M p every = 0 ∧ ∃ v base, e = .returned (.tuple #[v, .int .i64 0]) ∧ w.heap.size ≤ base ∧ FrmsO w' base (fun _ => True) v (encF M p every.toNat))) := by
  have HV := hid (validPics_c w a n cap M hn hm H a2 n2 cap2 p hn2 hm2 H2)
  have HW := hid (fun X => swithin_c every 1 60 X)
  cases hP : picsB M p
  · have he : encE M p every = 1 := by unfold encE; rw [hP]; rfl
    rw [hP] at HV
    rw [he]
    clear hn H hn2 H2 hP he
    go_enter Tryz.func30, Tryz.ntmps30
    go_wp2_with (go_at_call 31; refine HV.out.mono ?_; rintro e w1 ⟨rfl, hb1⟩)
    go_ret2
    exact ⟨hb1, .inl ⟨by decide, rfl⟩⟩
  · cases hE : inB every 1 60
    · have he : encE M p every = 7 := by unfold encE; rw [hP, hE]; rfl
      rw [hP] at HV
      rw [hE] at HW
      rw [he]
      clear hn H hn2 H2 hP he hE
      go_enter Tryz.func30, Tryz.ntmps30
      go_wp2_with first
        | (go_at_call 31; refine HV.out.mono ?_; rintro e w1 ⟨rfl, hb1⟩)
        | (go_at_call 32; refine (HW.out _).mono ?_; rintro e w2 ⟨rfl, rfl⟩)
      go_ret2
      exact ⟨hb1, .inl ⟨by decide, rfl⟩⟩
    · have he : encE M p every = 0 := by unfold encE; rw [hP, hE]; rfl
      have hE' : 1 ≤ every ∧ every ≤ 60 := by unfold inB at hE; simpa using hE
      obtain ⟨E, rfl⟩ : ∃ E : Nat, every = (E : Int) := ⟨every.toNat, by omega⟩
      have HC := hid (fun (X : World) (hX : Below w.heap.size w X) => encode_c X a a2 n cap n2 cap2 M p E hn hn2 hm (H.below hX) (H2.below hX) hP (by omega) (by omega))
      rw [hP] at HV
      rw [hE] at HW
      rw [he, Int.toNat_natCast]
      clear hn H hn2 H2 hP he hE hE'
      go_enter Tryz.func30, Tryz.ntmps30
      go_wp2_with first
        | (go_at_call 31; refine HV.out.mono ?_; rintro e w1 ⟨rfl, hb1⟩)
        | (go_at_call 32; refine (HW.out _).mono ?_; rintro e w2 ⟨rfl, rfl⟩)
        | (go_at_call 51; refine (HC.out _ hb1).mono ?_; rintro e w3 ⟨v3, rfl, ho3, hb3⟩)
      go_ret2
      exact ⟨chain hb1 hb3, .inr ⟨trivial, v3, w1.heap.size, rfl, hb1.size, ho3⟩⟩
end Go.Proofs.YtkmjeegnijohmaaGreat

namespace Go.Proofs.YtkmjeegnijohmaaGreat
open Go.RowKit
set_option linter.unusedVariables false

def sentE (M : Mask) (p : List (List Int)) (every trust : Int) : Int := if picsB M p = true then (if inB every 1 60 = true ∧ inB trust 0 (colsM M) = true then 0 else 7) else 1
def sentB (M : Mask) (p : List (List Int)) (every trust : Int) : Bool := decide (sentE M p every trust = 0) && rightF M p every.toNat trust

set_option maxHeartbeats 800000 in
theorem sSent_c (w : World) (a a2 : Option Addr) (n cap n2 cap2 : Nat) (M : Mask) (p : List (List Int)) (every trust : Int) (hn : M.length = n) (hm : n ≤ maxLen) (H : RowsAt w a M) (hn2 : p.length = n2) (hm2 : n2 ≤ maxLen) (H2 : RowsAt w a2 p) :
    Calls Tryz.prog 9 #[.slice a n cap, .slice a2 n2 cap2, .int .i64 every, .int .i64 trust] w fun e w' => e = .returned (.tuple #[.bool (sentB M p every trust), .int .i64 (sentE M p every trust)]) ∧ Below w.heap.size w w' := by
  have HV := hid (validPics_c w a n cap M hn hm H a2 n2 cap2 p hn2 hm2 H2)
  cases hP : picsB M p
  · have he : sentE M p every trust = 1 := by unfold sentE; rw [hP]; rfl
    have hb : sentB M p every trust = false := by unfold sentB; rw [he]; rfl
    rw [hP] at HV
    rw [he, hb]
    clear hn H hn2 H2 hP he hb
    go_enter Tryz.func9, Tryz.ntmps9
    go_wp2_with (go_at_call 31; refine HV.out.mono ?_; rintro e w1 ⟨rfl, hb1⟩)
    go_ret2
    exact ⟨rfl, hb1⟩
  · obtain ⟨hM, hp1, hp60, hpp⟩ := picsB_ok hP
    obtain ⟨_, h1, h6, hc1, hc10⟩ := okM_ok hM
    obtain ⟨b, off, ra, rc, rfl, hb, hc⟩ := rows_head H (by omega)
    have i0 : (0 : Int) < (n : Int) := by omega
    have HC0 := hid (show ∀ X : World, Below w.heap.size w X → X.cell? ⟨b, off, none⟩ = some (.slice ra (colsM M) rc) from fun X hX => (hX.cell (p := ⟨b, off, none⟩) hb).trans hc)
    have HW := hid (fun X => swithin_c every 1 60 X)
    have HT := hid (fun X => swithin_c trust 0 (colsM M) X)
    have HE := hid (show sentE M p every trust = if inB every 1 60 = true ∧ inB trust 0 (colsM M) = true then 0 else 7 by unfold sentE; rw [hP]; rfl)
    rw [hP] at HV
    cases hE : inB every 1 60
    · have he : sentE M p every trust = 7 := by rw [HE.out, hE]; rfl
      have hb : sentB M p every trust = false := by unfold sentB; rw [he]; rfl
      rw [hE] at HW
      rw [he, hb]
      clear hn H hn2 H2 hP he hb hE hc hpp hM
      go_enter Tryz.func9, Tryz.ntmps9
      go_wp2_with first
        | (go_at_call 31; refine HV.out.mono ?_; rintro e w1 ⟨rfl, hb1⟩)
        | (go_at_call 32; refine (HW.out _).mono ?_; rintro e w2 ⟨rfl, rfl⟩)
      go_ret2
      exact ⟨rfl, hb1⟩
    · rw [hE] at HW
      cases hT : inB trust 0 (colsM M)
      · have he : sentE M p every trust = 7 := by rw [HE.out, hE, hT]; rfl
        have hb : sentB M p every trust = false := by unfold sentB; rw [he]; rfl
        rw [he, hb]
        obtain ⟨W, hW⟩ : ∃ W, W = colsM M := ⟨_, rfl⟩
        rw [← hW] at hT HC0
        clear hn H hn2 H2 hP he hb hc hpp hM hW HT HW
        go_enter Tryz.func9, Tryz.ntmps9
        go_wp2_with first
          | (go_at_call 31; refine HV.out.mono ?_; rintro e w1 ⟨rfl, hb1⟩; have hc1' := HC0.out w1 hb1)
          | (go_at_call 32; refine (swithin_c _ _ _ _).mono ?_; rintro e w2 ⟨rfl, rfl⟩)
        go_ret2
        exact ⟨rfl, hb1⟩
      · have he : sentE M p every trust = 0 := by rw [HE.out, hE, hT]; rfl
        have hb : sentB M p every trust = rightF M p every.toNat trust := by unfold sentB; rw [he]; rfl
        have hE' : 1 ≤ every ∧ every ≤ 60 := by unfold inB at hE; simpa using hE
        obtain ⟨E, rfl⟩ : ∃ E : Nat, every = (E : Int) := ⟨every.toNat, by omega⟩
        have HR := hid (fun (X : World) (hX : Below w.heap.size w X) => right_c X (some ⟨b, off, none⟩) a2 n cap n2 cap2 M p E trust hn hn2 hm hm2 (H.below hX) (H2.below hX) hP (by omega) (by omega))
        rw [he, hb, Int.toNat_natCast]
        obtain ⟨W, hW⟩ : ∃ W, W = colsM M := ⟨_, rfl⟩
        rw [← hW] at hT HC0
        clear hn H hn2 H2 hP he hb hc hpp hM hW hE' HT HW
        go_enter Tryz.func9, Tryz.ntmps9
        go_wp2_with first
          | (go_at_call 31; refine HV.out.mono ?_; rintro e w1 ⟨rfl, hb1⟩; have hc1' := HC0.out w1 hb1)
          | (go_at_call 32; refine (swithin_c _ _ _ _).mono ?_; rintro e w2 ⟨rfl, rfl⟩)
          | (go_at_call 33; refine (HR.out _ hb1).mono ?_; rintro e w3 ⟨rfl, hb3⟩)
        go_ret2
        exact ⟨rfl, chain hb1 hb3⟩

def awM : Mask := [[1, 1, 0], [0, 1, 1]]
def awP : List (List Int) := [[0, 0, 0], [0, 5, 0], [0, 5, 2]]
theorem aw_enc : encE awM awP 3 = 0 ∧ encF awM awP (Int.toNat 3) = [(true, [0, 0, 0]), (false, [5, 5]), (false, [0, 2])] := ⟨by kernel_rfl, by kernel_rfl⟩
theorem aw_sent : sentE awM awP 3 1 = 0 ∧ sentB awM awP 3 1 = true := ⟨by kernel_rfl, by kernel_rfl⟩
theorem ints_lit3 (w : World) (x y z : Int) (T : TypeId) : IntsAt (w.alloc (.cells #[.int .i64 x, .int .i64 y, .int .i64 z] T)) (some ⟨w.heap.size, 0, none⟩) [x, y, z] := fun j hj => ⟨w.heap.size, 0, rfl, by simp, by
  rw [World.cell?_alloc_at _ _ _ _ rfl]
  match j, hj with
  | 0, _ => rfl
  | 1, _ => rfl
  | 2, _ => rfl⟩
theorem ints_lit2 (w : World) (x y : Int) (T : TypeId) : IntsAt (w.alloc (.cells #[.int .i64 x, .int .i64 y] T)) (some ⟨w.heap.size, 0, none⟩) [x, y] := fun j hj => ⟨w.heap.size, 0, rfl, by simp, by
  rw [World.cell?_alloc_at _ _ _ _ rfl]
  match j, hj with
  | 0, _ => rfl
  | 1, _ => rfl⟩
theorem rows_three {w : World} {a1 a2 a3 : Option Addr} {n1 c1 n2 c2 n3 c3 : Nat} {x y z : List Int} (T : TypeId) (h1 : x.length = n1) (h2 : y.length = n2) (h3 : z.length = n3) (m1 : n1 ≤ maxLen) (m2 : n2 ≤ maxLen) (m3 : n3 ≤ maxLen) (H1 : IntsAt w a1 x) (H2 : IntsAt w a2 y) (H3 : IntsAt w a3 z) :
    RowsAt (w.alloc (.cells #[.slice a1 n1 c1, .slice a2 n2 c2, .slice a3 n3 c3] T)) (some ⟨w.heap.size, 0, none⟩) [x, y, z] := by
  have hb : Below w.heap.size w (w.alloc (.cells #[.slice a1 n1 c1, .slice a2 n2 c2, .slice a3 n3 c3] T)) := (Below.refl _ _).alloc (Nat.le_refl _) _
  intro j hj
  match j, hj with
  | 0, _ => exact ⟨w.heap.size, 0, a1, n1, c1, rfl, by simp, by rw [World.cell?_alloc_at _ _ _ _ rfl]; rfl, h1, m1, H1.below hb⟩
  | 1, _ => exact ⟨w.heap.size, 0, a2, n2, c2, rfl, by simp, by rw [World.cell?_alloc_at _ _ _ _ rfl]; rfl, h2, m2, H2.below hb⟩
  | 2, _ => exact ⟨w.heap.size, 0, a3, n3, c3, rfl, by simp, by rw [World.cell?_alloc_at _ _ _ _ rfl]; rfl, h3, m3, H3.below hb⟩

theorem awM_rows (w : World) : let W := ((w.alloc (.cells #[.int .i64 1, .int .i64 1, .int .i64 0] 3)).alloc (.cells #[.int .i64 0, .int .i64 1, .int .i64 1] 3)).alloc (.cells #[.slice (some ⟨w.heap.size, 0, none⟩) 3 3, .slice (some ⟨w.heap.size + 1, 0, none⟩) 3 3] 33)
    RowsAt W (some ⟨w.heap.size + 2, 0, none⟩) awM ∧ Below w.heap.size w W ∧ W.heap.size = w.heap.size + 3 := by
  have i1 := ints_lit3 w 1 1 0 3
  have i2 := ints_lit3 (w.alloc (.cells #[.int .i64 1, .int .i64 1, .int .i64 0] 3)) 0 1 1 3
  have b2 : ∀ o, Below (w.alloc (.cells #[.int .i64 1, .int .i64 1, .int .i64 0] 3)).heap.size (w.alloc (.cells #[.int .i64 1, .int .i64 1, .int .i64 0] 3)) ((w.alloc (.cells #[.int .i64 1, .int .i64 1, .int .i64 0] 3)).alloc o) := fun o => (Below.refl _ _).alloc (Nat.le_refl _) _
  have h := rows_two (c1 := 3) (c2 := 3) 33 rfl rfl (by decide) (by decide) (i1.below (b2 _)) i2
  simp only [World.size_alloc] at h
  exact ⟨h, ((((Below.refl _ _).alloc (Nat.le_refl _) _).alloc (by simp) _).alloc (by simp; omega) _), by simp⟩
theorem awP_rows (w : World) : let W := (((w.alloc (.cells #[.int .i64 0, .int .i64 0, .int .i64 0] 3)).alloc (.cells #[.int .i64 0, .int .i64 5, .int .i64 0] 3)).alloc (.cells #[.int .i64 0, .int .i64 5, .int .i64 2] 3)).alloc (.cells #[.slice (some ⟨w.heap.size, 0, none⟩) 3 3, .slice (some ⟨w.heap.size + 1, 0, none⟩) 3 3, .slice (some ⟨w.heap.size + 2, 0, none⟩) 3 3] 33)
    RowsAt W (some ⟨w.heap.size + 3, 0, none⟩) awP ∧ Below w.heap.size w W ∧ W.heap.size = w.heap.size + 4 := by
  obtain ⟨w1, hw1⟩ : ∃ w1, w1 = w.alloc (.cells #[.int .i64 0, .int .i64 0, .int .i64 0] 3) := ⟨_, rfl⟩
  have i1 := ints_lit3 w 0 0 0 3
  rw [← hw1] at i1 ⊢
  have i2 := ints_lit3 w1 0 5 0 3
  have s1 : w1.heap.size = w.heap.size + 1 := by rw [hw1]; simp
  obtain ⟨w2, hw2⟩ : ∃ w2, w2 = w1.alloc (.cells #[.int .i64 0, .int .i64 5, .int .i64 0] 3) := ⟨_, rfl⟩
  rw [← hw2] at i2 ⊢
  have b1 : Below w.heap.size w w1 := by rw [hw1]; exact (Below.refl _ _).alloc (Nat.le_refl _) _
  have b2 : Below w1.heap.size w1 w2 := by rw [hw2]; exact (Below.refl _ _).alloc (Nat.le_refl _) _
  have s2 : w2.heap.size = w.heap.size + 2 := by rw [hw2]; simp [s1]
  have i3 := ints_lit3 w2 0 5 2 3
  obtain ⟨w3, hw3⟩ : ∃ w3, w3 = w2.alloc (.cells #[.int .i64 0, .int .i64 5, .int .i64 2] 3) := ⟨_, rfl⟩
  rw [← hw3] at i3 ⊢
  have b3 : Below w2.heap.size w2 w3 := by rw [hw3]; exact (Below.refl _ _).alloc (Nat.le_refl _) _
  have s3 : w3.heap.size = w.heap.size + 3 := by rw [hw3]; simp [s2]
  rw [s1] at i2
  rw [s2] at i3
  have h := rows_three (c1 := 3) (c2 := 3) (c3 := 3) 33 rfl rfl rfl (by decide) (by decide) (by decide) ((i1.below b2).below b3) (i2.below b3) i3
  rw [s3] at h
  exact ⟨h, (chain (chain b1 b2) b3).alloc (by omega) _, by simp [s3]⟩

theorem awake8_c (w : World) : Calls Tryz.prog 8 #[] w fun e w' => e = .returned (.bool true) ∧ Below w.heap.size w w' := by
  obtain ⟨hM, hbA, hsA⟩ := awM_rows w
  obtain ⟨wA, hA⟩ : ∃ wA, wA = ((w.alloc (.cells #[.int .i64 1, .int .i64 1, .int .i64 0] 3)).alloc (.cells #[.int .i64 0, .int .i64 1, .int .i64 1] 3)).alloc (.cells #[.slice (some ⟨w.heap.size, 0, none⟩) 3 3, .slice (some ⟨w.heap.size + 1, 0, none⟩) 3 3] 33) := ⟨_, rfl⟩
  rw [← hA] at hM hbA hsA
  obtain ⟨hP, hbB, hsB⟩ := awP_rows wA
  obtain ⟨wB, hB⟩ : ∃ wB, wB = (((wA.alloc (.cells #[.int .i64 0, .int .i64 0, .int .i64 0] 3)).alloc (.cells #[.int .i64 0, .int .i64 5, .int .i64 0] 3)).alloc (.cells #[.int .i64 0, .int .i64 5, .int .i64 2] 3)).alloc (.cells #[.slice (some ⟨wA.heap.size, 0, none⟩) 3 3, .slice (some ⟨wA.heap.size + 1, 0, none⟩) 3 3, .slice (some ⟨wA.heap.size + 2, 0, none⟩) 3 3] 33) := ⟨_, rfl⟩
  rw [← hB] at hP hbB hsB
  have hMB := hM.below hbB
  have hbW := chain hbA hbB
  have hEN := sEncode_c wB (some ⟨w.heap.size + 2, 0, none⟩) (some ⟨wA.heap.size + 3, 0, none⟩) 2 2 3 3 awM awP 3 rfl (by decide) hMB rfl (by decide) hP
  rw [hsA] at hEN
  have HSE := hid (fun (X : World) (hX : Below wB.heap.size wB X) => sSent_c X (some ⟨w.heap.size + 2, 0, none⟩) (some ⟨wA.heap.size + 3, 0, none⟩) 2 2 3 3 awM awP 3 1 rfl (by decide) (hMB.below hX) rfl (by decide) (hP.below hX))
  rw [aw_sent.1, aw_sent.2, hsA] at HSE
  rw [aw_enc.1, aw_enc.2] at hEN
  have HEN := hid hEN
  have HBW := hid hbW
  have HSB := hid hsB
  have HSA := hid hsA
  have hBB := hB
  rw [hA] at hBB
  simp only [World.size_alloc] at hBB
  have HB := hid hBB
  clear hM hbA hsA hP hbB hsB hMB hbW hEN hA hB hBB
  go_enter Tryz.func8, Tryz.ntmps8
  go_wp2_with fail
  rw [← HB.out]
  refine (show Calls Tryz.prog _ _ wB _ from HEN.out.mono ?_)
  rintro e w1 ⟨hb1, ⟨h, _⟩ | ⟨_, v, base, rfl, hbs, hO⟩⟩
  · exact absurd rfl h
  obtain ⟨fa, fc, rfl, hfm, hfr⟩ := hO.reads
  have HFR := hid hfr
  have HB1 := hid hb1
  clear hO hfr hfm hb1 HEN HB
  go_wp2_with (go_at_call 9; refine (HSE.out w1 HB1.out).mono ?_; rintro e w2 ⟨rfl, hb2⟩; refine Stop.of ?_)
  refine Stop.go ?_
  obtain ⟨fb, fo, ra, rn, rc, rfl, hfb, hf0, hf1, hrn, hrm, hri⟩ := (HFR.out.below hb2) 2 (by decide)
  have hrn2 : rn = 2 := hrn.symm
  subst hrn2
  have hB2 := chain HB1.out hb2
  have hb5 : Below w2.heap.size w2 (w2.alloc (.cells #[.int .i64 0, .int .i64 2] 3)) := (Below.refl _ _).alloc (Nat.le_refl _) _
  have HSI := hid (s8Ints_c (w2.alloc (.cells #[.int .i64 0, .int .i64 2] 3)) ra (some ⟨w2.heap.size, 0, none⟩) 2 rc 2 2 [0, 2] [0, 2] rfl rfl (by decide) (by decide) (hri.below hb5) (ints_lit2 w2 0 2 3))
  have hd : decide (([0, 2] : List Int) = [0, 2]) = true := by decide
  rw [hd] at HSI
  have HB5 := hid (chain HBW.out (chain hB2 hb5))
  clear hB2 hb5 hd hri hrn hb2
  go_wp2_with (go_at_call 22; refine HSI.out.mono ?_; rintro e w7 ⟨rfl, k7, rfl⟩)
  go_ret
  exact ⟨rfl, below_drewN HB5.out k7⟩
end Go.Proofs.YtkmjeegnijohmaaGreat

namespace Go.Proofs.YtkmjeegnijohmaaGreat
open Go.RowKit
set_option linter.unusedVariables false

def ElemQ (W : World) (base : Nat) (v : Value) (l : List Rt) : Prop :=
  ∃ a n cap, v = .slice a n cap ∧ l.length = n ∧ n ≤ maxLen ∧ ∀ j (hj : j < l.length), ∃ b off, a = some ⟨b, off, none⟩ ∧ b < W.heap.size ∧ (b < base ∨ ∃ c f, W.heap[b]? = some (.cells c 101 f)) ∧
    W.cell? ⟨b, off + j * 2, none⟩ = some (.int .i64 l[j].1) ∧ W.cell? ⟨b, off + j * 2 + 1, none⟩ = some (.int .i64 l[j].2)
theorem ElemQ.keep {W W' : World} {base : Nat} {T : Nat → Prop} {v : Value} {l : List Rt} (h : ElemQ W base v l) (hk : Keep T W W') (hT : ∀ b, b < W.heap.size → (b < base ∨ ∃ c f, W.heap[b]? = some (.cells c 101 f)) → T b) : ElemQ W' base v l := by
  obtain ⟨a, n, cap, e, hn, hm, hj⟩ := h
  refine ⟨a, n, cap, e, hn, hm, fun j hlt => ?_⟩
  obtain ⟨b, off, e, hb, hty, h0, h1⟩ := hj j hlt
  have ht := hT b hb hty
  refine ⟨b, off, e, Nat.lt_of_lt_of_le hb hk.size, ?_, hk.cell h0 ht, hk.cell h1 ht⟩
  rcases hty with h | ⟨c, f, h⟩
  · exact .inl h
  · exact .inr ⟨c, f, (hk.block b hb ht).trans h⟩
theorem ElemQ.below {W W' : World} {base : Nat} {v : Value} {l : List Rt} (h : ElemQ W base v l) (hb : Below W.heap.size W W') : ElemQ W' base v l := h.keep (Keep.of_below hb : Keep (fun _ => True) _ _) (fun _ _ _ => trivial)
theorem ElemQ.own {W : World} {base b0 : Nat} {v : Value} {l : List Rt} (h : RatsO W b0 v l) : ElemQ W base v l := by
  rcases h.2 with ⟨rfl, h0⟩ | ⟨g, cap, cur, rfl, hbg, hgg, hnc, hcm, hsz, htk⟩
  · exact ⟨none, 0, 0, rfl, h0, by decide, fun j hj => by omega⟩
  · refine ⟨_, _, cap, rfl, rfl, by omega, fun j hj => ⟨g, 0, rfl, (Array.getElem?_eq_some_iff.1 hgg).1, .inr ⟨cur, _, hgg⟩, ?_⟩⟩
    have hc : ∀ i, i < l.length * 2 → W.cell? ⟨g, i, none⟩ = (ratVals l)[i]? := fun i hi =>
      World.ownsRow.cellAt (w := W) (base := b0) (e := 101) (size := 2) (g := g) (n := l.length) (cap := cap) (xs := ratVals l) ⟨h.1, .inr ⟨g, cap, cur, rfl, hbg, hgg, hnc, hcm, hsz, htk⟩⟩ i hi
    refine ⟨?_, ?_⟩
    · rw [Nat.zero_add, hc _ (by omega)]; exact ratVals_at l j 0 hj (by omega)
    · rw [Nat.zero_add, hc _ (by omega)]; exact ratVals_at l j 1 hj (by omega)
theorem ElemQ.rats {W : World} {base n cap : Nat} {a : Option Addr} {l : List Rt} (h : ElemQ W base (.slice a n cap) l) : l.length = n ∧ n ≤ maxLen ∧ RatsAt W a l := by
  obtain ⟨a', n', cap', e, hn, hm, hj⟩ := h
  cases e
  exact ⟨hn, hm, fun j hlt => by obtain ⟨b, off, e, hb, _, h0, h1⟩ := hj j hlt; exact ⟨b, off, e, hb, h0, h1⟩⟩

def FitR (o : Option FitT) (e : Ending) (w' : World) : Prop :=
  (o = none ∧ e = .returned (.tuple #[.agg #[.slice none 0 0, .slice none 0 0], .bool false])) ∨ (∃ f us ur, o = some f ∧ e = .returned (.tuple #[.agg #[us, ur], .bool true]) ∧ (∀ lo, ElemI 3 w' lo (fun _ => True) us f.1) ∧ ∀ lo, ElemQ w' lo ur f.2)

set_option maxRecDepth 100000 in
set_option maxHeartbeats 2000000 in
theorem r4fit_c (w : World) (a a2 a3 : Option Addr) (n cap n2 cap2 n3 cap3 : Nat) (M : Mask) (y S : List Int) (hn : M.length = n) (hn2 : y.length = n2) (hn3 : S.length = n3) (hm : n ≤ maxLen) (hm2 : n2 ≤ maxLen) (hm3 : n3 ≤ 1000) (H : RowsAt w a M) (H2 : IntsAt w a2 y) (H3 : IntsAt w a3 S) :
    Calls Tryz.prog 132 #[.slice a n cap, .slice a2 n2 cap2, .slice a3 n3 cap3] w fun e w' => FitR (fitF M y S) e w' ∧ Below w.heap.size w w' := by
  obtain ⟨wz, hz⟩ : ∃ wz, wz = w.alloc (.cells #[.slice none 0 0, .slice none 0 0] 110) := ⟨_, rfl⟩
  have hbz : Below w.heap.size w wz := by rw [hz]; exact (Below.refl _ _).alloc (Nat.le_refl _) _
  have hq : wz.heap[w.heap.size]? = some (.cells #[.slice none 0 0, .slice none 0 0] 110 (0, 0)) := by rw [hz]; exact World.alloc_heap_new _ _
  have hsz : wz.heap.size = w.heap.size + 1 := by rw [hz]; simp
  have HSO := hid (r3Solve_c wz a a3 a2 n cap n3 cap3 n2 cap2 M S y hn hn3 hn2 hm (Nat.le_trans hm3 (by decide)) hm2 (H.below hbz) (H3.below hbz) (H2.below hbz))
  have HFF := hid (show fitF M y S = if (solveV M S y).2 = 0 ∧ (solveV M S y).1.all (fun r => decide (r.1 ≠ 0)) = true then some (S, (solveV M S y).1) else none from rfl)
  obtain ⟨F, hF⟩ : ∃ F, F = fitF M y S := ⟨_, rfl⟩
  obtain ⟨⟨V, E⟩, hVE⟩ : ∃ V, V = solveV M S y := ⟨_, rfl⟩
  rw [← hVE] at HSO HFF
  rw [← hF] at HFF ⊢
  simp only [] at HSO HFF
  have HB := hid hbz
  have HQ := hid (fun (X : World) (hX : Below wz.heap.size wz X) => (hX.block w.heap.size (by omega)).trans hq)
  have HZ := hid hz
  have HN3 := hid hn3
  have H3' := hid H3
  have HSZ := hid hsz
  clear hn hn2 hn3 H H2 H3 hF hVE hbz hq hz hsz
  go_enter Tryz.func132, Tryz.ntmps132
  go_wp2_with fail
  rw [← HZ.out]
  go_wp2_with (go_at_call 141; refine HSO.out.mono ?_; rintro e w1 ⟨v, base, rfl, hbs, hO, hb1⟩; refine Stop.of ?_)
  refine Stop.go ?_
  obtain ⟨va, vc, rfl, hvm, hvr⟩ := hO.reads
  have HVR := hid hvr
  have HO := hid hO
  have HB1 := hid hb1
  have HBS := hid hbs
  obtain ⟨z0, z1, f0, f1, hlt⟩ := box2_facts (HQ.out w1 hb1)
  have hw1 : w.heap.size ≤ w1.heap.size := Nat.le_trans HB.out.size hb1.size
  clear hO hvr hb1 hbs HSO
  by_cases hE : E = 0
  rotate_left
  · obtain rfl : F = none := by rw [HFF.out, if_neg (fun h => hE h.1)]
    have hEb : (E != 0) = true := by simpa using hE
    have HFI := hid (below_set (below_set (chain HB.out HB1.out) (Nat.le_refl _) 0 (.slice none 0 0)) (Nat.le_refl _) 1 (.slice none 0 0))
    clear hE
    go_wp2
    refine bodyPost_ret (v := .tuple #[.agg #[.slice none 0 0, .slice none 0 0], .bool false]) ?_ rfl ⟨.inl ⟨rfl, rfl⟩, HFI.out⟩
    simp [results, Tryz.results132, go_sem, z0, z1, f0, f1, hlt]
  · subst hE
    have hall : F = if V.all (fun r => decide (r.1 ≠ 0)) = true then some (S, V) else none := by
      rw [HFF.out]
      by_cases h : V.all (fun r => decide (r.1 ≠ 0)) = true
      · rw [if_pos ⟨rfl, h⟩, if_pos h]
      · rw [if_neg (fun hh => h hh.2), if_neg h]
    have HALL := hid hall
    unfold maxLen at hvm
    clear hall HFF z0 z1 f0 f1 hlt
    go_wp2
    go_loopw [24] (fun i wr => ∃ k : Nat, k ≤ V.length ∧ i = .int .i64 k ∧ Below w1.heap.size w1 wr ∧ ∀ j (hj : j < V.length), j < k → decide (V[j].1 ≠ 0) = true) (fun i _ => V.length - (intOf i).toNat)
    case atStart => exact ⟨0, Nat.zero_le _, rfl, Below.refl _ _, fun j _ h => by omega⟩
    case round =>
      obtain ⟨k, hk, rfl, hb, hno⟩ := hrel
      have HNO := hid hno
      clear hno
      obtain ⟨z0, z1, f0, f1, hlt⟩ := box2_facts (HQ.out wr (chain HB1.out hb))
      by_cases hkl : k < V.length
      · obtain ⟨b, off, rfl, hbs, h0, h1⟩ := (HVR.out.below hb) k hkl
        obtain ⟨⟨p, q⟩, hr⟩ : ∃ r, r = V[k]'hkl := ⟨_, rfl⟩
        rw [← hr] at h0 h1
        simp only [] at h0 h1
        have HR := hid hr
        have HBB := hid hb
        have HKL := hid hkl
        clear hr hb
        by_cases hp : p = 0
        · subst hp
          have hbad : F = none := by
            rw [HALL.out, if_neg]
            intro hh
            have := List.all_eq_true.1 hh _ (List.getElem_mem HKL.out)
            rw [← HR.out] at this
            simp at this
          subst hbad
          have hsw : w.heap.size < wr.heap.size := hlt
          have hq3 : (((wr.setCell ⟨w.heap.size, 0, none⟩ (.slice none 0 0)).setCell ⟨w.heap.size, 1, none⟩ (.slice none 0 0)).alloc (.cells #[.int .i64 0, .int .i64 q] 101)).heap[w.heap.size]? = some (.cells #[.slice none 0 0, .slice none 0 0] 110 (0, 0)) :=
            (Below.heap_alloc _ _ _ (by simp [World.setCell]; omega)).trans (set2_block (HQ.out wr (chain HB1.out HBB.out)))
          obtain ⟨y0, y1, _, _, hl2⟩ := box2_facts hq3
          have hbS := below_set (below_set (chain (chain HB.out HB1.out) HBB.out) (Nat.le_refl _) 0 (.slice none 0 0)) (Nat.le_refl _) 1 (.slice none 0 0)
          have HFI := hid (hbS.alloc (by simp [World.setCell]; omega) (.cells #[.int .i64 0, .int .i64 q] 101))
          clear hq3 hbS
          go_wp2
          refine bodyPost_ret (v := .tuple #[.agg #[.slice none 0 0, .slice none 0 0], .bool false]) ?_ rfl ⟨.inl ⟨rfl, rfl⟩, HFI.out⟩
          simp [results, Tryz.results132, go_sem, y0, y1, hl2]
        · have hpe : (p == 0) = false := by simpa using hp
          have HP := hid hp
          clear hp z0 z1 f0 f1 hlt
          go_wp2
          refine ⟨⟨k + 1, by omega, by go_num, HBB.out.alloc HBB.out.size _, fun j hj hjk => ?_⟩, by simp [intOf]; omega⟩
          by_cases e : j = k
          · subst e; rw [← HR.out]; simpa using HP.out
          · exact HNO.out j hj (by omega)
      · obtain rfl : k = V.length := by omega
        have hgood : F = some (S, V) := by
          rw [HALL.out, if_pos]
          exact List.all_eq_true.2 fun r hr => by obtain ⟨j, hj, rfl⟩ := List.getElem_of_mem hr; exact HNO.out j hj hj
        have HGO := hid hgood
        have hbw : Below w.heap.size w wr := chain (chain HB.out HB1.out) hb
        have h3i := H3'.out.below hbw
        have hX0 : a3 = none → n3 = 0 := fun h => by
          rcases Nat.eq_zero_or_pos n3 with h' | h'
          · exact h'
          · obtain ⟨_, _, e, _⟩ := H3'.out 0 (by rw [HN3.out]; exact h'); rw [h] at e; cases e
        have hbA : Below wr.heap.size wr (wr.alloc (.cells #[] 3)) := (Below.refl _ _).alloc (Nat.le_refl _) _
        have HNX := hid (news_ints h3i hbA)
        have M := World.ownsRow_made (base := wr.heap.size) (e := 3) (size := 1) wr #[] 0 (Nat.le_refl _) (Nat.zero_le _) rfl
        have HM := hid M
        have HX0 := hid hX0
        have HBW := hid hbw
        have HBA := hid hbA
        have HB' := hid hb
        have hws := Nat.le_trans hw1 hb.size
        have HQA := hid (HQ.out wr (chain HB1.out hb))
        clear hgood hbw h3i hX0 hbA M hb z0 z1 f0 f1 hlt
        go_wp2_with (at_builtin; refine wpList_app _ rfl (.tmp 33) (.tmp 34) 33 rfl wr.heap.size 3 (.int .i64 0) 1 8 Tryz.underlying33 li_int rfl Nat.one_pos (.slice (some ⟨wr.heap.size, 0, none⟩) 0 0) 0 [] rfl HM.out a3 n3 cap3 (S.map (Value.int .i64)) rfl (by rw [List.length_map, HN3.out, Nat.mul_one]) HX0.out HNX.out (ints_one _) (by rw [Nat.zero_add]; unfold maxLen; omega) (by omega) (by simp) ?_; intro ca cc w4 own4 g4; refine Stop.of ?_)
        refine Stop.go ?_
        have hb4 : Below wr.heap.size wr w4 := HBA.out.grown g4 HBA.out.size (fun g hg => (HM.out.lt g hg).1)
        have hown4 : w4.ownsRow wr.heap.size 3 1 (.slice ca n3 cc) n3 (S.map (Value.int .i64)) := by simpa using own4
        obtain ⟨z0, z1, f0, f1, hlt⟩ := box2_facts ((hb4.block w.heap.size (by have := HSZ.out; have := HB1.out.size; have := HB'.out.size; omega)).trans HQA.out)
        have HFI := hid (below_set (below_set (chain HBW.out hb4) (Nat.le_refl _) 0 (.slice ca n3 cc)) (Nat.le_refl _) 1 (.slice va V.length vc))
        have hszz : w.heap.size < wr.heap.size := by have := HSZ.out; have := HB1.out.size; have := HB'.out.size; omega
        have hE1 : ∀ lo, ElemI 3 ((w4.setCell ⟨w.heap.size, 0, none⟩ (.slice ca n3 cc)).setCell ⟨w.heap.size, 1, none⟩ (.slice va V.length vc)) lo (fun _ => True) (.slice ca n3 cc) S := fun lo =>
          ElemI.own' (own_set (own_set hown4 _ (fun g hg => by have := (hown4.lt g hg).1; omega)) _ (fun g hg => by have := (hown4.lt g hg).1; omega)) rfl HN3.out (by unfold maxLen; omega) (fun _ _ => trivial)
        have hO4 : RatsO w4 base (.slice va V.length vc) V := RatsO.below HO.out (chain HB'.out hb4)
        have hE2 : ∀ lo, ElemQ ((w4.setCell ⟨w.heap.size, 0, none⟩ (.slice ca n3 cc)).setCell ⟨w.heap.size, 1, none⟩ (.slice va V.length vc)) lo (.slice va V.length vc) V := fun lo =>
          ElemQ.own (own_set (own_set hO4 _ (fun g hg => by have := (hO4.lt g hg).1; have := HBS.out; have := HSZ.out; omega)) _ (fun g hg => by have := (hO4.lt g hg).1; have := HBS.out; have := HSZ.out; omega))
        have HE1 := hid hE1
        have HE2 := hid hE2
        clear hE1 hE2 hO4 hown4 own4 g4 hb4
        go_wp2
        refine bodyPost_ret (v := .tuple #[.agg #[.slice ca n3 cc, .slice va V.length vc], .bool true]) ?_ rfl ⟨.inr ⟨_, _, _, HGO.out, rfl, HE1.out, HE2.out⟩, HFI.out⟩
        simp [results, Tryz.results132, go_sem, z0, z1, f0, f1, hlt]
end Go.Proofs.YtkmjeegnijohmaaGreat

namespace Go.Proofs.YtkmjeegnijohmaaGreat
open Go.RowKit
set_option linter.unusedVariables false

theorem lvls_mem {n : Nat} {s : List Int} : ∀ {k : Nat}, s ∈ lvls n k → ∃ j, j ≤ k ∧ s ∈ comb n j 0
  | 0, h => ⟨0, Nat.le_refl _, h⟩
  | k + 1, h => by
    rcases List.mem_append.1 h with h | h
    · obtain ⟨j, hj, h⟩ := lvls_mem h
      exact ⟨j, by omega, h⟩
    · exact ⟨k + 1, Nat.le_refl _, h⟩
theorem lvls_count (n : Nat) : ∀ k, (lvls n k).length ≤ (k + 1) * 2 ^ n
  | 0 => by have := comb_count n 0 0; show (comb n 0 0).length ≤ _; omega
  | k + 1 => by
    show (lvls n k ++ comb n (k + 1) 0).length ≤ _
    rw [List.length_append, Nat.succ_mul]
    have h1 := lvls_count n k
    have h3 := comb_count n (k + 1) 0
    omega
theorem allS_le {n : Nat} (h : n ≤ 10) : (allS n).length ≤ 20000 := by
  have h1 := lvls_count n n
  have h2 : 2 ^ n ≤ 2 ^ 10 := Nat.pow_le_pow_right (by decide) h
  have h3 : (n + 1) * 2 ^ n ≤ 11 * 2 ^ 10 := Nat.mul_le_mul (by omega) h2
  unfold allS
  omega
theorem allS_ok {n : Nat} {s : List Int} (h : s ∈ allS n) : s.length ≤ n ∧ SetOk n s := by
  obtain ⟨j, hj, hs⟩ := lvls_mem h
  exact ⟨by rw [comb_len n j 0 s hs]; exact hj, comb_ok hs⟩
def growT (n q : Nat) (s : List Int) (F : Int) (t : Nat) : List (List Int) := grown n q ++ ((upF F (n - F).toNat).take t).map (fun j => s ++ [j])
theorem growT_succ {n q : Nat} {s : List Int} {F : Int} {t : Nat} (h : t < (n - F).toNat) : growT n q s F (t + 1) = growT n q s F t ++ [s ++ [F + t]] := by
  unfold growT
  have h1 : t < (upF F (n - F).toNat).length := by rw [upF_len]; exact h
  have h2 : (upF F (n - F).toNat)[t] = F + t := by
    have := upF_get (n - F).toNat F t h
    rw [List.getElem?_eq_getElem h1] at this
    simpa using this
  rw [List.take_succ_eq_append_getElem h1, h2, List.map_append, List.append_assoc]; rfl
theorem growT_zero (n q : Nat) (s : List Int) (F : Int) : growT n q s F 0 = grown n q := by simp [growT]
theorem growT_all {n q : Nat} {s : List Int} {t : Nat} (hs : (allS n)[q]? = some s) (h : (n - nextFrom 0 s).toNat ≤ t) : growT n q s (nextFrom 0 s) t = grown n (q + 1) := by
  rw [grown_succ hs]
  unfold growT extS
  rw [List.take_of_length_le (by rw [upF_len]; exact h)]
theorem growT_le {n q : Nat} {s : List Int} {t : Nat} (hs : (allS n)[q]? = some s) : (growT n q s (nextFrom 0 s) t).length ≤ (allS n).length := by
  have h1 : (growT n q s (nextFrom 0 s) t).length ≤ (grown n (q + 1)).length := by
    rw [grown_succ hs]
    unfold growT extS
    rw [List.length_append, List.length_append, List.length_map, List.length_map]
    have := List.length_take_le t (upF (nextFrom 0 s) (n - nextFrom 0 s).toNat)
    have h3 : ((upF (nextFrom 0 s) (n - nextFrom 0 s).toNat).take t).length ≤ (upF (nextFrom 0 s) (n - nextFrom 0 s).toNat).length := List.length_take_le' _ _
    omega
  exact Nat.le_trans h1 (grown_prefix n (q + 1)).length_le
theorem nextFrom_at {s : List Int} {k : Nat} (h : s.length = k + 1) : nextFrom 0 s = s[k]?.getD 0 + 1 := by
  unfold nextFrom
  rw [List.getLast?_eq_getElem?, h]
  simp only [Nat.add_sub_cancel]
  rw [List.getElem?_eq_getElem (by omega)]
  rfl
theorem nextFrom_nil : nextFrom 0 [] = 0 := rfl
theorem nextFrom_le {n : Nat} {s : List Int} (h : SetOk n s) : 0 ≤ nextFrom 0 s ∧ nextFrom 0 s ≤ n := by
  unfold nextFrom
  cases hs : s.getLast? with
  | none => simp
  | some x =>
    have := h.2 x (List.mem_of_getLast? hs)
    simp only []
    omega

theorem RowS.beside {w1 w3 : World} {base n : Nat} {v u : Value} {l : List Int} {vs : List Value} (h : RowS w1 u l) (h1 : w1.ownsRow base 33 1 v n vs) (hg : w1.grownBy w3 v.ownBlock) : RowS w3 u l := by
  rcases h with ⟨g, c, e, hs⟩ | h
  · refine .inl ⟨g, c, e, hs.keep (hg.block g hs.lt fun e => ?_)⟩
    obtain ⟨_, c2, hc⟩ := own_type h1 e.symm
    obtain ⟨sp, hs⟩ := hs
    rw [hc] at hs
    cases hs
  · exact .inr h
theorem tab_nil (w : World) : TabS (w.alloc (.cells #[.slice none 0 0] 33)) w.heap.size (.slice (some ⟨w.heap.size, 0, none⟩) 1 1) [[]] := by
  refine ⟨[.slice none 0 0], ⟨rfl, .inr ⟨w.heap.size, 1, #[.slice none 0 0], rfl, Nat.le_refl _, World.alloc_heap_new _ _, Nat.le_refl _, by decide, rfl, rfl⟩⟩, fun j hj => ?_⟩
  match j, hj with
  | 0, _ => exact ⟨_, rfl, .inr ⟨rfl, none, 0, rfl⟩⟩

set_option maxRecDepth 100000 in
set_option maxHeartbeats 4000000 in
theorem r3sets_c (w : World) (n : Nat) (hn : n ≤ 10) : Calls Tryz.prog 98 #[.int .i64 n] w fun e w' => ∃ v, e = .returned v ∧ TabS w' w.heap.size v (allS n) ∧ Below w.heap.size w w' := by
  have HAL := hid (allS_le hn)
  have HT0 := hid (tab_nil w)
  have HB0 := hid (show Below w.heap.size w (w.alloc (.cells #[.slice none 0 0] 33)) from (Below.refl _ _).alloc (Nat.le_refl _) _)
  have HG0 := hid (show grown n 0 = [[]] by simp [grown])
  have HGD := hid (fun (q : Nat) (h : (grown n q).length ≤ q) => grown_done h)
  obtain ⟨N, hN⟩ : ∃ N, N = (allS n).length := ⟨_, rfl⟩
  rw [← hN] at HAL
  have HN := hid hN
  have hn20 := HAL.out
  clear hN
  go_enter Tryz.func98, Tryz.ntmps98
  go_wp2
  go_loopw [3, 4] (fun v i wr => ∃ q : Nat, q ≤ N ∧ i = .int .i64 q ∧ TabS wr w.heap.size v (grown n q) ∧ Below w.heap.size w wr) (fun _ i _ => N - (intOf i).toNat)
  case atStart => exact ⟨0, Nat.zero_le _, rfl, by rw [HG0.out]; exact HT0.out, HB0.out⟩
  case round =>
    clear HT0 HB0 HG0
    obtain ⟨wo, hwo⟩ : ∃ wo, wo = wr := ⟨_, rfl⟩
    subst hwo
    obtain ⟨q, hq, rfl, ho, hbk⟩ := hrel
    obtain ⟨ln, hln⟩ : ∃ ln, ln = (grown n q).length := ⟨_, rfl⟩
    have hle : ln ≤ N := by rw [hln, HN.out]; exact (grown_prefix n q).length_le
    obtain ⟨la, lc, rfl⟩ : ∃ la lc, u3 = .slice la ln lc := by
      obtain ⟨_, ho1, _⟩ := ho
      obtain ⟨a', c', e⟩ := ownsRow_slice ho1
      exact ⟨a', c', by rw [e, hln]⟩
    by_cases hlt : q < ln
    · obtain ⟨g0, lcap, us, e0, hg0, hg0s, hcs, hrs, _, _⟩ := ho.at hln.symm hlt
      cases e0
      have hql : q < (grown n q).length := by rw [← hln]; exact hlt
      have hget := grown_get hql
      have hgd : (grown n q)[q]?.getD [] = (grown n q)[q] := by rw [List.getElem?_eq_getElem hql]; rfl
      rw [hgd] at hrs
      obtain ⟨s, hs⟩ : ∃ s, s = (grown n q)[q] := ⟨_, rfl⟩
      rw [← hs] at hget hrs
      have hsm : s ∈ allS n := List.mem_of_getElem? hget
      obtain ⟨hsl, hso⟩ := allS_ok hsm
      obtain ⟨hF0, hFn⟩ := nextFrom_le hso
      have hso' : ∀ y ∈ s, 0 ≤ y ∧ y < (n : Int) := fun y hy => hso.2 y hy
      obtain ⟨sa, sc, rfl⟩ := hrs.slice
      have hqN : q < N := by omega
      have HGT := hid (fun (t : Nat) (h : t < (n - nextFrom 0 s).toNat) => growT_succ (q := q) (s := s) h)
      have HGA := hid (fun (t : Nat) (h : (n - nextFrom 0 s).toNat ≤ t) => growT_all hget h)
      have HGL := hid (fun (t : Nat) => growT_le (t := t) hget)
      have HGZ := hid (growT_zero n q s (nextFrom 0 s))
      have hNA := fun (k : Nat) (h : s.length = k + 1) => nextFrom_at h
      obtain ⟨F, hF⟩ : ∃ F, F = nextFrom 0 s := ⟨_, rfl⟩
      rw [← hF] at hF0 hFn HGT HGA HGL HGZ
      obtain ⟨G, hG⟩ : ∃ G : Nat, (G : Int) = F := ⟨F.toNat, by omega⟩
      obtain ⟨sl, hsl'⟩ : ∃ sl, sl = s.length := ⟨_, rfl⟩
      have hii : IntsAt wo sa s := by
        obtain ⟨a', n', c', e', _, _, h⟩ := hrs.sl (by unfold maxLen; omega)
        cases e'; exact h
      have hF' : (sl = 0 ∧ G = 0) ∨ (∃ k : Nat, sl = k + 1 ∧ ∃ b off, ∃ y : Int, sa = some ⟨b, off, none⟩ ∧ wo.cell? ⟨b, off + k, none⟩ = some (.int .i64 y) ∧ y + 1 = (G : Int) ∧ 0 ≤ y ∧ y < 10) := by
        rcases Nat.eq_zero_or_pos sl with h | h
        · left
          have : s = [] := List.length_eq_zero_iff.1 (by omega)
          refine ⟨h, ?_⟩
          rw [this, nextFrom_nil] at hF
          omega
        · right
          refine ⟨sl - 1, by omega, ?_⟩
          have hk : s.length = (sl - 1) + 1 := by omega
          obtain ⟨b, off, e, _, hc⟩ := hii (sl - 1) (by omega)
          have h1 := hNA _ hk
          have h2 := hso' (s[sl - 1]?.getD 0) (by rw [List.getElem?_eq_getElem (by omega)]; exact List.getElem_mem _)
          exact ⟨b, off, _, e, hc, by omega, by omega, by omega⟩
      rw [← hsl'] at hrs hcs
      have HRS := hid hrs
      have HO := hid ho
      have HBK := hid hbk
      have HSL := hid hsl'
      have hG10 : G ≤ n := by omega
      have hqi : (q : Int) < (ln : Int) := by omega
      have hsl10 : sl ≤ 10 := by omega
      rw [← hG] at HGT HGA HGL HGZ
      clear hs hget hgd hsm hsl hso hso' hF0 hFn hNA hF hG hsl' hii hrs ho hbk hln hql hle
      go_upto_if 21 with fail
      go_cut [6] from 9 to 43 (fun v wx => v = .int .i64 G ∧ wx = wo)
      case first =>
        rcases hF' with ⟨rfl, rfl⟩ | ⟨k, rfl, b, off, y, rfl, hc, hy, hy0, hy1⟩
        · go_wp2
          go_meet
          case rel => exact ⟨rfl, rfl⟩
        · have hp : ((k + 1 : Nat) : Int) - 1 = (k : Int) := by omega
          have hy2 : IntKind.i64.wrap (y + 1) = (G : Int) := by rw [hy]; exact IntWalk.i64_in _ (by omega)
          go_wp2
          go_meet
          case rel => exact ⟨by first | rfl | (congr 1) | simp_all, rfl⟩
      case rest =>
        obtain ⟨rfl, rfl⟩ := hcut
        clear hF'
        go_wp2
        go_loopw [3, 7] (fun v i wr => ∃ t : Nat, G + t ≤ n ∧ i = .int .i64 ((G + t : Nat) : Int) ∧ TabS wr w.heap.size v (growT n q s G t) ∧ RowS wr (.slice sa sl sc) s ∧ Below w.heap.size w wr) (fun _ i _ => n - (intOf i).toNat)
        case atStart => exact ⟨0, by omega, by simp, by rw [HGZ.out]; exact HO.out, HRS.out, HBK.out⟩
        case round =>
          obtain ⟨t, ht, rfl, hT, hR, hbt⟩ := hrel
          by_cases hlt2 : G + t < n
          · have hgs := HGT.out t (by omega)
            have hgl := HGL.out t
            rw [show (G : Int) + (t : Int) = ((G + t : Nat) : Int) by omega] at hgs
            obtain ⟨J, hJ⟩ : ∃ J, J = G + t := ⟨_, rfl⟩
            rw [← hJ] at hgs ⊢
            have hJn : J < n := by omega
            have HJ := hid hJ
            obtain ⟨T, hTe⟩ : ∃ T, T = growT n q s G t := ⟨_, rfl⟩
            rw [← hTe] at hgs hgl hT
            rw [← HN.out] at hgl
            obtain ⟨tl, htl⟩ : ∃ tl, tl = T.length := ⟨_, rfl⟩
            rw [← htl] at hgl
            obtain ⟨va, vc, rfl⟩ : ∃ la lc, u3 = .slice la tl lc := by
              obtain ⟨_, ho1, _⟩ := hT
              obtain ⟨a', c', e⟩ := ownsRow_slice ho1
              exact ⟨a', c', by rw [e, htl]⟩
            have hii : IntsAt wr sa s := by
              obtain ⟨a', n', c', e', _, _, h⟩ := hR.sl (by rw [← HSL.out]; unfold maxLen; omega)
              cases e'; exact h
            have hwa : Below wr.heap.size wr (wr.alloc (.cells #[] 3)) := (Below.refl _ _).alloc (Nat.le_refl _) _
            have M0 := World.ownsRow_made (base := wr.heap.size) (e := 3) (size := 1) wr #[] 0 (Nat.le_refl _) (Nat.zero_le _) rfl
            have HM0 := hid M0
            have HI0 := hid (hii.below hwa)
            have HT := hid hT
            have HR := hid hR
            have HBT := hid hbt
            have HGS := hid hgs
            have HTL := hid htl
            have M1 := hid (show 0 + sl ≤ maxLen by unfold maxLen; omega)
            have M2 := hid (show (0 + sl) * 8 ≤ 140737488355328 by omega)
            have M4 := hid (show sl + 1 ≤ maxLen by unfold maxLen; omega)
            have M5 := hid (show (sl + 1) * 8 ≤ 140737488355328 by omega)
            have M6 := hid (show tl + 1 ≤ maxLen by unfold maxLen; omega)
            have M7 := hid (show (tl + 1) * 24 ≤ 140737488355328 by omega)
            have h1c : ∀ u ∈ s.map (Value.int .i64), u.oneCell' = true := fun u hu => by
              obtain ⟨x, _, rfl⟩ := List.mem_map.1 hu; rfl
            have H1C := hid h1c
            have HLs := hid (show (s.map (Value.int .i64)).length = sl * 1 by rw [List.length_map, Nat.mul_one]; exact HSL.out.symm)
            have HNone := hid (show sa = none → sl = 0 from fun e => by rw [HSL.out]; exact ints_none HI0.out e)
            have HA0 := hid hwa
            clear hwa M0 hii hT hR hbt hgs htl hJ hTe h1c
            go_wp2_with (at_builtin; refine wpList_app _ rfl (.tmp 36) (.tmp 37) 33 rfl wr.heap.size 3 (.int .i64 0) 1 8 Tryz.underlying33 li_int rfl Nat.one_pos (.slice (some ⟨wr.heap.size, 0, none⟩) 0 0) 0 [] rfl HM0.out sa sl sc (s.map (Value.int .i64)) rfl HLs.out HNone.out (ints_news HI0.out) H1C.out M1.out M2.out (le_alloc _ _) ?_; refine Stop.of ?_)
            refine Stop.go ?_
            intro a1 c1 w1 own1 g1
            have hb1 : Below wr.heap.size wr w1 := HA0.out.grown g1 (le_alloc _ _) fun k hk => (own_type HM0.out hk).1
            have hb1a : Below wr.heap.size wr (w1.alloc (.cells #[.int .i64 J] 3)) := hb1.alloc hb1.size _
            have HO1 := hid (own_below own1 ((Below.refl _ w1).alloc (Nat.le_refl _) (.cells #[.int .i64 J] 3)))
            have HB1 := hid hb1a
            have M8 := hid hb1a.size
            clear own1 g1 hb1 hb1a
            go_wp2_with (at_builtin; refine wpList_app _ rfl (.tmp 38) (.tmp 40) 33 rfl wr.heap.size 3 (.int .i64 0) 1 8 Tryz.underlying33 li_int rfl Nat.one_pos (.slice a1 sl c1) sl _ rfl HO1.out (some ⟨w1.heap.size, 0, none⟩) 1 1 [.int .i64 J] rfl rfl no_none (one_news w1 _ _) (li_one _) M4.out M5.out M8.out ?_; refine Stop.of ?_)
            refine Stop.go ?_
            intro a2 c2 w2 own2 g2
            have hrow : RowS w2 (.slice a2 (sl + 1) c2) (s ++ [((J : Nat) : Int)]) := by
              refine rowS_own (b0 := wr.heap.size) (n := sl + 1) ?_ (by rw [List.length_append, HSL.out]; rfl)
              rw [List.map_append]; exact own2
            have hb2 : Below wr.heap.size wr w2 := HB1.out.grown g2 M8.out fun k hk => (own_type HO1.out hk).1
            have hb2a : Below wr.heap.size wr (w2.alloc (.cells #[.slice a2 (sl + 1) c2] 33)) := hb2.alloc hb2.size _
            have hT2 := HT.out.below hb2a
            obtain ⟨vs, hv1, hv2⟩ := hT2
            have hv1' := hv1
            rw [← HTL.out] at hv1'
            have HV1 := hid hv1
            have HV1' := hid hv1'
            have HV2 := hid hv2
            have HRW := hid (hrow.below ((Below.refl _ w2).alloc (Nat.le_refl _) (.cells #[.slice a2 (sl + 1) c2] 33)))
            have HR2 := hid (HR.out.below hb2a)
            have HBF := hid (chain HBT.out hb2a)
            have M9 := hid HBF.out.size
            clear own2 g2 hrow hb2 hb2a hv1 hv1' hv2
            go_wp2_with (at_builtin; refine wpList_app _ rfl (.tmp 35) (.tmp 42) 22 rfl w.heap.size 33 (.slice none 0 0) 1 24 Tryz.underlying22 li_ints rfl Nat.one_pos (.slice va tl vc) tl vs rfl HV1'.out (some ⟨w2.heap.size, 0, none⟩) 1 1 [.slice a2 (sl + 1) c2] rfl rfl no_none (one_news w2 _ _) (slice_oneCell _ _ _) M6.out M7.out M9.out ?_; refine Stop.of ?_)
            refine Stop.go ?_
            intro a3 c3 w3 own3 g3
            have hT3 : TabS w3 w.heap.size (.slice a3 (tl + 1) c3) (T ++ [s ++ [((J : Nat) : Int)]]) := TabS.snoc HV1.out HV2.out (Below.refl _ _) HRW.out g3 (by rw [← HTL.out]; exact own3)
            rw [← HGS.out] at hT3
            have hR3 := HR2.out.beside HV1'.out g3
            have hB3 : Below w.heap.size w w3 := HBF.out.grown g3 M9.out fun k hk => (own_type HV1'.out hk).1
            have hJe : J + 1 = G + (t + 1) := by have := HJ.out; omega
            have HJE := hid hJe
            clear own3 g3 hJe
            go_wp2
            refine ⟨⟨t + 1, by have := HJ.out; omega, by rw [← HJE.out]; go_num, hT3, hR3, hB3⟩, by simp [intOf]; omega⟩
          · have hall := HGA.out t (by omega)
            rw [hall] at hT
            have HT := hid hT
            have HB := hid hbt
            clear hall hT hR hbt
            go_wp2
            exact ⟨⟨q + 1, by omega, by go_num, HT.out, HB.out⟩, by simp [intOf]; omega⟩
    · have hfin := HGD.out q (by omega)
      rw [hfin] at ho
      have HO := hid ho
      have HB := hid hbk
      clear hfin ho hbk hln
      go_wp2
      go_ret
      exact ⟨_, rfl, HO.out, HB.out⟩
end Go.Proofs.YtkmjeegnijohmaaGreat

namespace Go.Proofs.YtkmjeegnijohmaaGreat
open Go.RowKit
set_option linter.unusedVariables false

theorem info_fit : (Tryz.prog.info? 110).map (fun i => (i.zero, i.size, i.bytes)) = some (some (.agg #[.slice none 0 0, .slice none 0 0]), 2, 48) := by kernel_rfl
def FitsO (W : World) (base : Nat) (v : Value) (T : List FitT) : Prop :=
  ∃ xs, W.ownsRow base 110 2 v T.length xs ∧ ∀ j (hj : j < T.length), ∃ us ur, xs[j * 2]? = some us ∧ xs[j * 2 + 1]? = some ur ∧ ElemI 3 W base (fun _ => True) us T[j].1 ∧ ElemQ W base ur T[j].2
theorem FitsO.nil (W : World) (base : Nat) : FitsO W base (.slice none 0 0) [] := ⟨[], World.ownsRow_nil _ _ _ _, fun j hj => by simp at hj⟩
theorem FitsO.below {W W' : World} {base : Nat} {v : Value} {T : List FitT} (h : FitsO W base v T) (hb : Below W.heap.size W W') : FitsO W' base v T := by
  obtain ⟨xs, ho, he⟩ := h
  refine ⟨xs, own_below ho hb, fun j hj => ?_⟩
  obtain ⟨us, ur, h1, h2, h3, h4⟩ := he j hj
  exact ⟨us, ur, h1, h2, h3.keep (Keep.of_below hb : Keep (fun _ => True) _ _) (fun _ _ _ _ => trivial), h4.below hb⟩
theorem FitsO.slice {W : World} {base : Nat} {v : Value} {T : List FitT} (h : FitsO W base v T) : ∃ a c, v = .slice a T.length c := by
  obtain ⟨xs, ho, _⟩ := h; exact ownsRow_slice ho
def FitsAt (w : World) (a : Option Addr) (T : List FitT) : Prop :=
  ∀ j (hj : j < T.length), ∃ b off pa pn pc va vn vc, a = some ⟨b, off, none⟩ ∧ b < w.heap.size ∧ w.cell? ⟨b, off + j * 2, none⟩ = some (.slice pa pn pc) ∧ w.cell? ⟨b, off + j * 2 + 1, none⟩ = some (.slice va vn vc) ∧
    T[j].1.length = pn ∧ pn ≤ maxLen ∧ IntsAt w pa T[j].1 ∧ T[j].2.length = vn ∧ vn ≤ maxLen ∧ RatsAt w va T[j].2
theorem FitsAt.below {w w' : World} {a : Option Addr} {T : List FitT} (h : FitsAt w a T) (hb : Below w.heap.size w w') : FitsAt w' a T := by
  intro j hj
  obtain ⟨b, off, pa, pn, pc, va, vn, vc, e, hlt, h0, h1, h2, h3, h4, h5, h6, h7⟩ := h j hj
  exact ⟨b, off, pa, pn, pc, va, vn, vc, e, Nat.lt_of_lt_of_le hlt hb.size, (hb.cell (p := ⟨b, _, none⟩) hlt).trans h0, (hb.cell (p := ⟨b, _, none⟩) hlt).trans h1, h2, h3, h4.below hb, h5, h6, h7.below hb⟩
theorem FitsO.reads {W : World} {base : Nat} {v : Value} {T : List FitT} (h : FitsO W base v T) : ∃ a cap, v = .slice a T.length cap ∧ T.length ≤ maxLen ∧ FitsAt W a T := by
  obtain ⟨xs, ho, he⟩ := h
  rcases ho.2 with ⟨rfl, h0⟩ | ⟨g, cap, cur, rfl, hbg, hgg, hnc, hcm, hsz, htk⟩
  · exact ⟨none, 0, by rw [h0], by rw [h0]; decide, fun j hj => by omega⟩
  · refine ⟨_, cap, rfl, by omega, fun j hj => ?_⟩
    obtain ⟨us, ur, h1, h2, h3, h4⟩ := he j hj
    have hc : ∀ i, i < T.length * 2 → W.cell? ⟨g, i, none⟩ = xs[i]? := fun i hi =>
      World.ownsRow.cellAt (w := W) (base := base) (e := 110) (size := 2) (g := g) (n := T.length) (cap := cap) (xs := xs) ⟨ho.1, .inr ⟨g, cap, cur, rfl, hbg, hgg, hnc, hcm, hsz, htk⟩⟩ i hi
    obtain ⟨sa, sn, sc, rfl, _⟩ := id h3
    obtain ⟨ra, rn, rc, rfl, _⟩ := id h4
    obtain ⟨k1, k2, k3⟩ := h3.ints
    obtain ⟨m1, m2, m3⟩ := h4.rats
    exact ⟨g, 0, sa, sn, sc, ra, rn, rc, rfl, (Array.getElem?_eq_some_iff.1 hgg).1, by rw [Nat.zero_add, hc _ (by omega)]; exact h1, by rw [Nat.zero_add, hc _ (by omega)]; exact h2, k1, k2, k3, m1, m2, m3⟩
theorem FitsO.snoc {W w1 w2 : World} {base : Nat} {v v' us ur : Value} {T : List FitT} {t : FitT} {xs : List Value}
    (ho : W.ownsRow base 110 2 v T.length xs) (he : ∀ j (hj : j < T.length), ∃ us ur, xs[j * 2]? = some us ∧ xs[j * 2 + 1]? = some ur ∧ ElemI 3 W base (fun _ => True) us T[j].1 ∧ ElemQ W base ur T[j].2)
    (h1 : ElemI 3 W base (fun _ => True) us t.1) (h2 : ElemQ W base ur t.2)
    (hW1 : Below W.heap.size W w1) (hg : w1.grownBy w2 v.ownBlock) (ho' : w2.ownsRow base 110 2 v' (T.length + 1) (xs ++ [us, ur])) : FitsO w2 base v' (T ++ [t]) := by
  have hlen : xs.length = T.length * 2 := ho.1
  have hgb : ∀ (E : TypeId), E ≠ 110 → ∀ b, (b < base ∨ ∃ c f, W.heap[b]? = some (.cells c E f)) → b < W.heap.size → w2.heap[b]? = W.heap[b]? := by
    intro E hE b hty hb
    refine (hg.block b (Nat.lt_of_lt_of_le hb hW1.size) ?_).trans (hW1.block b hb)
    rcases ho.2 with ⟨rfl, _⟩ | ⟨g, cap, cur, rfl, hbg, hgg, _⟩
    · simp [Value.ownBlock]
    · intro e
      obtain rfl : b = g := by simpa [Value.ownBlock] using e
      rcases hty with h | ⟨c, f, h⟩
      · omega
      · rw [h] at hgg; cases hgg; exact hE rfl
  have hel : ∀ u l, ElemI 3 W base (fun _ => True) u l → ElemI 3 w2 base (fun _ => True) u l := by
    intro u l h
    refine h.keep (T := fun b => b < W.heap.size ∧ (b < base ∨ ∃ c f, W.heap[b]? = some (.cells c 3 f))) ⟨hg.os.trans hW1.os, hg.tape.trans hW1.tape, hg.output.trans hW1.output, Nat.le_trans hW1.size hg.size, fun k hk hT => hgb 3 (by decide) k hT.2 hk⟩ fun b _ hb hty => ⟨hb, hty⟩
  have heq : ∀ u l, ElemQ W base u l → ElemQ w2 base u l := by
    intro u l h
    refine h.keep (T := fun b => b < W.heap.size ∧ (b < base ∨ ∃ c f, W.heap[b]? = some (.cells c 101 f))) ⟨hg.os.trans hW1.os, hg.tape.trans hW1.tape, hg.output.trans hW1.output, Nat.le_trans hW1.size hg.size, fun k hk hT => hgb 101 (by decide) k hT.2 hk⟩ fun b hb hty => ⟨hb, hty⟩
  refine ⟨xs ++ [us, ur], by rw [List.length_append]; exact ho', fun j hj => ?_⟩
  by_cases e : j < T.length
  · obtain ⟨us', ur', k1, k2, k3, k4⟩ := he j e
    refine ⟨us', ur', by rw [List.getElem?_append_left (by omega)]; exact k1, by rw [List.getElem?_append_left (by omega)]; exact k2, ?_, ?_⟩
    · rw [List.getElem_append_left e]; exact hel _ _ k3
    · rw [List.getElem_append_left e]; exact heq _ _ k4
  · have : j = T.length := by simp at hj; omega
    subst this
    refine ⟨us, ur, by rw [List.getElem?_append_right (by omega), hlen]; simp, by rw [List.getElem?_append_right (by omega), hlen, show T.length * 2 + 1 - T.length * 2 = 1 by omega]; rfl, ?_, ?_⟩
    · simp only [List.getElem_append_right (Nat.le_refl _), Nat.sub_self, List.getElem_cons_zero]; exact hel _ _ h1
    · simp only [List.getElem_append_right (Nat.le_refl _), Nat.sub_self, List.getElem_cons_zero]; exact heq _ _ h2

def allF (M : Mask) (y : List Int) : List FitT := (allS (colsM M)).filterMap (fitF M y)
theorem filterMap_take {α β : Type} (f : α → Option β) (l : List α) {k : Nat} (hk : k < l.length) : (l.take (k + 1)).filterMap f = (l.take k).filterMap f ++ (f l[k]).toList := by
  rw [List.take_succ_eq_append_getElem hk, List.filterMap_append]
  first
    | done
    | (congr 1; first | done | (cases h : f l[k] <;> simp [h]))

set_option maxRecDepth 100000 in
set_option maxHeartbeats 2000000 in
theorem r4All_c (w : World) (a a2 : Option Addr) (n cap n2 cap2 : Nat) (M : Mask) (y : List Int) (hn : M.length = n) (hn2 : y.length = n2) (hm : n ≤ maxLen) (hm2 : n2 ≤ maxLen) (H : RowsAt w a M) (H2 : IntsAt w a2 y) (hM : okM M = true) :
    Calls Tryz.prog 121 #[.slice a n cap, .slice a2 n2 cap2] w fun e w' => ∃ v base, e = .returned v ∧ w.heap.size ≤ base ∧ FitsO w' base v (allF M y) ∧ Below w.heap.size w w' := by
  obtain ⟨_, h1, h6, hc1, hc10⟩ := okM_ok hM
  obtain ⟨b, off, ra, rc, rfl, hb, hc⟩ := rows_head H (by omega)
  have i0 : (0 : Int) < (n : Int) := by omega
  have HFT := hid (fun (X : World) (hX : Below w.heap.size w X) (sa : Option Addr) (sn sc : Nat) (S : List Int) (hs : S.length = sn) (hsm : sn ≤ 1000) (hi : IntsAt X sa S) => r4fit_c X (some ⟨b, off, none⟩) a2 sa n cap n2 cap2 sn sc M y S hn hn2 hs hm hm2 hsm (H.below hX) (H2.below hX) hi)
  have HST := hid (r3sets_c w (colsM M) hc10)
  have HSL := hid (fun (s : List Int) (hs : s ∈ allS (colsM M)) => (allS_ok hs).1)
  have HSC := hid (allS_le hc10)
  have HAF := hid (show allF M y = (allS (colsM M)).filterMap (fitF M y) from rfl)
  obtain ⟨R, hR⟩ : ∃ R, R = allF M y := ⟨_, rfl⟩
  obtain ⟨SS, hSS⟩ : ∃ SS, SS = allS (colsM M) := ⟨_, rfl⟩
  obtain ⟨W, hW⟩ : ∃ W, W = colsM M := ⟨_, rfl⟩
  rw [← hSS] at HST HSL HSC HAF
  rw [← hR] at HAF ⊢
  rw [← hW] at HST HSL hc hc10
  clear hn hn2 hm hm2 H H2 hM h1 h6 hc1 hR hSS hW
  go_enter Tryz.func121, Tryz.ntmps121
  go_wp2_with (go_at_call 98; refine HST.out.mono ?_; rintro e w1 ⟨v1, rfl, hT, hb1⟩; refine Stop.of ?_)
  refine Stop.go ?_
  obtain ⟨vs, hvo, _⟩ := id hT
  obtain ⟨ta, tc, rfl⟩ := ownsRow_slice hvo
  have hTR := hT.rows rfl (fun r hr => by have := HSL.out r hr; unfold maxLen; omega)
  have HTR := hid hTR
  have HB1 := hid hb1
  have hsc := HSC.out
  clear hT hvo hTR hb1 hc hb HST
  go_wp2
  go_loopw [5, 16] (fun v i wr => ∃ k : Nat, k ≤ SS.length ∧ i = .int .i64 k ∧ FitsO wr w1.heap.size v ((SS.take k).filterMap (fitF M y)) ∧ Below w1.heap.size w1 wr) (fun _ i _ => SS.length - (intOf i).toNat)
  case atStart => exact ⟨0, Nat.zero_le _, rfl, FitsO.nil _ _, Below.refl _ _⟩
  case round =>
    obtain ⟨k, hk, rfl, ho, hbk⟩ := hrel
    by_cases hlt : k < SS.length
    · obtain ⟨sb, so, sa, sn, sc, rfl, hsb, hsc', hsn, hsm, hsi⟩ := (HTR.out.below hbk) k hlt
      have hft := filterMap_take (fitF M y) SS hlt
      have hsn10 : sn ≤ 1000 := by have := HSL.out _ (List.getElem_mem hlt); omega
      obtain ⟨S, hS⟩ : ∃ S, S = SS[k]'hlt := ⟨_, rfl⟩
      rw [← hS] at hsn hsi hft
      have hfit := HFT.out wr (chain HB1.out hbk) sa sn sc S hsn hsn10 hsi
      have hcnt : ((SS.take k).filterMap (fitF M y)).length ≤ 20000 := by
        have h1 := List.length_filterMap_le (fitF M y) (SS.take k)
        rw [List.length_take] at h1; omega
      obtain ⟨C, hC⟩ : ∃ C, C = (SS.take k).filterMap (fitF M y) := ⟨_, rfl⟩
      rw [← hC] at ho hft hcnt
      have HFI := hid hfit
      have HFT2 := hid hft
      have HO := hid ho
      have HBK := hid hbk
      have HCN := hid hcnt
      have hki : (k : Int) < (SS.length : Int) := by omega
      have hki0 : (0 : Int) ≤ (k : Int) := by omega
      clear hfit hft ho hbk hcnt hS hC hsn hsm hsi
      go_wp2_with (go_at_call 132; refine HFI.out.mono ?_; rintro e w2 ⟨⟨hno, rfl⟩ | ⟨f, us, ur, hf, rfl, hu, hr⟩, hb2⟩ <;> refine Stop.of ?_)
      · refine Stop.go ?_
        have hft2 := HFT2.out
        rw [hno] at hft2
        simp only [Option.toList_none, List.append_nil] at hft2
        have HF2 := hid hft2
        have hba : ∀ o : Obj, Below wr.heap.size wr (w2.alloc o) := fun o => hb2.alloc hb2.size o
        have HBA := hid hba
        clear hno hft2 hba hb2
        go_wp2
        refine ⟨⟨k + 1, by omega, by go_num, ?_, chain HBK.out (HBA.out _)⟩, by simp [intOf]; omega⟩
        rw [HF2.out]; exact HO.out.below (HBA.out _)
      · refine Stop.go ?_
        have hft2 := HFT2.out
        rw [hf] at hft2
        simp only [Option.toList_some] at hft2
        obtain ⟨pa, pn, pc, rfl, _⟩ := id (hu 0)
        obtain ⟨qa, qn, qc, rfl, _⟩ := id (hr 0)
        have hba : Below w2.heap.size w2 (w2.alloc (.cells #[.slice pa pn pc, .slice qa qn qc] 110)) := (Below.refl _ _).alloc (Nat.le_refl _) _
        have hFO := HO.out.below (chain hb2 hba)
        obtain ⟨xs, hoo, hoe⟩ := hFO
        obtain ⟨va, vc, rfl⟩ := ownsRow_slice hoo
        have hEI := (hu w1.heap.size).keep (Keep.of_below hba : Keep (fun _ => True) _ _) (fun _ _ _ _ => trivial)
        have hEQ := (hr w1.heap.size).below hba
        have HF2 := hid hft2
        have HOO := hid hoo
        have HOE := hid hoe
        have HEI := hid hEI
        have HEQ := hid hEQ
        have hBW := chain HBK.out (chain hb2 hba)
        have HBW := hid hBW
        have hnw := news2 (w2.alloc (.cells #[.slice pa pn pc, .slice qa qn qc] 110)) (.slice pa pn pc) (.slice qa qn qc) 110
        rw [World.size_alloc] at hnw
        have HNW := hid hnw
        have M1 := hid (show C.length + 1 ≤ maxLen by have := HCN.out; unfold maxLen; omega)
        have M2 := hid (show (C.length + 1) * 48 ≤ 140737488355328 by have := HCN.out; omega)
        have M3 := hid (Nat.le_trans hBW.size (le_alloc _ (.cells #[.slice pa pn pc, .slice qa qn qc] 110)))
        have HONE := hid (show ∀ u ∈ [Value.slice pa pn pc, .slice qa qn qc], u.oneCell' = true from fun u hu => by simp at hu; rcases hu with rfl | rfl <;> rfl)
        clear hf hft2 hba hoo hoe hEI hEQ hBW hnw hu hr hb2
        go_wp2_with (at_builtin; refine wpList_app _ rfl (.tmp 28) (.tmp 30) 111 rfl w1.heap.size 110 (.agg #[.slice none 0 0, .slice none 0 0]) 2 48 Tryz.underlying111 info_fit rfl (by decide) (.slice va C.length vc) C.length xs rfl (HOO.out.alloc _) (some ⟨w2.heap.size + 1, 0, none⟩) 1 1 [.slice pa pn pc, .slice qa qn qc] rfl rfl no_none HNW.out HONE.out M1.out M2.out M3.out ?_; intro a9 c9 w9 own9 g9; refine Stop.of ?_)
        refine Stop.go ?_
        have hsn := FitsO.snoc (t := f) HOO.out HOE.out HEI.out HEQ.out ((Below.refl _ _).alloc (Nat.le_refl _) _) g9 own9
        have hB9 : Below w1.heap.size w1 w9 := (HBW.out.alloc HBW.out.size _).grown g9 M3.out (fun g hg => (HOO.out.lt g hg).1)
        rw [← HF2.out] at hsn
        have HSN := hid hsn
        have HB9 := hid hB9
        clear hsn hB9 own9 g9
        go_wp2
        exact ⟨⟨k + 1, by omega, by go_num, HSN.out, HB9.out⟩, by simp [intOf]; omega⟩
    · obtain rfl : k = SS.length := by omega
      rw [List.take_of_length_le (Nat.le_refl _), ← HAF.out] at ho
      have HO := hid ho
      have HBK := hid hbk
      clear ho hbk
      go_wp2
      go_ret
      exact ⟨_, w1.heap.size, rfl, HB1.out.size, HO.out, chain HB1.out HBK.out⟩
end Go.Proofs.YtkmjeegnijohmaaGreat

namespace Go.Proofs.YtkmjeegnijohmaaGreat
open Go.RowKit
set_option linter.unusedVariables false

theorem elemI_old {W X : World} {a : Option Addr} {n c : Nat} {l : List Int} (h : IntsAt W a l) (hn : l.length = n) (hm : n ≤ maxLen) (hb : Below W.heap.size W X) : ElemI 3 X W.heap.size (fun _ => True) (.slice a n c) l :=
  ⟨a, n, c, rfl, hn, hm, fun j hj => by
    obtain ⟨b, o, e, hlt, hc⟩ := h j hj
    exact ⟨b, o, e, trivial, Nat.lt_of_lt_of_le hlt hb.size, .inl hlt, (hb.cell (p := ⟨b, _, none⟩) hlt).trans hc⟩⟩
theorem elemQ_old {W X : World} {a : Option Addr} {n c : Nat} {l : List Rt} (h : RatsAt W a l) (hn : l.length = n) (hm : n ≤ maxLen) (hb : Below W.heap.size W X) : ElemQ X W.heap.size (.slice a n c) l :=
  ⟨a, n, c, rfl, hn, hm, fun j hj => by
    obtain ⟨b, o, e, hlt, h0, h1⟩ := h j hj
    exact ⟨b, o, e, Nat.lt_of_lt_of_le hlt hb.size, .inl hlt, (hb.cell (p := ⟨b, _, none⟩) hlt).trans h0, (hb.cell (p := ⟨b, _, none⟩) hlt).trans h1⟩⟩

def fitsR (M : Mask) (y : List Int) (k : Int) : List FitT := (allF M y).filter (fun f => decide ((f.1.length : Int) ≤ k))
theorem filter_take {α : Type} (f : α → Bool) (l : List α) {k : Nat} (hk : k < l.length) : (l.take (k + 1)).filter f = (l.take k).filter f ++ (if f l[k] = true then [l[k]] else []) := by
  rw [List.take_succ_eq_append_getElem hk, List.filter_append]
  congr 1
  rw [List.filter_cons]
  rfl

theorem r4within_c (n lo hi : Int) (w : World) : Calls Tryz.prog 120 #[.int .i64 n, .int .i64 lo, .int .i64 hi] w fun e w' => e = .returned (.bool (inB n lo hi)) ∧ w = w' := by
  by_cases h1 : lo ≤ n <;> by_cases h2 : n ≤ hi
  all_goals
    go_enter Tryz.func120, Tryz.ntmps120
    go_wp2
    go_ret
    exact ⟨ret_bool (by simp [inB, h1, h2]), rfl⟩

theorem allF_le (M : Mask) (y : List Int) (h : colsM M ≤ 10) : (allF M y).length ≤ 20000 :=
  Nat.le_trans (List.length_filterMap_le _ _) (allS_le h)

set_option maxRecDepth 100000 in
set_option maxHeartbeats 2000000 in
theorem r4Fits_c (w : World) (a a2 : Option Addr) (n cap n2 cap2 : Nat) (M : Mask) (y : List Int) (k : Int) (hn : M.length = n) (hn2 : y.length = n2) (hm : n ≤ maxLen) (hm2 : n2 ≤ maxLen) (H : RowsAt w a M) (H2 : IntsAt w a2 y) :
    Calls Tryz.prog 106 #[.slice a n cap, .slice a2 n2 cap2, .int .i64 k] w fun e w' => Below w.heap.size w w' ∧ ((countE M y k ≠ 0 ∧ e = .returned (.tuple #[.slice none 0 0, .int .i64 (countE M y k)])) ∨
      (countE M y k = 0 ∧ ∃ v base, e = .returned (.tuple #[v, .int .i64 0]) ∧ w.heap.size ≤ base ∧ FitsO w' base v (fitsR M y k))) := by
  have HRD := hid (r3Read_c w a a2 n cap n2 cap2 M y hn hn2 hm hm2 H H2)
  rw [rd_check] at HRD
  have HW := hid (fun X => r4within_c k 0 10 X)
  by_cases h0 : checkE M y [] = 0
  rotate_left
  · have he : countE M y k = checkE M y [] := by unfold countE; rw [if_neg h0]
    rw [he]
    obtain ⟨E, hE⟩ : ∃ E, E = checkE M y [] := ⟨_, rfl⟩
    rw [← hE] at HRD h0 ⊢
    have hne : (E != 0) = true := by simpa using h0
    have H0 := hid h0
    clear hn hn2 hm hm2 H H2 he hE h0
    go_enter Tryz.func106, Tryz.ntmps106
    go_wp2_with (go_at_call 119; refine HRD.out.mono ?_; rintro e w1 ⟨rfl, rfl⟩)
    go_ret2
    exact ⟨Below.refl _ _, .inl ⟨H0.out, rfl⟩⟩
  · obtain ⟨hM, _, _, _⟩ := check_ok h0
    obtain ⟨_, _, _, _, hc10⟩ := okM_ok hM
    cases hI : inB k 0 10
    · have he : countE M y k = 7 := by unfold countE; rw [if_pos h0, hI]; rfl
      rw [h0] at HRD
      rw [hI] at HW
      rw [he]
      clear hn hn2 hm hm2 H H2 he h0 hI
      go_enter Tryz.func106, Tryz.ntmps106
      go_wp2_with first
        | (go_at_call 119; refine HRD.out.mono ?_; rintro e w1 ⟨rfl, rfl⟩)
        | (go_at_call 120; refine (HW.out _).mono ?_; rintro e w2 ⟨rfl, rfl⟩)
      go_ret2
      exact ⟨Below.refl _ _, .inl ⟨by decide, rfl⟩⟩
    · have he : countE M y k = 0 := by unfold countE; rw [if_pos h0, hI]; rfl
      have HAL := hid (r4All_c w a a2 n cap n2 cap2 M y hn hn2 hm hm2 H H2 hM)
      have HLE := hid (allF_le M y hc10)
      have HFR := hid (show fitsR M y k = (allF M y).filter (fun f => decide ((f.1.length : Int) ≤ k)) from rfl)
      rw [h0] at HRD
      rw [hI] at HW
      rw [he]
      obtain ⟨T, hT⟩ : ∃ T, T = allF M y := ⟨_, rfl⟩
      obtain ⟨R, hR⟩ : ∃ R, R = fitsR M y k := ⟨_, rfl⟩
      rw [← hT] at HAL HLE HFR
      rw [← hR] at HFR ⊢
      have hle := HLE.out
      clear hn hn2 hm hm2 H H2 he h0 hI hM hT hR hc10
      go_enter Tryz.func106, Tryz.ntmps106
      go_wp2_with first
        | (go_at_call 119; refine HRD.out.mono ?_; rintro e w1 ⟨rfl, rfl⟩)
        | (go_at_call 120; refine (HW.out _).mono ?_; rintro e w2 ⟨rfl, rfl⟩)
        | (go_at_call 121; refine HAL.out.mono ?_; rintro e w1 ⟨v1, base1, rfl, _, ho1, hb1⟩; refine Stop.of ?_)
      refine Stop.go ?_
      obtain ⟨ta, tc, rfl, _, htf⟩ := ho1.reads
      have HTF := hid htf
      have HB1 := hid hb1
      clear ho1 htf hb1 HAL HRD HW
      go_wp2
      go_loopw [9, 25] (fun v i wr => ∃ q : Nat, q ≤ T.length ∧ i = .int .i64 q ∧ FitsO wr w1.heap.size v ((T.take q).filter (fun f => decide ((f.1.length : Int) ≤ k))) ∧ Below w1.heap.size w1 wr) (fun _ i _ => T.length - (intOf i).toNat)
      case atStart => exact ⟨0, Nat.zero_le _, rfl, FitsO.nil _ _, Below.refl _ _⟩
      case round =>
        obtain ⟨q, hq, rfl, ho, hbk⟩ := hrel
        by_cases hlt : q < T.length
        · obtain ⟨b, off, pa, pn, pc, va, vn, vc, rfl, hbs, hc0, hc1, hpn, hpm, hpi, hvn, hvm, hvi⟩ := HTF.out q hlt
          have g0 := (hbk.cell (p := ⟨b, off + q * 2, none⟩) hbs).trans hc0
          have g1 := (hbk.cell (p := ⟨b, off + q * 2 + 1, none⟩) hbs).trans hc1
          have hft := filter_take (fun f : FitT => decide ((f.1.length : Int) ≤ k)) T hlt
          have hcnt : ((T.take q).filter (fun f => decide ((f.1.length : Int) ≤ k))).length ≤ 20000 := by
            have h1 := List.length_filter_le (fun f : FitT => decide ((f.1.length : Int) ≤ k)) (T.take q)
            rw [List.length_take] at h1; omega
          obtain ⟨f, hf⟩ : ∃ f, f = T[q]'hlt := ⟨_, rfl⟩
          rw [← hf] at hpn hpi hvn hvi hft
          rw [hpn] at hft
          obtain ⟨C, hC⟩ : ∃ C, C = (T.take q).filter (fun f => decide ((f.1.length : Int) ≤ k)) := ⟨_, rfl⟩
          rw [← hC] at ho hft hcnt
          have HFT2 := hid hft
          have HCN := hid hcnt
          have HBK := hid hbk
          have HO := hid ho
          have HPI := hid hpi
          have HVI := hid hvi
          have HPN := hid hpn
          have HVN := hid hvn
          have hki : (q : Int) < (T.length : Int) := by omega
          have hki0 : (0 : Int) ≤ (q : Int) := by omega
          clear hft hcnt hf hC hpi hvi hpn hvn hbk ho hc0 hc1
          by_cases hle2 : (pn : Int) ≤ k
          · have hft2 := HFT2.out
            rw [if_pos (by simpa using hle2)] at hft2
            have HF2 := hid hft2
            have hba : Below wr.heap.size wr (wr.alloc (.cells #[.slice pa pn pc, .slice va vn vc] 110)) := (Below.refl _ _).alloc (Nat.le_refl _) _
            have hFO := HO.out.below hba
            obtain ⟨xs, hoo, hoe⟩ := hFO
            obtain ⟨oa, oc, rfl⟩ := ownsRow_slice hoo
            have hBW := chain HBK.out hba
            have HEI := hid (elemI_old (c := pc) HPI.out HPN.out hpm hBW)
            have HEQ := hid (elemQ_old (c := vc) HVI.out HVN.out hvm hBW)
            have HOO := hid hoo
            have HOE := hid hoe
            have HBW := hid hBW
            have hnw := news2 (wr.alloc (.cells #[.slice pa pn pc, .slice va vn vc] 110)) (.slice pa pn pc) (.slice va vn vc) 110
            rw [World.size_alloc] at hnw
            have HNW := hid hnw
            have M1 := hid (show C.length + 1 ≤ maxLen by have := HCN.out; unfold maxLen; omega)
            have M2 := hid (show (C.length + 1) * 48 ≤ 140737488355328 by have := HCN.out; omega)
            have M3 := hid (Nat.le_trans hBW.size (le_alloc _ (.cells #[.slice pa pn pc, .slice va vn vc] 110)))
            have HONE := hid (show ∀ u ∈ [Value.slice pa pn pc, .slice va vn vc], u.oneCell' = true from fun u hu => by simp at hu; rcases hu with rfl | rfl <;> rfl)
            clear hft2 hba hoo hoe hBW hnw
            go_wp2_with (at_builtin; refine wpList_app _ rfl (.tmp 34) (.tmp 36) 111 rfl w1.heap.size 110 (.agg #[.slice none 0 0, .slice none 0 0]) 2 48 Tryz.underlying111 info_fit rfl (by decide) (.slice oa C.length oc) C.length xs rfl (HOO.out.alloc _) (some ⟨wr.heap.size + 1, 0, none⟩) 1 1 [.slice pa pn pc, .slice va vn vc] rfl rfl no_none HNW.out HONE.out M1.out M2.out M3.out ?_; intro a9 c9 w9 own9 g9; refine Stop.of ?_)
            refine Stop.go ?_
            have hsn := FitsO.snoc (t := f) HOO.out HOE.out HEI.out HEQ.out ((Below.refl _ _).alloc (Nat.le_refl _) _) g9 own9
            have hB9 : Below w1.heap.size w1 w9 := (HBW.out.alloc HBW.out.size _).grown g9 M3.out (fun g hg => (HOO.out.lt g hg).1)
            rw [← HF2.out] at hsn
            have HSN := hid hsn
            have HB9 := hid hB9
            clear hsn hB9 own9 g9
            go_wp2
            exact ⟨⟨q + 1, by omega, by go_num, HSN.out, HB9.out⟩, by simp [intOf]; omega⟩
          · have hft2 := HFT2.out
            rw [if_neg (by simpa using hle2), List.append_nil] at hft2
            have HF2 := hid hft2
            have hba : ∀ o : Obj, Below wr.heap.size wr (wr.alloc o) := fun o => (Below.refl _ _).alloc (Nat.le_refl _) _
            have HBA := hid hba
            clear hft2 hba
            go_wp2
            refine ⟨⟨q + 1, by omega, by go_num, ?_, chain HBK.out (HBA.out _)⟩, by simp [intOf]; omega⟩
            rw [HF2.out]; exact HO.out.below (HBA.out _)
        · obtain rfl : q = T.length := by omega
          rw [List.take_of_length_le (Nat.le_refl _), ← HFR.out] at ho
          have HO := hid ho
          have HBK := hid hbk
          clear ho hbk
          go_wp2
          go_ret2
          exact ⟨chain HB1.out HBK.out, .inr ⟨trivial, _, w1.heap.size, rfl, HB1.out.size, HO.out⟩⟩
end Go.Proofs.YtkmjeegnijohmaaGreat
