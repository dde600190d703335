/- Walks and plain laws for StreamSentRow, part 10. -/
import Derived.Test.YtkmjeegnijohmaaGreatPkStreamSentRow9
namespace Go.Proofs.YtkmjeegnijohmaaGreat
open Go.RowKit
set_option linter.unusedVariables false

theorem AnyT.next2 {P : Program} {md : Region.Mode} {ops : Array Oper} {Q : Exit → Act → World → Prop} {T : Nat → World → Prop} {i j : Nat} {fuel : Nat} {listed : Array Bool} {a : Act} {w : World} (hr : Region.ready md ops listed = [i, j])
    (h1 : wpOp P ops Q i (fun a' w' => T i w' ∧ AnyT P md ops Q T fuel (listed.setIfInBounds i true) a' w') a w)
    (h2 : wpOp P ops Q j (fun a' w' => T j w' ∧ AnyT P md ops Q T fuel (listed.setIfInBounds j true) a' w') a w) : AnyT P md ops Q T (fuel + 1) listed a w :=
  ⟨fun h0 => (by rw [hr] at h0; cases h0), fun k hk => by
    rw [hr] at hk
    have : k = i ∨ k = j := by simpa using hk
    rcases this with rfl | rfl
    · exact h1
    · exact h2⟩

theorem news2 (w : World) (x0 x1 : Value) (T : TypeId) : ∀ ad, (some ⟨w.heap.size, 0, none⟩ : Option Addr) = some ad → ∀ j u, [x0, x1][j]? = some u → (w.alloc (.cells #[x0, x1] T)).cell? (ad.add j) = some u := by
  intro ad e j u hu
  cases e
  match j, hu with
  | 0, hu => rw [Addr.add_lit, World.cell?_alloc_at _ _ _ _ rfl]; simpa using hu
  | 1, hu => rw [Addr.add_lit, World.cell?_alloc_at _ _ _ _ rfl]; simpa using hu
theorem frm_one (k : Bool) (a : Option Addr) (n c : Nat) : ∀ u ∈ [Value.bool k, .slice a n c], u.oneCell' = true := by
  intro u hu; simp at hu; rcases hu with rfl | rfl <;> rfl

theorem ElemI.free {E : TypeId} {W : World} {base : Nat} {S : Nat → Prop} {v : Value} {l : List Int} (h : ElemI E W base S v l) : ElemI E W base (fun _ => True) v l := by
  obtain ⟨a, n, cap, e, hn, hm, hel⟩ := h
  refine ⟨a, n, cap, e, hn, hm, fun i hi => ?_⟩
  obtain ⟨b, off, e, _, rest⟩ := hel i hi
  exact ⟨b, off, e, trivial, rest⟩
theorem shownE_change {M : Mask} {y x : List Int} (hM : okM M = true) (h : (changeF y x).length = colsM M ∧ ∀ v ∈ changeF y x, -2000 ≤ v ∧ v ≤ 2000) : shownE M (changeF y x) = 0 := by
  unfold shownE
  rw [if_pos hM, if_pos h.1, if_pos]
  rw [List.all_eq_true]
  intro v hv
  have := h.2 v hv
  unfold inB
  simp only [Bool.and_eq_true, decide_eq_true_eq]
  omega
theorem set2_block {w : World} {b : Nat} {a0 a1 v0 v1 : Value} {T : TypeId} (h : w.heap[b]? = some (.cells #[a0, a1] T (0, 0))) : ((w.setCell ⟨b, 0, none⟩ v0).setCell ⟨b, 1, none⟩ v1).heap[b]? = some (.cells #[v0, v1] T (0, 0)) := by
  rw [cells_set (cells_set h 0 v0) 1 v1]; rfl
theorem box2_facts {w : World} {b : Nat} {a0 a1 : Value} {T : TypeId} (h : w.heap[b]? = some (.cells #[a0, a1] T (0, 0))) :
    w.cell? ⟨b, 0, none⟩ = some a0 ∧ w.cell? ⟨b, 1, none⟩ = some a1 ∧ w.frozen? ⟨b, 0, none⟩ = false ∧ w.frozen? ⟨b, 1, none⟩ = false ∧ b < w.heap.size :=
  ⟨by simp [World.cell?, h], by simp [World.cell?, h], by simp [World.frozen?, h], by simp [World.frozen?, h], (Array.getElem?_eq_some_iff.1 h).1⟩
theorem own_set {w : World} {base : Nat} {T : TypeId} {k n : Nat} {v : Value} {xs : List Value} (h : w.ownsRow base T k v n xs) {b o : Nat} (u : Value) (hne : ∀ g, v.ownBlock = some g → g ≠ b) : (w.setCell ⟨b, o, none⟩ u).ownsRow base T k v n xs := by
  refine ⟨h.1, ?_⟩
  rcases h.2 with hn | ⟨g, cap, cur, rfl, hbg, hgg, rest⟩
  · exact .inl hn
  · exact .inr ⟨g, cap, cur, rfl, hbg, (Below.heap_setCell _ _ _ _ (hne g rfl)).trans hgg, rest⟩
theorem own_mono {w : World} {base base' : Nat} {T : TypeId} {k n : Nat} {v : Value} {xs : List Value} (h : w.ownsRow base T k v n xs) (hb : base' ≤ base) : w.ownsRow base' T k v n xs :=
  ⟨h.1, h.2.imp id fun ⟨g, cap, cur, h1, h2, h3⟩ => ⟨g, cap, cur, h1, Nat.le_trans hb h2, h3⟩⟩
def EncR (k E : Nat) (KB : Bool) (xa : Option Addr) (xn xc : Nat) (x : List Int) (wr : World) (fr fr' : Act) (w' : World) : Prop :=
  ∃ ca cc fb, fr' = ((((((((fr.put (some 18) (.int .i64 k)).put (some 19) (.int .i64 E)).put (some 20) (.int .i64 ((k : Int) % (E : Int)))).put (some 21) (.bool KB)).put (some 22) (.slice xa xn xc)).put (some 23) (.slice ca xn cc)).put (some 24) (.agg #[.bool KB, .slice ca xn cc])).put (some 10) (.pointer (some ⟨fb, 0, none⟩))) ∧
    w'.heap[fb]? = some (.cells #[.bool KB, .slice ca xn cc] 47 (0, 0)) ∧ wr.heap.size ≤ fb ∧ w'.ownsRow wr.heap.size 3 1 (.slice ca xn cc) xn (x.map (Value.int .i64)) ∧ Below wr.heap.size wr w'

set_option maxRecDepth 100000 in
set_option maxHeartbeats 4000000 in
theorem encode_c (w : World) (a a2 : Option Addr) (n cap n2 cap2 : Nat) (M : Mask) (p : List (List Int)) (E : Nat) (hn : M.length = n) (hn2 : p.length = n2) (hm : n ≤ maxLen) (H : RowsAt w a M) (H2 : RowsAt w a2 p) (hP : picsB M p = true) (hE : 1 ≤ E) (hE2 : E ≤ 60) :
    Calls Tryz.prog 51 #[.slice a n cap, .slice a2 n2 cap2, .int .i64 E] w fun e w' => ∃ v, e = .returned v ∧ FrmsO w' w.heap.size (fun _ => True) v (encF M p E) ∧ Below w.heap.size w w' := by
  obtain ⟨hM, hp1, hp60, hpp⟩ := picsB_ok hP
  have HN2 := hid hn2
  have HH2 := hid H2
  have HCT := hid (fun (k : Nat) (hk : k < p.length) => encF_take M p E hk)
  have HCL := hid (show (encF M p E).length = n2 by rw [encF_len, hn2])
  have HEA := hid (show ∀ k, encAt M p E k = if k % E = 0 then (true, p[k]?.getD []) else (false, readV M (changeF (p[k - 1]?.getD []) (p[k]?.getD []))) from fun k => rfl)
  have HPG := hid (fun (i : Nat) (hi : i < p.length) => pic_bnd (picsB_get hP hi))
  have HCB := hid (fun (i : Nat) (hi : i < p.length) => change_bnd (picsB_get hP (i := i - 1) (by omega)) (picsB_get hP hi))
  have HRD := hid (fun (X : World) (hX : Below w.heap.size w X) (va : Option Addr) (vn vc : Nat) (x : List Int) (hv : x.length = vn) (hvm : vn ≤ maxLen) (hI : IntsAt X va x) (hs : shownE M x = 0) => maskRead_c X a n cap M hn hm (H.below hX) va vn vc x hv hvm hI hs)
  obtain ⟨_, _, _, hc1, hc10⟩ := okM_ok hM
  obtain ⟨C, hC⟩ : ∃ C, C = encF M p E := ⟨_, rfl⟩
  rw [← hC] at HCT HCL ⊢
  have HM := hid hM
  have hn60 : n2 ≤ 60 := by omega
  clear hn hn2 hm H H2 hC hP hpp hM hp1 hp60
  go_enter Tryz.func51, Tryz.ntmps51
  go_wp2
  go_loopw [7, 13] (fun v i wr => ∃ k : Nat, k ≤ n2 ∧ i = .int .i64 k ∧ FrmsO wr w.heap.size (fun _ => True) v (C.take k) ∧ Below w.heap.size w wr) (fun _ i _ => n2 - (intOf i).toNat)
  case atStart => exact ⟨0, Nat.zero_le _, rfl, FrmsO.nil _ _ _, Below.refl _ _⟩
  case round =>
    obtain ⟨k, hk, rfl, ho, hbk⟩ := hrel
    by_cases hlt : k < n2
    · have hkl : k < p.length := by rw [HN2.out]; exact hlt
      obtain ⟨b, off, xa, xn, xc, rfl, hbs, hc, hxn, hxm, hxi⟩ := (HH2.out.below hbk) k hkl
      have hxv : p[k]?.getD [] = p[k] := by rw [List.getElem?_eq_getElem hkl]; rfl
      have htk := HCT.out k hkl
      rw [HEA.out k, hxv] at htk
      obtain ⟨x, hx⟩ : ∃ x, x = p[k] := ⟨_, rfl⟩
      have hpg := HPG.out k hkl
      rw [hxv] at hpg
      rw [← hx] at hxn hxi htk hpg
      have HCLN := hid (fun (X : World) (hX : Below wr.heap.size wr X) => clone_c X xa xn xc x hxn (by have := hpg.1; omega) (hxi.below hX))
      obtain ⟨KB, hKB⟩ : ∃ KB, KB = ((k : Int) % (E : Int) == 0) := ⟨_, rfl⟩
      have hkb := hKB.symm
      have hki : (k : Int) < (n2 : Int) := by omega
      have hki0 : (0 : Int) ≤ (k : Int) := by omega
      have hE1 : (1 : Int) ≤ (E : Int) := by omega
      have HE0 := hid (show ¬ E = 0 by omega)
      have HTM := hid (show (k : Int).tmod (E : Int) = (k : Int) % (E : Int) from Int.tmod_eq_emod_of_nonneg (by omega))
      have hkm : (k : Int) ≤ 9223372036854775807 := by omega
      have hem : (E : Int) ≤ 9223372036854775807 := by omega
      have HTK := hid htk
      have HXN := hid hxn
      have HXI := hid hxi
      have HPK := hid hpg
      have HX := hid hx
      have HO := hid ho
      have HBK := hid hbk
      clear htk hxn hxi hpg hx ho hbk hKB hxv
      go_wp2
      refine region_cut (EncR k E KB xa xn xc x wr) ?_ ?_
      · refine plain_region (fun j w' => decide (j < 9) = true → True) (by kernel_rfl) ?_
        have hbd : Below wr.heap.size wr wr.drew := (Below.refl _ _).drew
        generalize wr.drew = wd at hbd ⊢
        refine AnyT.takeD (i := 0) (v := .int .i64 k) rfl rfl (by kernel_rfl) (by kernel_rfl) (by kernel_rfl) (by first | exact (fun _ _ _ h => h) | exact (fun _ _ _ h => absurd h.1 (by simp))) (by kernel_rfl) (by rfl) (by rintro w' _; go_simp) trivial ?_; go_frame
        refine AnyT.takeD (i := 1) (v := .int .i64 E) rfl rfl (by kernel_rfl) (by kernel_rfl) (by kernel_rfl) (by first | exact (fun _ _ _ h => h) | exact (fun _ _ _ h => absurd h.1 (by simp))) (by kernel_rfl) (by rfl) (by rintro w' _; go_simp) trivial ?_; go_frame
        refine AnyT.takeD (i := 2) (v := .int .i64 ((k : Int) % (E : Int))) rfl rfl (by kernel_rfl) (by kernel_rfl) (by kernel_rfl) (by first | exact (fun _ _ _ h => h) | exact (fun _ _ _ h => absurd h.1 (by simp))) (by kernel_rfl) (by rfl) (by rintro w' _; go_simp; rw [if_neg HE0.out, HTM.out]) trivial ?_; go_frame
        refine AnyT.takeD (i := 3) (v := .bool KB) rfl rfl (by kernel_rfl) (by kernel_rfl) (by kernel_rfl) (by first | exact (fun _ _ _ h => h) | exact (fun _ _ _ h => absurd h.1 (by simp))) (by kernel_rfl) (by rfl) (by rintro w' _; go_simp) trivial ?_; go_frame
        refine AnyT.takeD (i := 4) (v := .slice xa xn xc) rfl rfl (by kernel_rfl) (by kernel_rfl) (by kernel_rfl) (by first | exact (fun _ _ _ h => h) | exact (fun _ _ _ h => absurd h.1 (by simp))) (by kernel_rfl) (by rfl) (by rintro w' _; go_simp) trivial ?_; go_frame
        have HBD := hid hbd
        clear hbd
        refine AnyT.next2 (i := 5) (j := 7) (by kernel_rfl) (wpOp_of_list rfl ?_) (wpOp_of_list rfl ?_)
        · go_wp2_with (go_at_call 63; refine (HCLN.out _ HBD.out).mono ?_; rintro e w5 ⟨v5, rfl, ho5, hb5⟩; refine Stop.of ?_)
          refine Stop.go ?_
          obtain ⟨ca, cc, rfl⟩ := ownsRow_slice ho5
          have HO5 := hid ho5
          have HB5 := hid (chain HBD.out hb5)
          clear ho5 hb5
          go_wp2
          refine ⟨fun _ => trivial, ?_⟩
          refine AnyT.takeD (i := 6) (v := .agg #[.bool KB, .slice ca xn cc]) rfl rfl (by kernel_rfl) (by kernel_rfl) (by kernel_rfl) (by first | exact (fun _ _ _ h => h) | exact (fun _ _ _ h => absurd h.1 (by simp))) (by kernel_rfl) (by rfl) (by rintro w' _; go_simp) trivial ?_; go_frame
          refine AnyT.next (i := 7) (by kernel_rfl) rfl (wpOp_of_list rfl ?_)
          go_wp2
          refine ⟨fun _ => trivial, ?_⟩
          have hw6 : (w5.alloc (.cells #[.bool false, .slice none 0 0] 47)).heap[w5.heap.size]? = some (.cells #[.bool false, .slice none 0 0] 47 (0, 0)) := World.alloc_heap_new _ _
          have HO6 := hid (HO5.out.alloc (.cells #[.bool false, .slice none 0 0] 47))
          have HB6 := hid (HB5.out.alloc HB5.out.size (.cells #[.bool false, .slice none 0 0] 47))
          generalize w5.alloc (.cells #[.bool false, .slice none 0 0] 47) = w6 at hw6 HO6 HB6 ⊢
          obtain ⟨z0, z1, f0, f1, hlt6⟩ := box2_facts hw6
          have HW6 := hid hw6
          clear hw6
          refine AnyT.next (i := 8) (by kernel_rfl) rfl (wpOp_of_list rfl ?_)
          go_wp2
          have hne : ∀ g, (Value.slice ca xn cc).ownBlock = some g → g ≠ w5.heap.size := fun g hg => by have := (HO5.out.lt g hg).2; omega
          have hfl : wr.heap.size ≤ w5.heap.size := HB5.out.size
          exact ⟨fun _ => trivial, by kernel_rfl, rfl, ca, cc, w5.heap.size, by go_frame, set2_block HW6.out, hfl, own_mono (own_set (own_set HO6.out _ hne) _ hne) HBD.out.size, below_set (below_set HB6.out hfl _ _) hfl _ _⟩
        · go_wp2
          refine ⟨fun _ => trivial, ?_⟩
          have hw6 : (wd.alloc (.cells #[.bool false, .slice none 0 0] 47)).heap[wd.heap.size]? = some (.cells #[.bool false, .slice none 0 0] 47 (0, 0)) := World.alloc_heap_new _ _
          have HB6 := hid (HBD.out.alloc HBD.out.size (.cells #[.bool false, .slice none 0 0] 47))
          have hs6 : (wd.alloc (.cells #[.bool false, .slice none 0 0] 47)).heap.size = wd.heap.size + 1 := by simp
          generalize wd.alloc (.cells #[.bool false, .slice none 0 0] 47) = w6 at hw6 hs6 HB6 ⊢
          have HW6 := hid hw6
          clear hw6
          refine AnyT.next (i := 5) (by kernel_rfl) rfl (wpOp_of_list rfl ?_)
          go_wp2_with (go_at_call 63; refine (HCLN.out _ HB6.out).mono ?_; rintro e w7 ⟨v5, rfl, ho5, hb5⟩; refine Stop.of ?_)
          refine Stop.go ?_
          obtain ⟨ca, cc, rfl⟩ := ownsRow_slice ho5
          have HO5 := hid ho5
          have HB5 := hid (chain HB6.out hb5)
          have hw7 : w7.heap[wd.heap.size]? = some (.cells #[.bool false, .slice none 0 0] 47 (0, 0)) := (hb5.block _ (by omega)).trans HW6.out
          obtain ⟨z0, z1, f0, f1, hlt6⟩ := box2_facts hw7
          have HW7 := hid hw7
          clear ho5 hb5 hw7
          go_wp2
          refine ⟨fun _ => trivial, ?_⟩
          refine AnyT.takeD (i := 6) (v := .agg #[.bool KB, .slice ca xn cc]) rfl rfl (by kernel_rfl) (by kernel_rfl) (by kernel_rfl) (by first | exact (fun _ _ _ h => h) | exact (fun _ _ _ h => absurd h.1 (by simp))) (by kernel_rfl) (by rfl) (by rintro w' _; go_simp) trivial ?_; go_frame
          refine AnyT.next (i := 8) (by kernel_rfl) rfl (wpOp_of_list rfl ?_)
          go_wp2
          have hne : ∀ g, (Value.slice ca xn cc).ownBlock = some g → g ≠ wd.heap.size := fun g hg => by have := (HO5.out.lt g hg).1; omega
          have hfl : wr.heap.size ≤ wd.heap.size := HBD.out.size
          exact ⟨fun _ => trivial, by kernel_rfl, rfl, ca, cc, wd.heap.size, by go_frame, set2_block HW7.out, hfl, own_mono (own_set (own_set HO5.out _ hne) _ hne) HB6.out.size, below_set (below_set HB5.out hfl _ _) hfl _ _⟩
      · rintro a' w5 ⟨ca, cc, fb, rfl, hfb, hfl, hown, hb5⟩
        obtain ⟨z0, z1, f0, f1, hlt5⟩ := box2_facts hfb
        have hCk : (C.take k).length = k := by rw [List.length_take, HCL.out]; omega
        have HCK := hid hCk
        obtain ⟨va, vc, hva⟩ := HO.out.slice
        rw [hCk] at hva
        subst hva
        have M1 := hid (show k + 1 ≤ maxLen by unfold maxLen; omega)
        have M2 := hid (show (k + 1) * 32 ≤ 140737488355328 by omega)
        have hwr := HBK.out.size
        have HFB := hid hfb
        have HFL := hid hfl
        have HOWN := hid hown
        have HB5 := hid hb5
        clear hCk hfb hown
        cases KB
        · have hkE : ¬ k % E = 0 := fun h => by
            have : (k : Int) % (E : Int) = 0 := by omega
            rw [this] at hkb; simp at hkb
          have hk1 : 1 ≤ k := by
            rcases Nat.eq_zero_or_pos k with h | h
            · subst h; simp at hkE
            · exact h
          have htk2 := HTK.out
          rw [if_neg hkE] at htk2
          obtain ⟨q, hq⟩ : ∃ q, q = k - 1 := ⟨_, rfl⟩
          obtain ⟨b', off', ya, yn, yc, e', hbs', hc', hyn, hym, hyi⟩ := (HH2.out.below HBK.out) q (by have := HN2.out; omega)
          cases e'
          have hyv : p[k - 1]?.getD [] = p[q] := by rw [← hq, List.getElem?_eq_getElem (by have := HN2.out; omega)]; rfl
          have hpq := HPG.out q (by have := HN2.out; omega)
          rw [← hq] at hyv
          rw [hyv] at hpq
          have hcb := HCB.out k (by have := HN2.out; omega)
          rw [← hq, hyv] at hcb
          have hxv : p[k]?.getD [] = x := by rw [HX.out, List.getElem?_eq_getElem (by have := HN2.out; omega)]; rfl
          rw [hxv] at hcb
          rw [← hq, hyv] at htk2
          obtain ⟨y, hy⟩ : ∃ y, y = p[q]'(by have := HN2.out; omega) := ⟨_, rfl⟩
          rw [← hy] at hyn hyi hpq hcb htk2
          obtain rfl : yn = xn := by have := HPK.out.1; have := HXN.out; have := hpq.1; omega
          have hw : wrap64 ((k : Int) - 1) = (q : Int) := by unfold wrap64; omega
          have hw2 : IntKind.i64.wrap ((k : Int) - 1) = (q : Int) := by rw [IntWalk.i64_left]; exact hw
          have hq0 : (0 : Int) ≤ (q : Int) := by omega
          have hqn : (q : Int) < (n2 : Int) := by omega
          have hc5 : w5.cell? ⟨b, off + q, none⟩ = some (.slice ya yn yc) := (hb5.cell (p := ⟨b, _, none⟩) hbs).trans hc'
          have HCH := hid (schange_c w5 ya xa yn yc xc y x hyn HXN.out (by have := HPK.out.1; have := HXN.out; omega) (hyi.below hb5) (HXI.out.below hb5) hpq.2 HPK.out.2)
          have HTK2 := hid htk2
          have HCB2 := hid hcb
          have HKX := hid hkE
          have hbw5 := hid (chain HBK.out hb5)
          have hsE := hid (shownE_change HM.out hcb)
          have hRV := hid (show readM M (changeF y x) = readV M (changeF y x) from readM_V HM.out (fun v hv => by have := hcb.2 v hv; omega))
          have hXL := hid (show (changeF y x).length = yn by rw [changeF_len]; exact HXN.out)
          clear htk2 hcb hkE hq hyv hpq hxv hy hyn hyi hb5 hc'
          go_wp2_with (go_at_call 38; refine HCH.out.mono ?_; rintro e w6 ⟨v6, rfl, ho6, hb6⟩; refine Stop.of ?_)
          refine Stop.go ?_
          obtain ⟨da, dc, rfl, hdi, hdm⟩ := ints_of_own ho6 hXL.out
          have hRDX := HRD.out w6 (chain hbw5.out hb6) da yn dc (changeF y x) hXL.out hdm hdi hsE.out
          rw [hRV.out] at hRDX
          have HRX := hid hRDX
          have HB6 := hid hb6
          clear hRDX ho6 hdi hb6
          go_wp2_with (go_at_call 70; refine HRX.out.mono ?_; rintro e w7 ⟨v7, base7, rfl, hbase7, ho7, hb7⟩; refine Stop.of ?_)
          refine Stop.go ?_
          obtain ⟨ra, rc, rfl⟩ := ownsRow_slice ho7
          have hB7 := chain HB6.out hb7
          have hf7 : w7.heap[fb]? = some (.cells #[.bool false, .slice ca yn cc] 47 (0, 0)) := (hB7.block fb hlt5).trans HFB.out
          obtain ⟨y0, y1, g0, g1, hlt7⟩ := box2_facts hf7
          have hf8 : (w7.setCell ⟨fb, 1, none⟩ (.slice ra n rc)).heap[fb]? = some (.cells #[.bool false, .slice ra n rc] 47 (0, 0)) := by rw [cells_set hf7 1]; rfl
          obtain ⟨d0, d1, k0, k1, hlt8⟩ := box2_facts hf8
          have hfw : w.heap.size ≤ fb := by have := HFL.out; omega
          have hB8 : Below w.heap.size w (w7.setCell ⟨fb, 1, none⟩ (.slice ra n rc)) := below_set (chain hbw5.out hB7) hfw _ _
          have hK8 : Keep (fun k => k ≠ fb) wr (w7.setCell ⟨fb, 1, none⟩ (.slice ra n rc)) := (Keep.of_below (chain HB5.out hB7) : Keep (fun k => k ≠ fb) _ _).trans (Keep.set _ _ _ _)
          have hFO := FrmsO.keep (S' := fun _ => True) HO.out hK8 (fun b _ hb => ⟨by have := HFL.out; omega, trivial⟩)
          have hEI : ElemI 3 (w7.setCell ⟨fb, 1, none⟩ (.slice ra n rc)) w.heap.size (fun _ => True) (.slice ra n rc) (readV M (changeF y x)) := by
            have h1 := own_set (o := 1) (u := .slice ra n rc) ho7 (b := fb) (fun g hg => by have := (ho7.lt g hg).1; have := HB6.out.size; omega)
            exact ElemI.own' h1 rfl (by have := h1.1; simpa using this) (by rcases h1.2 with ⟨_, h⟩ | ⟨_, _, _, _, _, _, h, h', _⟩ <;> unfold maxLen at * <;> omega) (fun _ _ => trivial)
          obtain ⟨xs, hoo, hgg, hoe⟩ := hFO
          have hoo' := hoo
          rw [HCK.out] at hoo'
          have HOO := hid hoo
          have HOE := hid hoe
          have HOO' := hid hoo'
          have HEI := hid hEI
          have HB8 := hid hB8
          clear hoo hgg hoe hoo' hEI hB8 hK8 ho7 hb7 hf8 hf7 hB7 hbase7
          have M3 := hid (show w.heap.size ≤ ((w7.setCell ⟨fb, 1, none⟩ (.slice ra n rc)).alloc (.cells #[.bool false, .slice ra n rc] 47)).heap.size from Nat.le_trans HB8.out.size (le_alloc _ _))
          have hnw := news2 (w7.setCell ⟨fb, 1, none⟩ (.slice ra n rc)) (.bool false) (.slice ra n rc) 47
          have hsz : (w7.setCell ⟨fb, 1, none⟩ (.slice ra n rc)).heap.size = w7.heap.size := by simp [World.setCell]
          rw [hsz] at hnw
          have HNW := hid hnw
          clear hnw hsz
          go_wp2_with (at_builtin; refine wpList_app _ rfl (.tmp 41) (.tmp 43) 37 rfl w.heap.size 47 (.agg #[.bool false, .slice none 0 0]) 2 32 Tryz.underlying37 info_frame rfl (by decide) (.slice va k vc) k xs rfl (HOO'.out.alloc _) (some ⟨w7.heap.size, 0, none⟩) 1 1 [.bool false, .slice ra n rc] rfl rfl no_none HNW.out (frm_one _ _ _ _) M1.out M2.out M3.out ?_; intro a9 c9 w9 own9 g9; refine Stop.of ?_)
          refine Stop.go ?_
          have hsn := FrmsO.snoc (f := (false, readV M (changeF y x))) HOO.out HOE.out HEI.out ((Below.refl _ _).alloc (Nat.le_refl _) _) g9 (by rw [HCK.out]; exact own9) (fun _ _ => trivial)
          have hB9 : Below w.heap.size w w9 := (HB8.out.alloc HB8.out.size _).grown g9 M3.out (fun g hg => (HOO'.out.lt g hg).1)
          rw [← HTK2.out] at hsn
          have HSN := hid hsn
          have HB9 := hid hB9
          clear hsn hB9 own9 g9
          go_wp2
          refine ⟨⟨k + 1, by omega, by go_num, HSN.out, HB9.out⟩, by simp [intOf]; omega⟩
        · have hkE : k % E = 0 := by
            have : (k : Int) % (E : Int) = 0 := by simpa using hkb
            omega
          have htk2 := HTK.out
          rw [if_pos hkE] at htk2
          have hB8 : Below w.heap.size w w5 := chain HBK.out hb5
          have hFO := FrmsO.below HO.out hb5
          have hEI : ElemI 3 w5 w.heap.size (fun _ => True) (.slice ca xn cc) x := ElemI.own' HOWN.out rfl HXN.out hxm (fun _ _ => trivial)
          obtain ⟨xs, hoo, hgg, hoe⟩ := hFO
          have hoo' := hoo
          rw [HCK.out] at hoo'
          have HOO := hid hoo
          have HOE := hid hoe
          have HOO' := hid hoo'
          have HEI := hid hEI
          have HB8 := hid hB8
          have HTK2 := hid htk2
          clear hoo hgg hoe hoo' hEI hB8 htk2 hkE
          have M3 := hid (show w.heap.size ≤ (w5.alloc (.cells #[.bool true, .slice ca xn cc] 47)).heap.size from Nat.le_trans HB8.out.size (le_alloc _ _))
          go_wp2_with (at_builtin; refine wpList_app _ rfl (.tmp 41) (.tmp 43) 37 rfl w.heap.size 47 (.agg #[.bool false, .slice none 0 0]) 2 32 Tryz.underlying37 info_frame rfl (by decide) (.slice va k vc) k xs rfl (HOO'.out.alloc _) (some ⟨w5.heap.size, 0, none⟩) 1 1 [.bool true, .slice ca xn cc] rfl rfl no_none (news2 _ _ _ _) (frm_one _ _ _ _) M1.out M2.out M3.out ?_; intro a9 c9 w9 own9 g9; refine Stop.of ?_)
          refine Stop.go ?_
          have hsn := FrmsO.snoc (f := (true, x)) HOO.out HOE.out HEI.out ((Below.refl _ _).alloc (Nat.le_refl _) _) g9 (by rw [HCK.out]; exact own9) (fun _ _ => trivial)
          have hB9 : Below w.heap.size w w9 := (HB8.out.alloc HB8.out.size _).grown g9 M3.out (fun g hg => (HOO'.out.lt g hg).1)
          rw [← HTK2.out] at hsn
          have HSN := hid hsn
          have HB9 := hid hB9
          clear hsn hB9 own9 g9
          go_wp2
          refine ⟨⟨k + 1, by omega, by go_num, HSN.out, HB9.out⟩, by simp [intOf]; omega⟩
    · obtain rfl : n2 = k := by omega
      rw [List.take_of_length_le (by rw [HCL.out]; exact Nat.le_refl _)] at ho
      go_wp2
      go_ret
      exact ⟨_, rfl, ho, hbk⟩
end Go.Proofs.YtkmjeegnijohmaaGreat

namespace Go.Proofs.YtkmjeegnijohmaaGreat
open Go.RowKit
set_option linter.unusedVariables false

theorem rowsN_one {W : World} {base : Nat} {v : Value} {r : List Int} (h : RowsN 33 W base (fun _ => True) v [r]) :
    ∃ g c rb rc, v = .slice (some ⟨g, 0, none⟩) 1 c ∧ W.cell? ⟨g, 0, none⟩ = some (.slice (some ⟨rb, 0, none⟩) r.length rc) ∧ base ≤ rb ∧ SpRow W rb r ∧ base ≤ g ∧ g < W.heap.size := by
  obtain ⟨vs, ho, _, he⟩ := h
  obtain ⟨u, hu, rb, rc, e, h1, _, h3, h4⟩ := he 0 (by simp)
  rcases ho.2 with ⟨_, h0⟩ | ⟨g, cap, cur, rfl, hbg, hgg, rest⟩
  · simp at h0
  · have hc := World.ownsRow.cellAt (w := W) (base := base) (e := 33) (size := 1) (g := g) (n := 1) (cap := cap) (xs := vs) ⟨ho.1, .inr ⟨g, cap, cur, rfl, hbg, hgg, rest⟩⟩ 0 (by omega)
    rw [hu, e] at hc
    exact ⟨g, cap, rb, rc, rfl, hc, h1, h3, hbg, (Array.getElem?_eq_some_iff.1 hgg).1⟩

set_option maxRecDepth 100000 in
set_option maxHeartbeats 4000000 in
theorem next_c (w : World) (a a2 : Option Addr) (n cap n2 cap2 : Nat) (M : Mask) (kf : Bool) (l : List Int) (o : Option (List Int)) (nv : Value) (lo : Nat) (S : Nat → Prop) (k : Int) (hn : M.length = n) (hM : okM M = true) (hn2 : l.length = n2) (hm2 : n2 ≤ maxLen) (H : RowsAt w a M) (H2 : IntsAt w a2 l) (hf : frB M (kf, l) = true) (ho : OptV w lo S o nv) (hoo : okO M o) :
    Calls Tryz.prog 62 #[.slice a n cap, nv, .agg #[.bool kf, .slice a2 n2 cap2], .int .i64 k] w fun e w' => ∃ v, e = .returned v ∧ OptV w' w.heap.size (fun _ => True) (nextF M k o (kf, l)) v ∧ Below w.heap.size w w' := by
  obtain ⟨_, h1, hn6, hc1, hc10⟩ := okM_ok hM
  have heq := fun (w : World) (a : Option Addr) (n c : Nat) => Lib.run_eql_slice_nil (P := Tryz.prog) w 33 3 a n c 0 0 Tryz.underlying33
  have hbz : Below w.heap.size w (w.alloc (.cells #[.bool kf, .slice a2 n2 cap2] 76)) := (Below.refl _ _).alloc (Nat.le_refl _) _
  have hwz : (w.alloc (.cells #[.bool kf, .slice a2 n2 cap2] 76)).heap[w.heap.size]? = some (.cells #[.bool kf, .slice a2 n2 cap2] 76 (0, 0)) := World.alloc_heap_new _ _
  have HL := hid (fun (X : World) => lost_c X kf a2 n2 cap2)
  by_cases h0 : n2 = 0
  · have hnx : nextF M k o (kf, l) = none := by unfold nextF; rw [if_pos (by rw [hn2]; exact h0)]
    rw [hnx]
    rw [decide_eq_true h0] at HL
    have HB := hid hbz
    clear hnx hn hn2 hm2 H H2 hf ho hoo hbz hwz h0
    go_enter Tryz.func62, Tryz.ntmps62
    go_wp2_with (go_at_call 83; refine (HL.out _).mono ?_; rintro e w1 ⟨rfl, hb1⟩)
    go_ret
    exact ⟨_, rfl, .inl ⟨rfl, rfl⟩, chain HB.out hb1⟩
  · rw [decide_eq_false h0] at HL
    obtain ⟨wz, hz⟩ : ∃ wz, wz = w.alloc (.cells #[.bool kf, .slice a2 n2 cap2] 76) := ⟨_, rfl⟩
    rw [← hz] at hbz hwz
    have HBX := hid (show ∀ X : World, Below wz.heap.size wz X → X.heap[w.heap.size]? = some (.cells #[.bool kf, .slice a2 n2 cap2] 76 (0, 0)) from fun X hX => (hX.block _ (Array.getElem?_eq_some_iff.1 hwz).1).trans hwz)
    have HZ := hid hz
    have HB := hid hbz
    cases kf
    · cases o with
      | none =>
        have hnx : nextF M k none (false, l) = none := by unfold nextF; rw [if_neg (by rw [hn2]; exact h0), if_neg (by simp)]
        have hnv : nv = .slice none 0 0 := by
          rcases ho with ⟨_, h⟩ | ⟨x, b, c, h, _⟩
          · exact h
          · cases h
        subst hnv
        rw [hnx]
        clear hnx hn hn2 hm2 H H2 hf ho hoo hbz hwz h0 hz
        go_enter Tryz.func62, Tryz.ntmps62
        go_wp2_with fail
        rw [← HZ.out]
        go_wp2_with (go_at_call 83; refine (HL.out _).mono ?_; rintro e w1 ⟨rfl, hb1⟩; obtain ⟨q0, q1, _, _, _⟩ := box2_facts (HBX.out _ hb1))
        go_ret
        exact ⟨_, rfl, .inl ⟨rfl, rfl⟩, chain HB.out hb1⟩
      | some b =>
        obtain ⟨bb, bc, rfl, hlo, hbS, hbsp, hb1', hbm⟩ : ∃ bb bc, nv = .slice (some ⟨bb, 0, none⟩) b.length bc ∧ lo ≤ bb ∧ S bb ∧ SpRow w bb b ∧ 1 ≤ b.length ∧ b.length ≤ maxLen := by
          rcases ho with ⟨h, _⟩ | ⟨x, bb, bc, h, e, h2, h3, h4, h5, h6⟩
          · cases h
          · cases h; exact ⟨bb, bc, e, h2, h3, h4, h5, h6⟩
        have hpb := hoo b rfl
        have hbl := pic_bnd hpb
        have hbv : ∀ c, -1000 ≤ vec b c ∧ vec b c ≤ 1000 := fun c => by
          unfold picB at hpb
          simp only [Bool.and_eq_true, decide_eq_true_eq, List.all_eq_true] at hpb
          exact vec_mem (P := fun v => -1000 ≤ v ∧ v ≤ 1000) (by omega) (fun v hv => by have := hpb.2 v hv; unfold inB at this; simpa using this) c
        have hnx : nextF M k (some b) (false, l) = match wholeV M l k with | none => none | some r => if picB M (addF r b) = true then some (addF r b) else none := by
          unfold nextF; (rw [if_neg (by rw [hn2]; exact h0), if_neg (by simp)]) <;> rfl
        have HWH := hid (fun (X : World) (hX : Below w.heap.size w X) => whole_c X a a2 n cap n2 cap2 M l k hn hn2 (by unfold maxLen; omega) hm2 (H.below hX) (H2.below hX))
        have HPI := hid (fun (X : World) (hX : Below w.heap.size w X) (g c : Nat) (x : List Int) (hx : x.length = b.length) (hs : SpRow X g x) => picture_c X a n cap M hn (by rw [← hn]; exact h1) (H.below hX) (some ⟨g, 0, none⟩) b.length c x hx hbm hs.ints)
        have HNX := hid hnx
        have HBS := hid hbsp
        have HBV := hid hbv
        have HBL := hid hbl.1
        obtain ⟨bn, hbn⟩ : ∃ bn, bn = b.length := ⟨_, rfl⟩
        rw [← hbn] at HPI hb1' hbm
        rw [← hbn]
        have HBN := hid hbn
        have hbn10 : bn ≤ 10 := by omega
        clear hnx hn hn2 hm2 H H2 hf ho hoo hbz hwz h0 hz hbsp hpb hbl hbv hbn
        go_enter Tryz.func62, Tryz.ntmps62
        go_wp2_with fail
        rw [← HZ.out]
        go_wp2_with first
          | (go_at_call 83; refine (HL.out _).mono ?_; rintro e w1 ⟨rfl, hb1⟩; obtain ⟨q0, q1, _, _, _⟩ := box2_facts (HBX.out _ hb1))
          | (go_at_call 84; refine (HWH.out _ (chain HB.out hb1)).mono ?_; rintro e w2 ⟨hb2, ⟨hE, rfl⟩ | ⟨hE, v2, rfl, base, hbase, hrows⟩⟩ <;> refine Stop.of ?_)
        · refine Stop.go ?_
          have hbw1 := chain HB.out hb1
          have hB2 := chain hbw1 hb2
          have hwv : wholeV M l k = none := by unfold wholeV; rw [if_neg hE]
          rw [hwv] at HNX
          have hne : (countE M l k != 0) = true := by simpa using hE
          obtain ⟨E, hEE⟩ : ∃ E, E = countE M l k := ⟨_, rfl⟩
          rw [← hEE] at hne ⊢
          clear hE hEE hwv hb1 hb2 hbw1 q0 q1
          go_wp2
          go_ret
          rw [HNX.out]
          exact ⟨_, rfl, .inl ⟨rfl, rfl⟩, hB2⟩
        · refine Stop.go ?_
          have hbw1 := chain HB.out hb1
          have hB2 := chain hbw1 hb2
          by_cases hone : ∃ r, wholeF M l k.toNat = [r]
          · obtain ⟨r, hr⟩ := hone
            have hwv : wholeV M l k = some r := by unfold wholeV; rw [if_pos hE, hr]
            have hrf := wholeF_facts (M := M) (y := l) (q := k.toNat) (r := r) (by rw [hr]; simp)
            rw [hwv] at HNX
            rw [hr] at hrows
            obtain ⟨g, c, rb, rc, rfl, hgc, hrb, hrsp, hgb, hgl⟩ := rowsN_one hrows
            have hrl : r.length = bn := by rw [hrf.1, HBN.out, HBL.out]
            rw [hrl] at hgc
            have hrbne : rb ≠ bb := by
              have := HBS.out.lt
              have := hbw1.size
              omega
            have HRV := hid hrf.2
            have HRL := hid hrl
            have HRS := hid hrsp
            have HBS2 := hid (HBS.out.keep (hB2.block _ HBS.out.lt))
            have HB2 := hid hB2
            have hrbw : w.heap.size ≤ rb := by have := hbw1.size; omega
            clear hrf hrl hrsp hrows hE hwv hr hb1 hb2 hbw1 q0 q1 hB2 hgb
            go_wp2
            go_loopw [49] (fun i wr => ∃ t : Nat, t ≤ bn ∧ i = .int .i64 t ∧ SpRow wr rb (addTo r b t) ∧ Keep (fun k => k ≠ rb) w2 wr) (fun i _ => bn - (intOf i).toNat)
            case atStart => exact ⟨0, Nat.zero_le _, rfl, by rw [addTo_zero]; exact HRS.out, Keep.refl _ _⟩
            case round =>
              obtain ⟨t, ht, rfl, hsp, hkp⟩ := hrel
              by_cases hlt : t < bn
              · have htr : t < r.length := by rw [HRL.out]; exact hlt
                have hbs := (HBS2.out.keep (hkp.block _ HBS2.out.lt (fun h => hrbne h.symm))).cell (j := t) (by rw [← HBN.out]; exact hlt)
                have hrs := hsp.cell (j := t) (by rw [addTo_len]; exact htr)
                rw [addTo_get r b htr] at hrs
                have e1 : b[t]?.getD 0 = vec b t := rfl
                rw [e1] at hbs
                have hsf := hsp.frozen t
                have hsl := hsp.lt
                have hset := hsp.set t (by rw [addTo_len]; exact htr) (vec r t + vec b t)
                rw [← addTo_succ r b htr] at hset
                have g1 := HRV.out t
                have g2 := HBV.out t
                obtain ⟨p, hp⟩ : ∃ p, p = vec r t := ⟨_, rfl⟩
                obtain ⟨q, hq⟩ : ∃ q, q = vec b t := ⟨_, rfl⟩
                rw [← hp] at hrs g1 hset
                rw [← hq] at hbs g2 hset
                obtain ⟨z, hz⟩ : ∃ z, z = p + q := ⟨_, rfl⟩
                rw [← hz] at hset
                have hw : wrap64 (p + q) = z := by rw [hz]; unfold wrap64; omega
                have hw2 : IntKind.i64.wrap (p + q) = z := by rw [IntWalk.i64_left]; exact hw
                have hti : (t : Int) < (bn : Int) := by omega
                have hti0 : (0 : Int) ≤ (t : Int) := by omega
                have HSET := hid hset
                have HKP := hid hkp
                clear hp hq hz g1 g2 hset hkp hsp e1 htr
                go_wp2
                refine ⟨⟨t + 1, by omega, by go_num, HSET.out, HKP.out.trans (Keep.set _ _ _ _)⟩, by simp [intOf]; omega⟩
              · obtain rfl : bn = t := by omega
                have hat : addTo r b bn = addF r b := by rw [← HRL.out]; exact addTo_all r b
                rw [hat] at hsp
                have hB3 : Below w.heap.size w wr := hkp.below HB2.out HB2.out.size (fun k hk => by omega)
                have HP3 := hid (HPI.out wr hB3 rb rc (addF r b) (by rw [addF_len]; exact HRL.out) hsp)
                have HSP := hid hsp
                have HB3 := hid hB3
                obtain ⟨B, hB⟩ : ∃ B, B = picB M (addF r b) := ⟨_, rfl⟩
                rw [← hB] at HP3 HNX
                have hnl : (addF r b).length = bn := by rw [addF_len]; exact HRL.out
                have HNL := hid hnl
                clear hsp hB3 hkp hat hB hnl
                cases B
                · go_wp2_with (go_at_call 55; refine HP3.out.mono ?_; rintro e w4 ⟨rfl, hb4⟩)
                  go_ret
                  rw [HNX.out]
                  exact ⟨_, rfl, .inl ⟨rfl, rfl⟩, chain HB3.out hb4⟩
                · go_wp2_with (go_at_call 55; refine HP3.out.mono ?_; rintro e w4 ⟨rfl, hb4⟩)
                  go_ret
                  rw [HNX.out]
                  exact ⟨.slice (some ⟨rb, 0, none⟩) bn rc, rfl, .inr ⟨addF r b, rb, rc, rfl, by rw [HNL.out], hrbw, trivial, HSP.out.keep (hb4.block _ HSP.out.lt), by rw [HNL.out]; exact hb1', by rw [HNL.out]; exact hbm⟩, chain HB3.out hb4⟩
          · have hwv : wholeV M l k = none := by
              unfold wholeV
              rw [if_pos hE]
              split
              · rename_i r hr; exact absurd ⟨r, hr⟩ hone
              · rfl
            rw [hwv] at HNX
            obtain ⟨va, vc, rfl, hlm, _, _⟩ := hrows.rowsO.reads
            obtain ⟨ln, hln⟩ : ∃ ln, ln = (wholeF M l k.toNat).length := ⟨_, rfl⟩
            have hln1 : ln ≠ 1 := fun h => hone (by rw [hln] at h; exact List.length_eq_one_iff.1 h)
            have hne : ((ln : Int) != 1) = true := by simp; omega
            rw [← hln]
            clear hE hwv hone hrows hlm hln hln1 hb1 hb2 hbw1 q0 q1
            go_wp2
            go_ret
            rw [HNX.out]
            exact ⟨_, rfl, .inl ⟨rfl, rfl⟩, hB2⟩
    · have hnx : nextF M k o (true, l) = some l := by unfold nextF; rw [if_neg (by rw [hn2]; exact h0), if_pos rfl]
      rw [hnx]
      have hl10 : l.length ≤ 10 := by
        unfold frB at hf
        have : picB M l = true := by simpa [hn2, h0] using hf
        have := (pic_bnd this).1
        omega
      have HCL := hid (fun (X : World) (hX : Below w.heap.size w X) => clone_c X a2 n2 cap2 l hn2 (by omega) (H2.below hX))
      have HN2 := hid hn2
      clear hnx hn hn2 hm2 H H2 hf ho hoo hbz hwz hz
      go_enter Tryz.func62, Tryz.ntmps62
      go_wp2_with fail
      rw [← HZ.out]
      go_wp2_with first
        | (go_at_call 83; refine (HL.out _).mono ?_; rintro e w1 ⟨rfl, hb1⟩; obtain ⟨q0, q1, _, _, _⟩ := box2_facts (HBX.out _ hb1))
        | (go_at_call 63; refine (HCL.out _ (chain HB.out hb1)).mono ?_; rintro e w2 ⟨v2, rfl, ho2, hb2⟩)
      go_ret
      obtain ⟨g, c, rfl, hg, hsp⟩ := spRow_own ho2 HN2.out (by omega)
      have hs := (chain HB.out hb1).size
      refine ⟨.slice (some ⟨g, 0, none⟩) n2 c, rfl, .inr ⟨l, g, c, rfl, by rw [HN2.out], by omega, trivial, hsp, by have := HN2.out; omega, by unfold maxLen; omega⟩, chain (chain HB.out hb1) hb2⟩
end Go.Proofs.YtkmjeegnijohmaaGreat

namespace Go.Proofs.YtkmjeegnijohmaaGreat
open Go.RowKit
set_option linter.unusedVariables false

def IterP (P : Program) (g : Nat) (lb : Array Value) {α : Type} (V : Nat → (Nat → Prop) → α → Value → Value → World → Prop) (xs : List α) (fp : Nat → Prop) (w0 : World) : Prop :=
  ∀ (l : Nat) (J Jx : (Nat → Prop) → List α → World → Prop) (W : World), Below w0.heap.size w0 W →
    (∀ S S' s A B, Jx S s A → (∀ k, S k → S' k) → (∀ k, S' k → S k ∨ A.heap.size ≤ k) → Keep (fun k => ¬ S' k) A B → Jx S' s B) →
    (∀ S S' s A B, J S s A → (∀ k, S k → S' k) → (∀ k, S' k → S k ∨ A.heap.size ≤ k) → Keep (fun k => ¬ S' k) A B → J S' s B) →
    (∀ S pre x v u W1, pre ++ [x] <+: xs → (∀ k, S k → W.heap.size ≤ k ∧ k < W1.heap.size) → W.heap.size ≤ W1.heap.size → J S pre W1 → V W.heap.size S x v u W1 →
      YieldAt Fence.wide 0 P l #[v, u] W1 fun e W' =>
        (W1.heap.size ≤ W'.heap.size ∧ (∀ k, fp k ∨ S k → W'.heap[k]? = W1.heap[k]?)) ∧ ((e = .returned (.bool true) ∧ J S (pre ++ [x]) W') ∨ (e = .returned (.bool false) ∧ Jx S (pre ++ [x]) W'))) →
    J (fun _ => False) [] W →
    CallsIn Fence.wide 0 P g (#[.func (.yield l) #[] #[]] ++ lb) W fun e W' => (∃ v, e = .returned v) ∧ ((∃ S, (∀ k, S k → W.heap.size ≤ k ∧ k < W'.heap.size) ∧ J S xs W') ∨ (∃ S pre, pre <+: xs ∧ Jx S pre W'))

theorem range_p {P : Program} {g : Operand} {p1 p2 : Tmp} {assign body : Code} {Q : Exit → Act → World → Prop} {a : Act} {w : World}
    {gf : Nat} {lb : Array Value} (hg : a.eval g = .func (.func gf) #[] lb) (eg : ∀ args w, (callFunc gf args).run P w = .ok (.enter gf args) w)
    {α : Type} {V : Nat → (Nat → Prop) → α → Value → Value → World → Prop} {xs : List α} {fp : Nat → Prop} {w0 : World} (hseq : IterP P gf lb V xs fp w0) (hb0 : Below w0.heap.size w0 w) (hfp : ∀ k, fp k → k < w.heap.size)
    (I : (Nat → Prop) → List α → World → Prop) (Ix : (Nat → Prop) → Code → List α → World → Prop)
    (hI : ∀ S S' s A B, I S s A → (∀ k, S k → S' k) → (∀ k, S' k → S k ∨ A.heap.size ≤ k) → (∀ k, S' k → w.heap.size + 2 ≤ k) → w.heap.size + 2 ≤ A.heap.size → Keep (fun k => k ≠ w.heap.size ∧ k ≠ w.heap.size + 1 ∧ ¬ S' k) A B → I S' s B)
    (hIx : ∀ S S' c s A B, Ix S c s A → (∀ k, S k → S' k) → (∀ k, S' k → S k ∨ A.heap.size ≤ k) → (∀ k, S' k → w.heap.size + 2 ≤ k) → w.heap.size + 2 ≤ A.heap.size → Keep (fun k => k ≠ w.heap.size ∧ k ≠ w.heap.size + 1 ∧ ¬ S' k) A B → Ix S' c s B)
    (hV : ∀ S x v u A B, V (w.heap.size + 2) S x v u A → Keep (fun k => k ≠ w.heap.size ∧ k ≠ w.heap.size + 1) A B → V (w.heap.size + 2) S x v u B)
    (h0 : ∀ W, Keep (fun k => k < w.heap.size) w W → w.heap.size + 2 ≤ W.heap.size → I (fun _ => False) [] W) (Ax : Value → Value → Act → World → Prop)
    (hAx : ∀ v u a' A B, Ax v u a' A → Keep (fun k => k ≠ w.heap.size ∧ k ≠ w.heap.size + 1) A B → Ax v u a' B)
    (hassign : ∀ (l : Nat) (S : Nat → Prop) (x : α) (v u : Value) (W : World) (K : Act → World → Prop), w.heap.size + 2 ≤ W.heap.size → V (w.heap.size + 2) S x v u W → (∀ a' W', Below W.heap.size W W' → Ax v u a' W' → K a' W') →
      assign.wpIn (Fence.wide.inRound l) 0 P (Exit.then K (fun _ _ _ => False)) { tmps := (a.tmps.setIfInBounds p1 v).setIfInBounds p2 u, defers := [] } W)
    (hbody : ∀ (l : Nat) (S : Nat → Prop) (pre : List α) (x : α) (v u : Value) (a' : Act) (W : World), pre ++ [x] <+: xs → (∀ k, S k → w.heap.size + 2 ≤ k ∧ k < W.heap.size) → I S pre W → V (w.heap.size + 2) S x v u W → Ax v u a' W → w.heap.size + 2 ≤ W.heap.size →
      (∃ o, W.heap[w.heap.size]? = some o ∧ o.isCells = false) → (∃ o, W.heap[w.heap.size + 1]? = some o ∧ o.isCells = false) →
      body.wpIn (Fence.wide.inRound l) 0 P (roundEndS (fun k => fp k ∨ k = w.heap.size ∨ k = w.heap.size + 1 ∨ S k) (I S) (Ix S) (pre ++ [x]) W) a' W)
    (hdone : ∀ (S : Nat → Prop) (W : World), w.heap.size + 2 ≤ W.heap.size → (∀ k, S k → w.heap.size + 2 ≤ k ∧ k < W.heap.size) → I S xs W → W.heap[w.heap.size]? = some (.deferred (some [])) → Q .normal { a with defers := { target := .collected w.heap.size, args := #[] } :: a.defers } W)
    (hstop : ∀ (S : Nat → Prop) (c : Code) (pre : List α) (W : World), pre <+: xs → (∀ k, S k → w.heap.size + 2 ≤ k) → Ix S c pre W → W.heap[w.heap.size]? = some (.deferred (some [])) → c.wpIn Fence.wide 0 P Q { a with defers := { target := .collected w.heap.size, args := #[] } :: a.defers } W) :
    (Code.rangeFunc g #[p1, p2] assign body).wpIn Fence.wide 0 P Q a w := by
  refine wpIn_rangeFunc ?_
  intro fn hfn
  obtain ⟨rec, hrec⟩ : ∃ rec : LoopState → Option Code → Loop, rec = fun st pe => { state := st, pending := pe, fn, tmps := a.tmps, params := #[p1, p2], assign, body, defers := w.heap.size } := ⟨_, rfl⟩
  obtain ⟨W1, hW1⟩ : ∃ W1, (w.alloc (.deferred (some []))).alloc (.loop (rec .ready none)) = W1 := ⟨_, rfl⟩
  have hsz1 : W1.heap.size = w.heap.size + 2 := by rw [← hW1]; simp
  have hL1 : W1.heap[w.heap.size + 1]? = some (.loop (rec .ready none)) := by
    rw [← hW1]; have := World.alloc_heap_new (w.alloc (.deferred (some []))) (.loop (rec .ready none)); rwa [World.size_alloc] at this
  have hK1 : W1.heap[w.heap.size]? = some (.deferred (some [])) := by
    rw [← hW1]; exact (Below.heap_alloc _ _ _ (by simp)).trans (World.alloc_heap_new w _)
  have hbw : Below w.heap.size w W1 := by rw [← hW1]; exact ((Below.refl _ w).alloc (Nat.le_refl _) _).alloc (by simp) _
  refine ⟨w.heap.size + 1, [{ target := .collected w.heap.size, args := #[] }], W1, { target := .fn (.func gf) lb, args := #[.func (.yield (w.heap.size + 1)) #[] #[]] }, W1, gf,
    #[.func (.yield (w.heap.size + 1)) #[] #[]] ++ lb, W1, ?_, ?_, ?_, ?_, fun h => by simp [Fence.wide] at h, ?_⟩
  · rw [← hW1, hrec]; exact run_enterLoop_outer _ _ _ _ _
  · simp only [resolve, hg]
    simp [go_sem]
  · intro f' hf'; exact trivial
  · simp [invoke, go_sem, eg]
  · refine (hseq (w.heap.size + 1)
      (fun S pre W => (I S pre W ∧ w.heap.size + 2 ≤ W.heap.size ∧ ∀ k, S k → w.heap.size + 2 ≤ k) ∧ W.heap[w.heap.size + 1]? = some (.loop (rec .ready none)) ∧ W.heap[w.heap.size]? = some (.deferred (some [])))
      (fun S pre W => ∃ c, (Ix S c pre W ∧ w.heap.size + 2 ≤ W.heap.size ∧ ∀ k, S k → w.heap.size + 2 ≤ k) ∧ W.heap[w.heap.size + 1]? = some (.loop (rec .done (some c))) ∧ W.heap[w.heap.size]? = some (.deferred (some [])))
      W1 (chain hb0 hbw) ?_ ?_ ?_ ?_).mono ?_
    · rintro S S' s A B ⟨c, ⟨hi, hsA, hSl⟩, hl, hk⟩ hSS hSn hAB
      have hS' : ∀ k, S' k → w.heap.size + 2 ≤ k := fun k h => by
        rcases hSn k h with h1 | h1
        · exact hSl k h1
        · omega
      exact ⟨c, ⟨hIx S S' c s A B hi hSS hSn hS' hsA (hAB.mono fun k hk => hk.2.2), Nat.le_trans hsA hAB.size, hS'⟩,
        (hAB.block _ (Array.getElem?_eq_some_iff.1 hl).1 (fun h => by have := hS' _ h; omega)).trans hl, (hAB.block _ (Array.getElem?_eq_some_iff.1 hk).1 (fun h => by have := hS' _ h; omega)).trans hk⟩
    · rintro S S' s A B ⟨⟨hi, hsA, hSl⟩, hl, hk⟩ hSS hSn hAB
      have hS' : ∀ k, S' k → w.heap.size + 2 ≤ k := fun k h => by
        rcases hSn k h with h1 | h1
        · exact hSl k h1
        · omega
      exact ⟨⟨hI S S' s A B hi hSS hSn hS' hsA (hAB.mono fun k hk => hk.2.2), Nat.le_trans hsA hAB.size, hS'⟩,
        (hAB.block _ (Array.getElem?_eq_some_iff.1 hl).1 (fun h => by have := hS' _ h; omega)).trans hl, (hAB.block _ (Array.getElem?_eq_some_iff.1 hk).1 (fun h => by have := hS' _ h; omega)).trans hk⟩
    · rintro S pre x v u W hpre hSb hsz ⟨⟨hi, hsW, hSl⟩, hl, hk⟩ hv
      rw [hsz1] at hv hSb
      have hlt : w.heap.size + 1 < W.heap.size := (Array.getElem?_eq_some_iff.1 hl).1
      have hy := run_yield (P := P) (args := #[v, u]) hl (by rw [hrec]; simp)
      rw [hrec] at hy
      have hy' : (Instr.yield (w.heap.size + 1) #[v, u]).run P W = .ok (.round (w.heap.size + 1) fn ((a.tmps.setIfInBounds p1 v).setIfInBounds p2 u) assign body) W := by
        simpa using hy
      refine ⟨fn, _, assign, body, hy', roundIn_of_wpIn hfn ?_⟩
      refine hassign _ S x v u W _ hsW hv ?_
      intro a' W' hbW' hax
      have hlW' : W'.heap[w.heap.size + 1]? = some (.loop (rec .ready none)) := (hbW'.block _ hlt).trans hl
      have hkW' : W'.heap[w.heap.size]? = some (.deferred (some [])) := (hbW'.block _ (by omega)).trans hk
      have hltW' : w.heap.size + 1 < W'.heap.size := by have := hbW'.size; omega
      refine ⟨_, run_beginRound hlW' (by rw [hrec]), ?_⟩
      have hl2 : (W'.putObj (w.heap.size + 1) (.loop { rec .ready none with state := .busy })).heap[w.heap.size + 1]? = some (.loop { rec .ready none with state := .busy }) := World.putObj_heap_same hltW'
      have hkp := Keep.put W' (w.heap.size + 1) (.loop { rec .ready none with state := .busy })
      have hkp2 : Keep (fun k => k ≠ w.heap.size ∧ k ≠ w.heap.size + 1) W' _ := hkp.mono fun k hk => hk.2
      have hIW' := hI S S pre _ _ (hI S S pre _ _ hi (fun _ h => h) (fun _ h => .inl h) hSl hsW (Keep.of_below hbW')) (fun _ h => h) (fun _ h => .inl h) hSl (Nat.le_trans hsW hbW'.size) (hkp2.mono fun k hk => ⟨hk.1, hk.2.1⟩)
      refine wpIn_mono (hbody _ S pre x v u a' _ hpre (fun k h => ⟨hSl k h, by have := (hSb k h).2; exact Nat.lt_of_lt_of_le this (Nat.le_trans hbW'.size hkp.size)⟩) hIW' (hV S x v u _ _ (hV S x v u _ _ hv (Keep.of_below hbW')) hkp2) (hAx _ _ _ _ _ hax hkp2) (Nat.le_trans (Nat.le_trans hsW hbW'.size) hkp.size) ⟨_, (World.putObj_heap_other (by omega)).trans hkW', rfl⟩ ⟨_, hl2, rfl⟩) ?_
      have fin : ∀ (jump : Option Code) (W3 : World), (∀ k, (fp k ∨ k = w.heap.size ∨ k = w.heap.size + 1 ∨ S k) → W3.heap[k]? = (W'.putObj (w.heap.size + 1) (.loop { rec .ready none with state := .busy })).heap[k]?) →
          (Instr.endRound (w.heap.size + 1) jump).run P W3 = .ok (.bool jump.isNone) (W3.putObj (w.heap.size + 1) (.loop (rec (if jump.isNone then .ready else .done) jump))) ∧
          W3.heap[w.heap.size + 1]? = some (.loop { rec .ready none with state := .busy }) ∧
          (W3.putObj (w.heap.size + 1) (.loop (rec (if jump.isNone then .ready else .done) jump))).heap[w.heap.size + 1]? = some (.loop (rec (if jump.isNone then .ready else .done) jump)) ∧
          (W3.putObj (w.heap.size + 1) (.loop (rec (if jump.isNone then .ready else .done) jump))).heap[w.heap.size]? = some (.deferred (some [])) := fun jump W3 hk3 => by
        have hl3 := (hk3 (w.heap.size + 1) (by simp)).trans hl2
        have := run_endRound (P := P) jump hl3
        rw [hrec] at this ⊢
        refine ⟨this, by rw [hrec] at hl3; exact hl3, World.putObj_heap_same (Array.getElem?_eq_some_iff.1 hl3).1, (World.putObj_heap_other (by omega)).trans ((hk3 w.heap.size (by simp)).trans ((World.putObj_heap_other (by omega)).trans hkW'))⟩
      rintro e a3 W3 hp
      have keepP : ∀ (o : Obj), Keep (fun k => k ≠ w.heap.size ∧ k ≠ w.heap.size + 1) W3 (W3.putObj (w.heap.size + 1) o) := fun o => (Keep.put W3 (w.heap.size + 1) o).mono fun k hk => hk.2
      have both : ∀ (o : Obj), W'.heap.size ≤ W3.heap.size → (∀ k, (fp k ∨ k = w.heap.size ∨ k = w.heap.size + 1 ∨ S k) → W3.heap[k]? = (W'.putObj (w.heap.size + 1) (.loop { rec .ready none with state := .busy })).heap[k]?) →
          W.heap.size ≤ (W3.putObj (w.heap.size + 1) o).heap.size ∧ ∀ k, fp k ∨ S k → (W3.putObj (w.heap.size + 1) o).heap[k]? = W.heap[k]? := fun o hs3 hk3 => by
        refine ⟨Nat.le_trans (Nat.le_trans hbW'.size hs3) (keepP o).size, fun k hk => ?_⟩
        have hne : k ≠ w.heap.size + 1 := by
          rcases hk with hk | hk
          · have := hfp k hk; omega
          · have := hSl k hk; omega
        have hltk : k < W.heap.size := by
          rcases hk with hk | hk
          · have := hfp k hk; omega
          · exact (hSb k hk).2
        exact (World.putObj_heap_other hne).trans ((hk3 k (by rcases hk with hk | hk <;> simp [hk])).trans ((World.putObj_heap_other hne).trans (hbW'.block k hltk)))
      cases e with
      | normal =>
        obtain ⟨hs3, hk3, hi3⟩ := hp
        obtain ⟨hr, hl3, hl4, hk4⟩ := fin none W3 hk3
        have hs3' : W.heap.size ≤ W3.heap.size := Nat.le_trans (Nat.le_trans hbW'.size hkp.size) hs3
        exact ⟨_, _, hr, both _ (Nat.le_trans hkp.size hs3) hk3, .inl ⟨rfl, ⟨hI S S _ _ _ hi3 (fun _ h => h) (fun _ h => .inl h) hSl (Nat.le_trans hsW hs3') ((keepP _).mono fun k hk => ⟨hk.1, hk.2.1⟩), Nat.le_trans (Nat.le_trans hsW hs3') (keepP _).size, hSl⟩, hl4, hk4⟩⟩
      | ret =>
        obtain ⟨hs3, hk3, hi3⟩ := hp
        obtain ⟨hr, hl3, hl4, hk4⟩ := fin (some .ret) W3 hk3
        have hs3' : W.heap.size ≤ W3.heap.size := Nat.le_trans (Nat.le_trans hbW'.size hkp.size) hs3
        exact ⟨_, _, hr, both _ (Nat.le_trans hkp.size hs3) hk3, .inr ⟨rfl, .ret, ⟨hIx S S _ _ _ _ hi3 (fun _ h => h) (fun _ h => .inl h) hSl (Nat.le_trans hsW hs3') ((keepP _).mono fun k hk => ⟨hk.1, hk.2.1⟩), Nat.le_trans (Nat.le_trans hsW hs3') (keepP _).size, hSl⟩, hl4, hk4⟩⟩
      | exit id =>
        obtain ⟨hs3, hk3, hi3⟩ := hp
        obtain ⟨hr, hl3, hl4, hk4⟩ := fin (some (.exit id)) W3 hk3
        have hs3' : W.heap.size ≤ W3.heap.size := Nat.le_trans (Nat.le_trans hbW'.size hkp.size) hs3
        exact ⟨_, _, hr, both _ (Nat.le_trans hkp.size hs3) hk3, .inr ⟨rfl, .exit id, ⟨hIx S S _ _ _ _ hi3 (fun _ h => h) (fun _ h => .inl h) hSl (Nat.le_trans hsW hs3') ((keepP _).mono fun k hk => ⟨hk.1, hk.2.1⟩), Nat.le_trans (Nat.le_trans hsW hs3') (keepP _).size, hSl⟩, hl4, hk4⟩⟩
      | goto t =>
        obtain ⟨hs3, hk3, hi3⟩ := hp
        obtain ⟨hr, hl3, hl4, hk4⟩ := fin (some (.goto t)) W3 hk3
        have hs3' : W.heap.size ≤ W3.heap.size := Nat.le_trans (Nat.le_trans hbW'.size hkp.size) hs3
        exact ⟨_, _, hr, both _ (Nat.le_trans hkp.size hs3) hk3, .inr ⟨rfl, .goto t, ⟨hIx S S _ _ _ _ hi3 (fun _ h => h) (fun _ h => .inl h) hSl (Nat.le_trans hsW hs3') ((keepP _).mono fun k hk => ⟨hk.1, hk.2.1⟩), Nat.le_trans (Nat.le_trans hsW hs3') (keepP _).size, hSl⟩, hl4, hk4⟩⟩
      | panic ch => exact hp.elim
      | outgrown => exact hp.elim
    · exact ⟨⟨h0 W1 (Keep.of_below hbw |>.mono fun k _ => trivial) (by omega), by omega, fun k h => h.elim⟩, hL1, hK1⟩
    · rintro e W2 ⟨⟨v, rfl⟩, (⟨S, hSw, ⟨hi, hs2, hSl⟩, hl, hk⟩ | ⟨S, pre, hSp, c, ⟨hi, hs2, hSl⟩, hl, hk⟩)⟩
      · refine ⟨none, _, by have := run_endLoop (P := P) hl (by rw [hrec]; simp); rw [hrec] at this; exact this, hdone S _ (Nat.le_trans hs2 (Keep.put W2 _ _).size) (fun k h => ⟨hSl k h, Nat.lt_of_lt_of_le (hSw k h).2 (Keep.put W2 _ _).size⟩) (hI S S _ _ _ hi (fun _ h => h) (fun _ h => .inl h) hSl hs2 ((Keep.put W2 _ _).mono fun k hk => hk.2.1)) ((World.putObj_heap_other (by omega)).trans hk)⟩
      · refine ⟨some c, _, by have := run_endLoop (P := P) hl (by rw [hrec]; simp); rw [hrec] at this; exact this, hstop S c pre _ hSp hSl (hIx S S _ _ _ _ hi (fun _ h => h) (fun _ h => .inl h) hSl hs2 ((Keep.put W2 _ _).mono fun k hk => hk.2.1)) ((World.putObj_heap_other (by omega)).trans hk)⟩
end Go.Proofs.YtkmjeegnijohmaaGreat

namespace Go.Proofs.YtkmjeegnijohmaaGreat
open Go.RowKit
set_option linter.unusedVariables false

theorem OptV.mono {w : World} {lo lo' : Nat} {S S' : Nat → Prop} {o : Option (List Int)} {v : Value} (h : OptV w lo S o v) (hl : lo' ≤ lo) (hS : ∀ b, lo ≤ b → S b → S' b) : OptV w lo' S' o v := by
  rcases h with h | ⟨x, b, cap, h1, h2, h3, h4, h5⟩
  · exact .inl h
  · exact .inr ⟨x, b, cap, h1, h2, Nat.le_trans hl h3, hS b h3 h4, h5⟩
theorem clone_opt {w : World} {lo : Nat} {S : Nat → Prop} {o : Option (List Int)} {v : Value} (h : OptV w lo S o v) (hm : ∀ x, o = some x → x.length ≤ 1000) :
    Calls Tryz.prog 63 #[v] w fun e w' => ∃ u, e = .returned u ∧ OptV w' w.heap.size (fun _ => True) o u ∧ Below w.heap.size w w' := by
  rcases h with ⟨rfl, rfl⟩ | ⟨x, b, cap, rfl, rfl, h1, h2, h3, h4, h5⟩
  · have heq := fun (w : World) (a : Option Addr) (n c : Nat) => Lib.run_eql_slice_nil (P := Tryz.prog) w 33 3 a n c 0 0 Tryz.underlying33
    clear hm
    go_enter Tryz.func63, Tryz.ntmps63
    go_wp2
    go_ret
    exact ⟨_, rfl, .inl ⟨rfl, rfl⟩, Below.refl _ _⟩
  · have hx := hm x rfl
    refine (clone_c w (some ⟨b, 0, none⟩) x.length cap x rfl (by omega) h3.ints).mono ?_
    rintro e w' ⟨u, rfl, ho, hb⟩
    obtain ⟨g, c, rfl, hg, hs⟩ := spRow_own ho rfl (by omega)
    exact ⟨_, rfl, .inr ⟨x, g, c, rfl, rfl, hg, trivial, hs, h4, h5⟩, hb⟩

theorem range_pre {m n : Nat} (h : m ≤ n) : List.range m <+: List.range n := by
  obtain ⟨d, rfl⟩ : ∃ d, n = m + d := ⟨n - m, by omega⟩
  rw [List.range_add]
  exact List.prefix_append _ _
def DecV (M : Mask) (k : Int) (fs : List Frm) (lo : Nat) (S : Nat → Prop) (j : Nat) (v u : Value) (W : World) : Prop :=
  v = .int .i64 j ∧ OptV W lo (fun b => ¬ S b) (decAt M k fs (j + 1)) u
structure DecI (w0 W : World) (fp : Nat → Prop) (J : (Nat → Prop) → List Nat → World → Prop) (M : Mask) (k : Int) (fs : List Frm) (t : Nat) (S : Nat → Prop) (nv : Value) (X : World) : Prop where
  j : J S (List.range t) X
  s : ∀ q, S q → W.heap.size ≤ q ∧ q < X.heap.size
  f : ∀ q, fp q → X.heap[q]? = w0.heap[q]?
  z : W.heap.size ≤ X.heap.size
  o : OptV X W.heap.size S (decAt M k fs t) nv

theorem decAt_ok {M : Mask} {k : Int} {fs : List Frm} (hv : ∀ f ∈ fs, frB M f = true) : ∀ t, okO M (decAt M k fs t)
  | 0 => fun x h => by cases h
  | t + 1 => by
    unfold decAt
    refine nextF_ok ?_
    rcases Nat.lt_or_ge t fs.length with h | h
    · rw [List.getElem?_eq_getElem h]; exact hv _ (List.getElem_mem h)
    · rw [List.getElem?_eq_none h]; unfold frB; simp

set_option maxRecDepth 100000 in
set_option maxHeartbeats 1000000 in
theorem dec_iter (w0 : World) (fp : Nat → Prop) (fb mb kb : Nat) (a a2 : Option Addr) (n cap n2 cap2 : Nat) (M : Mask) (fs : List Frm) (k : Int) (hn : M.length = n) (hM : okM M = true) (hn2 : fs.length = n2) (hm2 : n2 ≤ 1000) (hv : ∀ f ∈ fs, frB M f = true)
    (hfp : ∀ q, fp q → q < w0.heap.size)
    (hR : ∀ X : World, w0.heap.size ≤ X.heap.size → (∀ q, fp q → X.heap[q]? = w0.heap[q]?) → (RowsAt X a M ∧ FramesAt X a2 fs) ∧ X.cell? ⟨fb, 0, none⟩ = some (.slice a2 n2 cap2) ∧ X.cell? ⟨mb, 0, none⟩ = some (.slice a n cap) ∧ X.cell? ⟨kb, 0, none⟩ = some (.int .i64 k)) :
    IterP Tryz.prog 61 #[.pointer (some ⟨fb, 0, none⟩), .pointer (some ⟨mb, 0, none⟩), .pointer (some ⟨kb, 0, none⟩)] (DecV M k fs) (List.range n2) fp w0 := by
  intro l J Jx W hb hJx hJ hY h0
  have HJ := hid hJ
  have HY := hid hY
  have H0 := hid h0
  have HR := hid hR
  have HFP := hid hfp
  have HB := hid hb
  have HN2 := hid hn2
  have HOK := hid (fun t => decAt_ok (M := M) (k := k) (fs := fs) hv t)
  have HVF := hid (fun (t : Nat) (ht : t < fs.length) => hv _ (List.getElem_mem ht))
  have HNX := hid (fun (X : World) (ra : Option Addr) (rn rc : Nat) (kf : Bool) (x : List Int) (o : Option (List Int)) (nv : Value) (S : Nat → Prop) (hrn : x.length = rn) (hrm : rn ≤ maxLen) (hX : RowsAt X a M) (hri : IntsAt X ra x) (hf : frB M (kf, x) = true) (ho : OptV X W.heap.size S o nv) (hoo : okO M o) => next_c X a ra n cap rn rc M kf x o nv W.heap.size S k hn hM hrn hrm hX hri hf ho hoo)
  have hc10 : colsM M ≤ 10 := (okM_ok hM).2.2.2.2
  have HC10 := hid hc10
  obtain ⟨_, r2, r3, r4⟩ := hR W hb.size (fun q hq => hb.block q (hfp q hq))
  clear hJ hJx hY h0 hR hfp hb hn hM hn2 hv hc10
  refine callsIn_of_wp Tryz.func61 rfl trivial ?_ rfl
  simp only [Tryz.ntmps61, List.size_toArray, List.length_cons, List.length_nil, Nat.reduceAdd, Nat.reduceSub, Array.replicate_succ, Array.replicate_zero, List.push_toArray, List.append_toArray, List.nil_append, List.cons_append]
  gi_wp2
  clear r2 r3 r4
  gi_loopw [5, 10] (fun nv i wr => ∃ (t : Nat) (S : Nat → Prop), t ≤ n2 ∧ i = .int .i64 t ∧ DecI w0 W fp J M k fs t S nv wr) (fun _ i _ => n2 - (intOf i).toNat)
  case atStart => exact ⟨0, fun _ => False, Nat.zero_le _, rfl, H0.out, fun _ h => h.elim, fun q hq => HB.out.block q (HFP.out q hq), Nat.le_refl _, .inl ⟨rfl, rfl⟩⟩
  case round =>
    obtain ⟨t, S, ht, rfl, hI⟩ := hrel
    have hwX : w0.heap.size ≤ wr.heap.size := Nat.le_trans HB.out.size hI.z
    obtain ⟨⟨rR, rF⟩, r2, r3, r4⟩ := HR.out wr hwX hI.f
    by_cases hlt : t < n2
    · have hkl : t < fs.length := by rw [HN2.out]; exact hlt
      obtain ⟨pb, po, ya, yn, yc, rfl, hpb, hp0, hp1, hyn, hym, hyi⟩ := rF t hkl
      have hvf := HVF.out t hkl
      have hda : decAt M k fs (t + 1) = nextF M k (decAt M k fs t) fs[t] := by
        show nextF M k (decAt M k fs t) (fs[t]?.getD (false, [])) = _
        rw [List.getElem?_eq_getElem hkl]; rfl
      obtain ⟨⟨kf, x⟩, hr⟩ : ∃ r, r = fs[t]'hkl := ⟨_, rfl⟩
      rw [← hr] at hp0 hyn hyi hvf hda
      simp only [] at hp0 hyn hyi
      obtain ⟨o1, ho1⟩ : ∃ o, o = Obj.cells #[.bool kf, .slice ya yn yc] 47 (0, 0) := ⟨_, rfl⟩
      have hba : Below wr.heap.size wr (wr.alloc o1) := (Below.refl _ _).alloc (Nat.le_refl _) _
      have hfa : ∀ q, fp q → (wr.alloc o1).heap[q]? = w0.heap[q]? := fun q hq => (hba.block q (Nat.lt_of_lt_of_le (HFP.out q hq) hwX)).trans (hI.f q hq)
      obtain ⟨⟨sR, sF⟩, s2, s3, s4⟩ := HR.out (wr.alloc o1) (Nat.le_trans hwX hba.size) hfa
      have HNX2 := hid (HNX.out (wr.alloc o1) ya yn yc kf x _ _ _ hyn hym sR (hyi.below hba) hvf (hI.o.below hba) (HOK.out t))
      rw [← hda] at HNX2
      rw [ho1] at HNX2 s3 s4 hba
      have hti : (t : Int) < (n2 : Int) := by omega
      have hti0 : (0 : Int) ≤ (t : Int) := by omega
      have HBA := hid hba
      have HI := hid hI
      clear hwX rR rF r2 r3 r4 sR sF s2 hyn hym hyi hvf hda hr hfa ho1 hba hI hkl
      gi_wp2_with first
        | (refine ⟨trivial, rfl, ?_⟩; gi_at_call 62; refine (callsIn_wide.2 HNX2.out).mono ?_; rintro e w2 ⟨v2, rfl, ho2, hb2⟩; refine Stop.of ?_)
      refine Stop.go ?_
      have hB2 := chain HBA.out hb2
      have hok := HOK.out (t + 1)
      have HCL := hid (clone_opt (ho2.keep (S' := fun _ => True) (K := fun _ => True) (Keep.refl _ _) (fun _ _ _ _ => ⟨trivial, trivial⟩)) (fun x hx => by have := (pic_bnd (hok x hx)).1; have := HC10.out; omega))
      have HO2 := hid ho2
      have HB2 := hid hB2
      clear ho2 hb2 hB2 hok s3 s4 hp0 hp1
      gi_wp2_with first
        | (refine ⟨trivial, rfl, ?_⟩; gi_at_call 63; refine (callsIn_wide.2 HCL.out).mono ?_; rintro e w3 ⟨u3, rfl, ho3, hb3⟩; refine Stop.of ?_)
      refine Stop.go ?_
      obtain ⟨S', hS'⟩ : ∃ S' : Nat → Prop, S' = fun q => S q ∨ v2.ownBlock = some q := ⟨_, rfl⟩
      have hB3 := chain HB2.out hb3
      have hvb : ∀ q, v2.ownBlock = some q → wr.heap.size ≤ q ∧ q < w2.heap.size := fun q hq => by
        rcases HO2.out with ⟨_, rfl⟩ | ⟨y, b, c, _, rfl, h1, _, h3, _⟩
        · simp [Value.ownBlock] at hq
        · obtain rfl : b = q := by simpa [Value.ownBlock] using hq
          exact ⟨Nat.le_trans (HBA.out.size) (by simpa using h1), h3.lt⟩
      have hSS : ∀ q, S q → S' q := fun q h => by rw [hS']; exact .inl h
      have hSN : ∀ q, S' q → S q ∨ wr.heap.size ≤ q := fun q h => by
        rw [hS'] at h
        rcases h with h | h
        · exact .inl h
        · exact .inr (hvb q h).1
      have hSb : ∀ q, S' q → W.heap.size ≤ q ∧ q < w2.heap.size := fun q h => by
        rw [hS'] at h
        rcases h with h | h
        · have h1 := HI.out.s q h; have := HB2.out.size; exact ⟨h1.1, by omega⟩
        · have h1 := hvb q h; have := HI.out.z; exact ⟨by omega, h1.2⟩
      have hJ3 : J S' (List.range t) w3 := HJ.out _ _ _ _ _ HI.out.j hSS hSN (Keep.of_below hB3)
      have hpre : List.range t ++ [t] <+: List.range n2 := by
        rw [← List.range_succ]
        exact range_pre (by omega)
      have hW2 : W.heap.size ≤ w2.heap.size := Nat.le_trans HI.out.z HB2.out.size
      have hV3 : DecV M k fs W.heap.size S' t (.int .i64 t) u3 w3 := ⟨rfl, ho3.mono hW2 (fun b h1 _ h => by have := (hSb b h).2; omega)⟩
      have hyk := HY.out S' (List.range t) t (.int .i64 t) u3 w3 hpre (fun q hq => ⟨(hSb q hq).1, Nat.lt_of_lt_of_le (hSb q hq).2 hb3.size⟩) (Nat.le_trans hW2 hb3.size) hJ3 hV3
      have HSB := hid hSb
      have HSS := hid hSS
      have HPRE := hid hpre
      have HB3 := hid hB3
      have HB23 := hid hb3
      have HVS := hid (show ∀ q, v2.ownBlock = some q → S' q from fun q h => by rw [hS']; exact .inr h)
      have HW2 := hid hW2
      clear hS' hvb hSS hSN hSb hJ3 hpre hV3 ho3 hb3 hB3 hW2
      obtain ⟨fn, tmps, assign, body, hy, hR⟩ := hyk
      gi_wp2
      refine ⟨rfl, hR.mono ?_⟩
      clear hR hy
      rintro e W3 ⟨⟨hs3, hk3⟩, ⟨rfl, hJ3⟩ | ⟨rfl, hJx⟩⟩
      · have hw3W : w2.heap.size ≤ W3.heap.size := Nat.le_trans HB23.out.size hs3
        have hIn : DecI w0 W fp J M k fs (t + 1) S' v2 W3 := by
          refine ⟨by rw [List.range_succ]; exact hJ3, fun q hq => ⟨(HSB.out q hq).1, Nat.lt_of_lt_of_le (HSB.out q hq).2 hw3W⟩, fun q hq => ?_, Nat.le_trans HW2.out hw3W, ?_⟩
          · refine (hk3 q (.inl hq)).trans ((HB3.out.block q ?_).trans (HI.out.f q hq))
            have := HFP.out q hq
            have := HB.out.size
            have := HI.out.z
            omega
          · rcases HO2.out with h | ⟨y, b, c, h1, rfl, h3, h4, h5, h6⟩
            · exact .inl h
            · have hbb : S' b := HVS.out b rfl
              exact .inr ⟨y, b, c, h1, rfl, (HSB.out b hbb).1, hbb, h5.keep ((hk3 b (.inr hbb)).trans (HB23.out.block b h5.lt)), h6⟩
        have HIN := hid hIn
        clear hIn hJ3 hk3
        gi_wp2
        refine ⟨⟨t + 1, S', by omega, by go_num, HIN.out⟩, by simp [intOf]; omega⟩
      · gi_wp2
        refine bodyPost_ret (results_none rfl _ _ _) rfl ?_
        exact ⟨⟨_, rfl⟩, .inr ⟨S', _, HPRE.out, hJx⟩⟩
    · obtain rfl : n2 = t := by omega
      have HI := hid hI
      have hlt' : decide ((n2 : Int) < (n2 : Int)) = false := by simp
      clear hI rR rF r2 r3 r4
      gi_wp2
      refine bodyPost_end (results_none rfl _ _ _) rfl ?_
      exact ⟨⟨_, rfl⟩, .inl ⟨S, HI.out.s, HI.out.j⟩⟩
end Go.Proofs.YtkmjeegnijohmaaGreat

namespace Go.Proofs.YtkmjeegnijohmaaGreat
open Go.RowKit
set_option linter.unusedVariables false
attribute [local go_sem] Oper.semAt_some

theorem equalI_c (w : World) (a a2 : Option Addr) (n cap n2 cap2 : Nat) (l l2 : List Int) (hn : l.length = n) (hn2 : l2.length = n2) (hm : n ≤ maxLen) (hm2 : n2 ≤ maxLen) (H : IntsAt w a l) (H2 : IntsAt w a2 l2) :
    Calls Tryz.prog 56 #[.slice a n cap, .slice a2 n2 cap2] w fun e w' => e = .returned (.bool (decide (l = l2))) ∧ ∃ k, w' = w.drewN k := by
  have HN := hid hn
  have HN2 := hid hn2
  have HH := hid H
  have HH2 := hid H2
  clear hn hn2 H H2
  unfold maxLen at hm hm2
  by_cases hl : n = n2
  · have hd : ((n : Int) != (n2 : Int)) = false := by simp [hl]
    have HL := hid hl
    clear hl
    go_enter Tryz.func56, Tryz.ntmps56
    go_wp2
    go_loopw [13] (fun i wr => ∃ k : Nat, k ≤ n ∧ i = .int .i64 k ∧ (∃ q, wr = w.drewN q) ∧ ∀ j (hj : j < l.length) (hj2 : j < l2.length), j < k → l[j] = l2[j]) (fun i _ => n - (intOf i).toNat)
    case atStart => exact ⟨0, Nat.zero_le _, rfl, ⟨0, rfl⟩, fun i _ _ h => by omega⟩
    case round =>
      obtain ⟨k, hk, rfl, ⟨q, rfl⟩, hno⟩ := hrel
      have HNO := hid hno
      clear hno
      by_cases hlt : k < n
      · have hkl : k < l.length := by rw [HN.out]; exact hlt
        have hkl2 : k < l2.length := by rw [HN2.out, ← HL.out]; exact hlt
        obtain ⟨b, off, rfl, hbs, hc⟩ := HH.out k hkl
        obtain ⟨b2, off2, rfl, hbs2, hc2⟩ := HH2.out k hkl2
        have hg : l[k]?.getD 0 = l[k] := by rw [List.getElem?_eq_getElem hkl]; rfl
        have hg2 : l2[k]?.getD 0 = l2[k] := by rw [List.getElem?_eq_getElem hkl2]; rfl
        rw [hg] at hc
        rw [hg2] at hc2
        have hlt2 : k < n2 := by have := HL.out; omega
        have HKL := hid hkl
        have HKL2 := hid hkl2
        clear hg hg2
        by_cases he : l[k] = l2[k]
        · have hb : (l[k] != l2[k]) = false := by simp [he]
          have HE := hid he
          clear he
          go_wp2
          go_quiet (fail)
          go_wp2
          refine ⟨⟨k + 1, by omega, by go_num, ⟨_, rfl⟩, fun j hj hj2 hjk => ?_⟩, by simp [intOf]; omega⟩
          by_cases e : j = k
          · subst e; exact HE.out
          · exact HNO.out j hj hj2 (by omega)
        · have hb : (l[k] != l2[k]) = true := by simp [he]
          have HE := hid he
          clear he
          go_wp2
          go_quiet (fail)
          go_wp2
          go_ret
          refine ⟨ret_bool ?_, q + nq, drewN_add _ _ _⟩
          symm
          rw [decide_eq_false_iff_not]
          rintro rfl
          exact HE.out rfl
      · go_wp2
        go_ret
        refine ⟨ret_bool ?_, _, rfl⟩
        symm
        rw [decide_eq_true_iff]
        have h1 := HN.out
        have h2 := HN2.out
        have h3 := HL.out
        exact List.ext_getElem (by omega) fun i g1 g2 => HNO.out i g1 g2 (by omega)
  · have hd : ((n : Int) != (n2 : Int)) = true := by simp; omega
    have HL := hid hl
    clear hl
    go_enter Tryz.func56, Tryz.ntmps56
    go_wp2
    go_ret
    refine ⟨ret_bool ?_, 0, rfl⟩
    symm
    rw [decide_eq_false_iff_not]
    rintro rfl
    exact HL.out (HN.out.symm.trans HN2.out)

theorem box_cell {W : World} {rb i : Nat} {T : TypeId} {c : Bool} {u : Value} (h : Boxed W rb T (.bool c)) (hc : W.cell? ⟨rb, i, none⟩ = some u) : ∃ c', u = .bool c' := by
  unfold Boxed at h
  simp only [World.cell?, h] at hc
  match i, hc with
  | 0, hc => simp at hc; exact ⟨c, hc.symm⟩
  | i + 1, hc => simp at hc
theorem FramesAt.ex {W W' : World} {a : Option Addr} {fs : List Frm} {rb : Nat} {T : TypeId} {c : Bool} (h : FramesAt W a fs) (hb : Boxed W rb T (.bool c)) (hk : ∀ q, q < W.heap.size → q ≠ rb → W'.heap[q]? = W.heap[q]?) : FramesAt W' a fs := by
  intro j hj
  obtain ⟨b, off, ra, n, cap, e, hlt, h0, h1, hn, hm, hi⟩ := h j hj
  have hne : b ≠ rb := fun e => by subst e; obtain ⟨c', h⟩ := box_cell hb h1; cases h
  refine ⟨b, off, ra, n, cap, e, lt_blk hlt (hk b hlt hne), cell_blk h0 (hk b hlt hne), cell_blk h1 (hk b hlt hne), hn, hm, fun i hi' => ?_⟩
  obtain ⟨b2, off2, e2, hlt2, hc⟩ := hi i hi'
  have hne2 : b2 ≠ rb := fun e => by subst e; obtain ⟨c', h⟩ := box_cell hb hc; cases h
  exact ⟨b2, off2, e2, lt_blk hlt2 (hk b2 hlt2 hne2), cell_blk hc (hk b2 hlt2 hne2)⟩
theorem DecV.keep {M : Mask} {k : Int} {fs : List Frm} {lo : Nat} {S : Nat → Prop} {j : Nat} {v u : Value} {A B : World} {T : Nat → Prop} (h : DecV M k fs lo S j v u A) (hk : Keep T A B) (hT : ∀ q, lo ≤ q → T q) : DecV M k fs lo S j v u B :=
  ⟨h.1, h.2.keep hk fun b h1 _ h2 => ⟨hT b h1, h2⟩⟩

theorem decoded_c (w : World) (a a2 : Option Addr) (n cap n2 cap2 : Nat) (k : Int) :
    Calls Tryz.prog 40 #[.slice a n cap, .slice a2 n2 cap2, .int .i64 k] w fun e w' => e = .returned (.func (.func 61) #[] #[.pointer (some ⟨w.heap.size + 1, 0, none⟩), .pointer (some ⟨w.heap.size, 0, none⟩), .pointer (some ⟨w.heap.size + 2, 0, none⟩)]) ∧
      w' = ((w.alloc (.cells #[.slice a n cap] 23)).alloc (.cells #[.slice a2 n2 cap2] 37)).alloc (.cells #[.int .i64 k] 3) := by
  have hmf : ∀ (fn : Fn) (first cap : Array Value) (w : World), (Instr.makeFunc fn first cap).run Tryz.prog w = .ok (.func fn first cap) w := fun _ _ _ _ => rfl
  go_enter Tryz.func40, Tryz.ntmps40
  go_wp2
  go_ret
  exact ⟨by simp, rfl⟩

set_option maxRecDepth 100000 in
set_option maxHeartbeats 1000000 in
theorem right_c (w : World) (a a2 : Option Addr) (n cap n2 cap2 : Nat) (M : Mask) (p : List (List Int)) (E : Nat) (k : Int) (hn : M.length = n) (hn2 : p.length = n2) (hm : n ≤ maxLen) (hm2 : n2 ≤ maxLen) (H : RowsAt w a M) (H2 : RowsAt w a2 p) (hP : picsB M p = true) (hE : 1 ≤ E) (hE2 : E ≤ 60) :
    Calls Tryz.prog 33 #[.slice a n cap, .slice a2 n2 cap2, .int .i64 E, .int .i64 k] w fun e w' => e = .returned (.bool (rightF M p E k)) ∧ Below w.heap.size w w' := by
  have heq := fun (w : World) (a : Option Addr) (n c : Nat) => Lib.run_eql_slice_nil (P := Tryz.prog) w 33 3 a n c 0 0 Tryz.underlying33
  obtain ⟨hM, hp1, hp60, hpp⟩ := picsB_ok hP
  obtain ⟨wz, hz⟩ : ∃ wz, wz = (w.alloc (.cells #[.slice a2 n2 cap2] 22)).alloc (.cells #[.bool false] 4) := ⟨_, rfl⟩
  have hbz : Below w.heap.size w wz := by rw [hz]; exact ((Below.refl _ _).alloc (Nat.le_refl _) _).alloc (by simp) _
  have b1 : Boxed wz w.heap.size 22 (.slice a2 n2 cap2) := by rw [hz]; exact (Boxed.new w _ _).alloc _
  have b2 : Boxed wz (w.heap.size + 1) 4 (.bool false) := by rw [hz]; have := Boxed.new (w.alloc (.cells #[.slice a2 n2 cap2] 22)) 4 (.bool false); simpa using this
  have hsz : wz.heap.size = w.heap.size + 2 := by rw [hz]; simp
  have HZ := hid hz
  have HEN := hid (encode_c wz a a2 n cap n2 cap2 M p E hn hn2 hm (H.below hbz) (H2.below hbz) hP hE hE2)
  have HH := hid H
  have HH2 := hid H2
  have HB := hid hbz
  have B1 := hid b1
  have B2 := hid b2
  have HSZ := hid hsz
  have HPO := hid hP
  have HN2 := hid hn2
  have HN := hid hn
  have hc1 := b1.cell
  have hn60 : n2 ≤ 60 := by rw [← hn2]; exact hp60
  clear hn hn2 hm H H2 hP hpp hbz b1 b2 hz hsz
  refine callsIn_wide (n := 0) |>.1 ?_
  refine callsIn_of_wp_marks Tryz.func33 rfl trivial ?_ rfl
  simp only [Tryz.ntmps33, List.size_toArray, List.length_cons, List.length_nil, Nat.reduceAdd, Nat.reduceSub, Array.replicate_succ, Array.replicate_zero, List.push_toArray, List.append_toArray, List.nil_append, List.cons_append]
  gi_wp2_with fail
  rw [← HZ.out]
  gi_wp2_with (refine ⟨trivial, rfl, ?_⟩; gi_at_call 51; refine (callsIn_wide.2 HEN.out).mono ?_; rintro e w1 ⟨v1, rfl, ho1, hb1⟩; refine Stop.of ?_)
  refine Stop.go ?_
  obtain ⟨fa, fc, rfl, hfm, hfr⟩ := ho1.reads
  have HFR := hid hfr
  have HB1 := hid hb1
  clear ho1 hb1 hfr HEN
  gi_wp2_with (refine ⟨trivial, rfl, ?_⟩; gi_at_call 40; refine (callsIn_wide.2 (decoded_c _ _ _ _ _ _ _ _)).mono ?_; rintro e w' ⟨rfl, rfl⟩; refine Stop.of ?_)
  refine Stop.go ?_
  obtain ⟨F, hF⟩ : ∃ F, F = encF M p E := ⟨_, rfl⟩
  have hFl : (encF M p E).length = n2 := by rw [encF_len, HN2.out]
  have HVF := hid (show ∀ f ∈ F, frB M f = true from by
    have := encF_valid HPO.out E
    unfold validB at this
    simp only [Bool.and_eq_true, List.all_eq_true] at this
    rw [hF]; exact this.2)
  have hRF : rightF M p E k = (List.range n2).all fun j => decide (decAt M k F (j + 1) = some (p[j]?.getD [])) := by unfold rightF; rw [hF, HN2.out]
  rw [hFl]
  rw [← hF] at HFR hFl
  obtain ⟨w3, hw3⟩ : ∃ w3, w3 = ((w1.alloc (.cells #[.slice a n cap] 23)).alloc (.cells #[.slice fa n2 fc] 37)).alloc (.cells #[.int .i64 k] 3) := ⟨_, rfl⟩
  have c1 : Boxed w3 w1.heap.size 23 (.slice a n cap) := by rw [hw3]; exact ((Boxed.new w1 _ _).alloc _).alloc _
  have c2 : Boxed w3 (w1.heap.size + 1) 37 (.slice fa n2 fc) := by rw [hw3]; have := (Boxed.new (w1.alloc (.cells #[.slice a n cap] 23)) 37 (.slice fa n2 fc)).alloc (.cells #[.int .i64 k] 3); simpa using this
  have c3 : Boxed w3 (w1.heap.size + 2) 3 (.int .i64 k) := by rw [hw3]; have := Boxed.new ((w1.alloc (.cells #[.slice a n cap] 23)).alloc (.cells #[.slice fa n2 fc] 37)) 3 (.int .i64 k); simpa using this
  have hs3 : w3.heap.size = w1.heap.size + 3 := by rw [hw3]; simp
  have hb3 : Below w1.heap.size w1 w3 := by rw [hw3]; exact (((Below.refl _ _).alloc (Nat.le_refl _) _).alloc (by simp) _).alloc (by simp; omega) _
  rw [← hw3]
  have hzs := HSZ.out
  have h1s := HB1.out.size
  have hbx : Boxed w1 (w.heap.size + 1) 4 (.bool false) := (HB1.out.block _ (by omega)).trans B2.out
  have hbx3 : Boxed w3 (w.heap.size + 1) 4 (.bool false) := (hb3.block _ (by omega)).trans hbx
  have hpx3 : Boxed w3 w.heap.size 22 (.slice a2 n2 cap2) := (hb3.block _ (by omega)).trans ((HB1.out.block _ (by omega)).trans B1.out)
  have hB3 : Below w.heap.size w w3 := chain (chain HB.out HB1.out) hb3
  obtain ⟨fp, hfp⟩ : ∃ fp : Nat → Prop, fp = fun q => q < w3.heap.size ∧ q ≠ w.heap.size + 1 := ⟨_, rfl⟩
  have HIT := hid (dec_iter w3 fp (w1.heap.size + 1) w1.heap.size (w1.heap.size + 2) a fa n cap n2 fc M F k HN.out hM hFl (by omega) HVF.out (by rw [hfp]; exact fun q h => h.1)
    (fun X hX hq => by
      rw [hfp] at hq
      refine ⟨⟨RowsAt.blk HH.out fun q hlt => (hq q ⟨by omega, by omega⟩).trans (hB3.block q hlt), ?_⟩, cell_blk c2.cell (hq _ ⟨by omega, by omega⟩), cell_blk c1.cell (hq _ ⟨by omega, by omega⟩), cell_blk c3.cell (hq _ ⟨by omega, by omega⟩)⟩
      exact (FramesAt.ex HFR.out hbx fun q hlt hne => (hq q ⟨by omega, hne⟩).trans (hb3.block q hlt))))
  have HFP := hid hfp
  have HBX3 := hid hbx3
  have HPX3 := hid hpx3
  have HB3 := hid hB3
  have HS3 := hid hs3
  have HRF := hid hRF
  clear hfp hbx hbx3 hpx3 hB3 hs3 hRF hFl hF c1 c2 c3 hw3 hb3 hc1 HFR
  gi_wp2
  refine range_p (gf := 61) (lb := #[.pointer (some ⟨w1.heap.size + 1, 0, none⟩), .pointer (some ⟨w1.heap.size, 0, none⟩), .pointer (some ⟨w1.heap.size + 2, 0, none⟩)]) (xs := List.range n2) (fp := fp) (V := DecV M k F) rfl (enters_of Tryz.func61 (by kernel_rfl) rfl)
    HIT.out (Below.refl _ _) (by rw [HFP.out]; exact fun q h => h.1)
    (fun Sr pre Z => Keep (fun q => q < w3.heap.size) w3 Z ∧ ∀ j ∈ pre, decAt M k F (j + 1) = some (p[j]?.getD []))
    (fun Sr c pre Z => c = .ret ∧ Keep (fun q => q < w3.heap.size ∧ q ≠ w.heap.size + 1) w3 Z ∧ Boxed Z (w.heap.size + 1) 4 (.bool false) ∧ rightF M p E k = false) ?hI ?hIx ?hV ?h0
    (fun v u a' Z => a' = { tmps := #[.slice a n cap, .slice a2 n2 cap2, .int .i64 E, .int .i64 k, undef, .pointer (some ⟨w.heap.size, 0, none⟩), undef, undef, .pointer (some ⟨w.heap.size + 1, 0, none⟩), v, u, .slice a n cap, .slice a n cap, .slice a2 n2 cap2, .int .i64 E, .slice fa n2 fc, .int .i64 k, .func (.func 61) #[] #[.pointer (some ⟨w1.heap.size + 1, 0, none⟩), .pointer (some ⟨w1.heap.size, 0, none⟩), .pointer (some ⟨w1.heap.size + 2, 0, none⟩)], v, u, undef, undef, undef, undef, undef, undef, undef, undef, undef, undef, undef], defers := [] }) ?hAx ?hassign ?hbody ?hdone ?hstop
  case hI =>
    rintro Sr Sr' s A B ⟨h1, h2⟩ _ _ h3 h4 hk
    exact ⟨h1.trans (hk.mono fun q hq => ⟨by omega, by omega, fun hs => by have := h3 q hs; omega⟩), h2⟩
  case hIx =>
    rintro Sr Sr' c s A B ⟨h1, h2, h5, h6⟩ _ _ h3 h4 hk
    have hs := HS3.out
    exact ⟨h1, h2.trans (hk.mono fun q hq => ⟨by omega, by omega, fun hs => by have := h3 q hs; omega⟩), (hk.block _ h5.lt ⟨by omega, by omega, fun hs => by have := h3 _ hs; omega⟩).trans h5, h6⟩
  case hV =>
    intro Sr x v u A B hv hk
    exact hv.keep hk (fun q hq => ⟨by omega, by omega⟩)
  case h0 =>
    intro Z hk hZ
    exact ⟨hk, fun j hj => by simp at hj⟩
  case hAx =>
    intro v u a' A B h _
    exact h
  case hassign =>
    rintro l Sr x v u Z K hZ hv hK
    gi_wp2
    exact hK _ _ (Below.refl _ _) rfl
  case hbody =>
    rintro l' Sr pre j _ u _ Z hpre hSr ⟨hk, hg⟩ ⟨rfl, ho⟩ rfl hZ hDo hLo
    have hj : j < n2 := List.mem_range.1 (hpre.subset (List.mem_append_right _ (List.mem_singleton.2 rfl)))
    have hs3 := HS3.out
    have hks : ∀ q, q < w.heap.size → Z.heap[q]? = w.heap[q]? := fun q hq => (hk.block q (by omega) (by show q < w3.heap.size; omega)).trans (HB3.out.block q hq)
    obtain ⟨pb, po, ya, yn, yc, rfl, hpb, hpc, hyn, hym, hyi⟩ := (RowsAt.blk HH2.out hks) j (by rw [HN2.out]; exact hj)
    have hbc := (show Boxed Z w.heap.size 22 (.slice (some ⟨pb, po, none⟩) n2 cap2) from (hk.block _ HPX3.out.lt (by show w.heap.size < w3.heap.size; omega)).trans HPX3.out).cell
    have hrb : Boxed Z (w.heap.size + 1) 4 (.bool false) := (hk.block _ HBX3.out.lt (by show w.heap.size + 1 < w3.heap.size; omega)).trans HBX3.out
    have hyv : p[j]?.getD [] = p[j]'(by rw [HN2.out]; exact hj) := by rw [List.getElem?_eq_getElem (by rw [HN2.out]; exact hj)]; rfl
    obtain ⟨y, hy⟩ : ∃ y, y = p[j]'(by rw [HN2.out]; exact hj) := ⟨_, rfl⟩
    rw [← hy] at hyn hyi hyv
    have hrc := hrb.cell
    have hrf := hrb.frozen
    have hrl := hrb.lt
    have HBAD := hid (show decAt M k F (j + 1) ≠ some y → rightF M p E k = false from fun h => by
      rw [HRF.out, List.all_eq_false]
      exact ⟨j, List.mem_range.2 hj, by rw [hyv]; simpa using h⟩)
    have HSET := hid (show ∀ X : World, Keep (fun _ => True) Z X → (Z.heap.size ≤ (X.setCell ⟨w.heap.size + 1, 0, none⟩ (.bool false)).heap.size ∧ (∀ q, (fp q ∨ q = w3.heap.size ∨ q = w3.heap.size + 1 ∨ Sr q) → (X.setCell ⟨w.heap.size + 1, 0, none⟩ (.bool false)).heap[q]? = Z.heap[q]?) ∧ Keep (fun q => q < w3.heap.size ∧ q ≠ w.heap.size + 1) w3 (X.setCell ⟨w.heap.size + 1, 0, none⟩ (.bool false)) ∧ Boxed (X.setCell ⟨w.heap.size + 1, 0, none⟩ (.bool false)) (w.heap.size + 1) 4 (.bool false)) from fun X hX => by
      have hst := Keep.set X (w.heap.size + 1) 0 (.bool false)
      refine ⟨Nat.le_trans hX.size hst.size, fun q hq => ?_, (hk.mono fun q h => h.1).trans ((hX.mono fun _ _ => trivial).trans (hst.mono fun q h => h.2)), Boxed.set _ ((hX.block _ hrl trivial).trans hrb)⟩
      have hq2 : q ≠ w.heap.size + 1 ∧ q < Z.heap.size := by
        rcases hq with h | h | h | h
        · rw [HFP.out] at h; exact ⟨h.2, by have := h.1; omega⟩
        · omega
        · omega
        · have := hSr q h; omega
      exact (hst.block q (Nat.lt_of_lt_of_le hq2.2 hX.size) hq2.1).trans (hX.block q hq2.2 trivial))
    have HG := hid hg
    have HK := hid hk
    have HSR := hid hSr
    have hj0 : (0 : Int) ≤ (j : Int) := by omega
    have hj1 : (j : Int) < (n2 : Int) := by omega
    rcases ho with ⟨hno, rfl⟩ | ⟨x, b, c, hx, rfl, hxb, hxS, hxs, hx1, hxm⟩
    · have hbad := HBAD.out (by rw [hno]; simp)
      have HBD := hid hbad
      clear hks hyn hym hyi hyv hy hno hbad hg hk hrb hSr hpb hDo hLo
      gi_wp2
      refine ⟨trivial, ?_⟩
      gi_wp2
      obtain ⟨s1, s2, s3, s4⟩ := HSET.out Z (Keep.refl _ _)
      exact ⟨s1, s2, rfl, s3, s4, HBD.out⟩
    · have HEQ := hid (equalI_c Z (some ⟨b, 0, none⟩) ya x.length c yn yc x y rfl hyn hxm hym hxs.ints hyi)
      by_cases hxy : x = y
      · rw [decide_eq_true hxy] at HEQ
        have hgood : decAt M k F (j + 1) = some (p[j]?.getD []) := by rw [hx, hxy, hyv]
        have HGO := hid hgood
        clear hks hyn hym hyi hyv hy hgood hg hk hrb hSr hpb hDo hLo hx hxb hxS hxs hx1 hxm hxy
        gi_wp2_with (refine ⟨trivial, rfl, ?_⟩; gi_at_call 56; refine (CallsIn.inRound l' (callsIn_wide.2 HEQ.out)).mono ?_; rintro e w4 ⟨rfl, q4, rfl⟩)
        refine ⟨Nat.le_refl _, fun _ _ => rfl, HK.out.trans ((Keep.refl _ _).drewN _), fun i hi => ?_⟩
        rcases List.mem_append.1 hi with h | h
        · exact HG.out i h
        · rw [List.mem_singleton.1 h]; exact HGO.out
      · rw [decide_eq_false hxy] at HEQ
        have hbad := HBAD.out (by rw [hx]; intro h; cases h; exact hxy rfl)
        have HBD := hid hbad
        have hrcN : ∀ q, (Z.drewN q).cell? ⟨w.heap.size + 1, 0, none⟩ = some (.bool false) := fun q => hrc
        clear hks hyn hym hyi hyv hy hbad hg hk hrb hSr hpb hDo hLo hx hxb hxS hxs hx1 hxm hxy
        gi_wp2_with (refine ⟨trivial, rfl, ?_⟩; gi_at_call 56; refine (CallsIn.inRound l' (callsIn_wide.2 HEQ.out)).mono ?_; rintro e w4 ⟨rfl, q4, rfl⟩)
        obtain ⟨s1, s2, s3, s4⟩ := HSET.out (Z.drewN q4) ((Keep.refl _ _).drewN _)
        exact ⟨s1, s2, rfl, s3, s4, HBD.out⟩
  case hdone =>
    rintro Sr Z hZ hSr ⟨hk, hg⟩ hmk
    have hs3 := HS3.out
    have hrt : rightF M p E k = true := by
      rw [HRF.out, List.all_eq_true]
      intro j hj
      simpa using hg j hj
    have hrb : Boxed Z (w.heap.size + 1) 4 (.bool false) := (hk.block _ HBX3.out.lt (by show w.heap.size + 1 < w3.heap.size; omega)).trans HBX3.out
    have hrc := hrb.cell
    have hrf := hrb.frozen
    have hrl := hrb.lt
    have hbZ : Below w.heap.size w Z := hk.below HB3.out HB3.out.size (fun q hq => by show q < w3.heap.size; have := HB3.out.size; omega)
    have hset : Below w.heap.size w (Z.setCell ⟨w.heap.size + 1, 0, none⟩ (.bool true)) := below_set hbZ (by omega) _ _
    have hbs : Boxed (Z.setCell ⟨w.heap.size + 1, 0, none⟩ (.bool true)) (w.heap.size + 1) 4 (.bool true) := Boxed.set _ hrb
    have hmk2 : (Z.setCell ⟨w.heap.size + 1, 0, none⟩ (.bool true)).heap[w3.heap.size]? = some (.deferred (some [])) := (Below.heap_setCell _ _ _ _ (by show w3.heap.size ≠ w.heap.size + 1; omega)).trans hmk
    have HSET := hid hset
    have HBS := hid hbs
    have HMK := hid hmk2
    clear hg hk hmk hSr hrb hbZ hset hbs hmk2
    gi_wp2
    refine marks_leave [w3.heap.size] _ (by simp) (fun h hh => by rw [List.mem_singleton.1 hh]; exact HMK.out) fun w' hk' => ?_
    have hne : w.heap.size + 1 ∉ [w3.heap.size] := fun hh => by rw [List.mem_singleton] at hh; omega
    have hbw : Boxed w' (w.heap.size + 1) 4 (.bool true) := (hk'.block _ HBS.out.lt hne).trans HBS.out
    have hbc := hbw.cell
    have hfin : Below w.heap.size w w' := hk'.below HSET.out HSET.out.size (fun q hq hh => by rw [List.mem_singleton.1 hh] at hq; omega)
    refine ⟨.bool true, ?_, by rw [hrt], hfin⟩
    simp [results, Tryz.results33, go_sem, hbc]
  case hstop =>
    rintro Sr c pre Z hpre hSr ⟨rfl, hk, hbx, hR⟩ hmk
    have hs3 := HS3.out
    have hbZ : Below w.heap.size w Z := hk.below HB3.out HB3.out.size (fun q hq => by show q < w3.heap.size ∧ q ≠ w.heap.size + 1; have := HB3.out.size; omega)
    have HBX := hid hbx
    have HBZ := hid hbZ
    have HMK := hid hmk
    clear hk hbx hbZ hmk hSr hpre
    gi_wp2
    refine marks_leave [w3.heap.size] _ (by simp) (fun h hh => by rw [List.mem_singleton.1 hh]; exact HMK.out) fun w' hk' => ?_
    have hne : w.heap.size + 1 ∉ [w3.heap.size] := fun hh => by rw [List.mem_singleton] at hh; omega
    have hbw : Boxed w' (w.heap.size + 1) 4 (.bool false) := (hk'.block _ HBX.out.lt hne).trans HBX.out
    have hbc := hbw.cell
    have hfin : Below w.heap.size w w' := hk'.below HBZ.out HBZ.out.size (fun q hq hh => by rw [List.mem_singleton.1 hh] at hq; omega)
    refine ⟨.bool false, ?_, by rw [hR], hfin⟩
    simp [results, Tryz.results33, go_sem, hbc]
end Go.Proofs.YtkmjeegnijohmaaGreat

namespace Go.Proofs.YtkmjeegnijohmaaGreat
open Go.RowKit
set_option linter.unusedVariables false

theorem s8Ints_c (w : World) (a a2 : Option Addr) (n cap n2 cap2 : Nat) (l l2 : List Int) (hn : l.length = n) (hn2 : l2.length = n2) (hm : n ≤ maxLen) (hm2 : n2 ≤ maxLen) (H : IntsAt w a l) (H2 : IntsAt w a2 l2) :
    Calls Tryz.prog 22 #[.slice a n cap, .slice a2 n2 cap2] w fun e w' => e = .returned (.bool (decide (l = l2))) ∧ ∃ k, w' = w.drewN k := by
  have HN := hid hn
  have HN2 := hid hn2
  have HH := hid H
  have HH2 := hid H2
  clear hn hn2 H H2
  unfold maxLen at hm hm2
  by_cases hl : n = n2
  · have hd : ((n : Int) != (n2 : Int)) = false := by simp [hl]
    have HL := hid hl
    clear hl
    go_enter Tryz.func22, Tryz.ntmps22
    go_wp2
    go_loopw [13] (fun i wr => ∃ k : Nat, k ≤ n ∧ i = .int .i64 k ∧ (∃ q, wr = w.drewN q) ∧ ∀ j (hj : j < l.length) (hj2 : j < l2.length), j < k → l[j] = l2[j]) (fun i _ => n - (intOf i).toNat)
    case atStart => exact ⟨0, Nat.zero_le _, rfl, ⟨0, rfl⟩, fun i _ _ h => by omega⟩
    case round =>
      obtain ⟨k, hk, rfl, ⟨q, rfl⟩, hno⟩ := hrel
      have HNO := hid hno
      clear hno
      by_cases hlt : k < n
      · have hkl : k < l.length := by rw [HN.out]; exact hlt
        have hkl2 : k < l2.length := by rw [HN2.out, ← HL.out]; exact hlt
        obtain ⟨b, off, rfl, hbs, hc⟩ := HH.out k hkl
        obtain ⟨b2, off2, rfl, hbs2, hc2⟩ := HH2.out k hkl2
        have hg : l[k]?.getD 0 = l[k] := by rw [List.getElem?_eq_getElem hkl]; rfl
        have hg2 : l2[k]?.getD 0 = l2[k] := by rw [List.getElem?_eq_getElem hkl2]; rfl
        rw [hg] at hc
        rw [hg2] at hc2
        have hlt2 : k < n2 := by have := HL.out; omega
        have HKL := hid hkl
        have HKL2 := hid hkl2
        clear hg hg2
        by_cases he : l[k] = l2[k]
        · have hb : (l[k] != l2[k]) = false := by simp [he]
          have HE := hid he
          clear he
          go_wp2
          go_quiet (fail)
          go_wp2
          refine ⟨⟨k + 1, by omega, by go_num, ⟨_, rfl⟩, fun j hj hj2 hjk => ?_⟩, by simp [intOf]; omega⟩
          by_cases e : j = k
          · subst e; exact HE.out
          · exact HNO.out j hj hj2 (by omega)
        · have hb : (l[k] != l2[k]) = true := by simp [he]
          have HE := hid he
          clear he
          go_wp2
          go_quiet (fail)
          go_wp2
          go_ret
          refine ⟨ret_bool ?_, q + nq, drewN_add _ _ _⟩
          symm
          rw [decide_eq_false_iff_not]
          rintro rfl
          exact HE.out rfl
      · go_wp2
        go_ret
        refine ⟨ret_bool ?_, _, rfl⟩
        symm
        rw [decide_eq_true_iff]
        have h1 := HN.out
        have h2 := HN2.out
        have h3 := HL.out
        exact List.ext_getElem (by omega) fun i g1 g2 => HNO.out i g1 g2 (by omega)
  · have hd : ((n : Int) != (n2 : Int)) = true := by simp; omega
    have HL := hid hl
    clear hl
    go_enter Tryz.func22, Tryz.ntmps22
    go_wp2
    go_ret
    refine ⟨ret_bool ?_, 0, rfl⟩
    symm
    rw [decide_eq_false_iff_not]
    rintro rfl
    exact HL.out (HN.out.symm.trans HN2.out)

set_option maxHeartbeats 1000000 in
theorem s8Lists_c (w : World) (a a2 : Option Addr) (n cap n2 cap2 : Nat) (A B : Mask) (hn : A.length = n) (hn2 : B.length = n2) (hm : n ≤ maxLen) (hm2 : n2 ≤ maxLen) (H : RowsAt w a A) (H2 : RowsAt w a2 B) :
    Calls Tryz.prog 20 #[.slice a n cap, .slice a2 n2 cap2] w fun e w' => e = .returned (.bool (decide (A = B))) ∧ ∃ k, w' = w.drewN k := by
  have HN := hid hn
  have HN2 := hid hn2
  have HH := hid H
  have HH2 := hid H2
  clear hn hn2 H H2
  unfold maxLen at hm hm2
  by_cases hl : n = n2
  · have hd : ((n : Int) != (n2 : Int)) = false := by simp [hl]
    have HL := hid hl
    clear hl
    go_enter Tryz.func20, Tryz.ntmps20
    go_wp2
    go_loopw [13] (fun i wr => ∃ k : Nat, k ≤ n ∧ i = .int .i64 k ∧ (∃ q, wr = w.drewN q) ∧ ∀ j (hj : j < A.length) (hj2 : j < B.length), j < k → A[j] = B[j]) (fun i _ => n - (intOf i).toNat)
    case atStart => exact ⟨0, Nat.zero_le _, rfl, ⟨0, rfl⟩, fun i _ _ h => by omega⟩
    case round =>
      obtain ⟨k, hk, rfl, hq, hno⟩ := hrel
      have hbw : Below w.heap.size w wr := by obtain ⟨q, rfl⟩ := hq; exact below_drewN (Below.refl _ _) q
      have HQ := hid hq
      have HNO := hid hno
      clear hno hq
      by_cases hlt : k < n
      · have hkl : k < A.length := by rw [HN.out]; exact hlt
        have hkl2 : k < B.length := by rw [HN2.out, ← HL.out]; exact hlt
        obtain ⟨b, off, ra, rn, rc, rfl, hbs, hc, hrn, hrm, hri⟩ := (HH.out.below hbw) k hkl
        obtain ⟨b', off', ra', rn', rc', rfl, hbs', hc', hrn', hrm', hri'⟩ := (HH2.out.below hbw) k hkl2
        have HI := hid (fun q2 => s8Ints_c (wr.drewN q2) ra ra' rn rc rn' rc' A[k] B[k] hrn hrn' hrm hrm' (hri.below (below_drewN (Below.refl _ _) q2)) (hri'.below (below_drewN (Below.refl _ _) q2)))
        have hlt2 : k < n2 := by have := HL.out; omega
        have HKL := hid hkl
        have HKL2 := hid hkl2
        clear hri hri' hrn hrn'
        by_cases he : A[k] = B[k]
        · have HE := hid he
          have HS := hid (fun q2 => (HI.out q2).mono fun e w' ⟨h1, h2⟩ => show e = Ending.returned (.bool true) ∧ ∃ k, w' = (wr.drewN q2).drewN k from ⟨h1.trans (ret_bool (decide_eq_true he)), h2⟩)
          clear he HI
          go_wp2
          go_quiet ((go_at_call 22; exact Calls.quiet_of (HS.out _)))
          go_wp2
          refine ⟨⟨k + 1, by omega, by go_num, (by obtain ⟨q, e⟩ := HQ.out; exact ⟨_, by rw [e, drewN_add]⟩), fun j hj hj2 hjk => ?_⟩, by simp [intOf]; omega⟩
          by_cases e : j = k
          · subst e; exact HE.out
          · exact HNO.out j hj hj2 (by omega)
        · have HE := hid he
          have HS := hid (fun q2 => (HI.out q2).mono fun e w' ⟨h1, h2⟩ => show e = Ending.returned (.bool false) ∧ ∃ k, w' = (wr.drewN q2).drewN k from ⟨h1.trans (ret_bool (decide_eq_false he)), h2⟩)
          clear he HI
          go_wp2
          go_quiet ((go_at_call 22; exact Calls.quiet_of (HS.out _)))
          go_wp2
          go_ret
          refine ⟨ret_bool ?_, (by obtain ⟨q, e⟩ := HQ.out; exact ⟨_, by rw [e, drewN_add]⟩)⟩
          symm
          rw [decide_eq_false_iff_not]
          rintro rfl
          exact HE.out rfl
      · go_wp2
        go_ret
        refine ⟨ret_bool ?_, HQ.out⟩
        symm
        rw [decide_eq_true_iff]
        have h1 := HN.out
        have h2 := HN2.out
        have h3 := HL.out
        exact List.ext_getElem (by omega) fun i g1 g2 => HNO.out i g1 g2 (by omega)
  · have hd : ((n : Int) != (n2 : Int)) = true := by simp; omega
    have HL := hid hl
    clear hl
    go_enter Tryz.func20, Tryz.ntmps20
    go_wp2
    go_ret
    refine ⟨ret_bool ?_, 0, rfl⟩
    symm
    rw [decide_eq_false_iff_not]
    rintro rfl
    exact HL.out (HN.out.symm.trans HN2.out)

end Go.Proofs.YtkmjeegnijohmaaGreat
