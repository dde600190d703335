/- Walks and plain laws for DualLeastRow, part 14. -/
import Derived.Test.YtlffndehhhpgjaaGreatPkDualLeastRow13
namespace Go.Proofs.YtlffndehhhpgjaaGreat
set_option linter.unusedVariables false
set_option linter.unusedSimpArgs false
set_option maxRecDepth 100000
set_option maxHeartbeats 4000000
section
open Go.RowKit
def HdF (W : World) (us ur : Value) (f : FitT) : Prop := ∃ pa pn pc va vn vc, us = .slice pa pn pc ∧ ur = .slice va vn vc ∧ f.1.length = pn ∧ pn <= maxLen ∧ zAK W pa f.1 ∧ f.2.length = vn ∧ vn <= maxLen ∧ zBS W va f.2
theorem zGW.hd {W : World} {a : Option Addr} {T : List FitT} (h : zGW W a T) {j : Nat} (hj : j < T.length) :
 ∃ b off us ur, a = some ⟨b, off, none⟩ ∧ b < W.heap.size ∧ W.cell? ⟨b, off + j * 2, none⟩ = some us ∧ W.cell? ⟨b, off + j * 2 + 1, none⟩ = some ur ∧ HdF W us ur T[j] := by
 obtain ⟨b, off, pa, pn, pc, va, vn, vc, e, hb, h0, h1, h2, h3, h4, h5, h6, h7⟩ := h j hj
 exact ⟨b, off, _, _, e, hb, h0, h1, pa, pn, pc, va, vn, vc, rfl, rfl, h2, h3, h4, h5, h6, h7⟩
def TabF (X W : World) (v : Value) (T : List FitT) : Prop :=
 ∃ xs, W.ownsRow X.heap.size 73 2 v T.length xs ∧ ∀ j (hj : j < T.length), ∃ us ur, xs[j * 2]? = some us ∧ xs[j * 2 + 1]? = some ur ∧ HdF X us ur T[j]
theorem TabF.nil (X W : World) : TabF X W (.slice none 0 0) [] := ⟨[], World.ownsRow_nil _ _ _ _, fun j hj => by simp at hj⟩
theorem TabF.below {X W W' : World} {v : Value} {T : List FitT} (h : TabF X W v T) (hb : Below W.heap.size W W') : TabF X W' v T := by
 obtain ⟨xs, h1, h2⟩ := h
 exact ⟨xs, zBI h1 hb, h2⟩
theorem TabF.slice {X W : World} {v : Value} {T : List FitT} (h : TabF X W v T) : ∃ a c, v = .slice a T.length c := by
 obtain ⟨xs, ho, _⟩ := h; exact zAC ho
theorem TabF.reads {X W : World} {v : Value} {T : List FitT} (h : TabF X W v T) (hb : Below X.heap.size X W) : ∃ a cap, v = .slice a T.length cap ∧ T.length <= maxLen ∧ zGW W a T := by
 obtain ⟨xs, ho, he⟩ := h
 rcases ho.2 with ⟨rfl, h0⟩ | ⟨g, cap, cur, rfl, hbg, hgg, hnc, hcm, hsz, htk⟩
 ·exact ⟨none, 0, by rw [h0], by rw [h0]; decide, fun j hj => by omega⟩
 ·refine ⟨_, cap, rfl, by omega, fun j hj => ?_⟩
  obtain ⟨us, ur, h1, h2, pa, pn, pc, va, vn, vc, rfl, rfl, k1, k2, k3, k4, k5, k6⟩ := he j hj
  have hc : ∀ i, i < T.length * 2 -> W.cell? ⟨g, i, none⟩ = xs[i]? := fun i hi =>
   World.ownsRow.cellAt (w := W) (base := X.heap.size) (e := 73) (size := 2) (g := g) (n := T.length) (cap := cap) (xs := xs) ⟨ho.1, .inr ⟨g, cap, cur, rfl, hbg, hgg, hnc, hcm, hsz, htk⟩⟩ i hi
  exact ⟨g, 0, pa, pn, pc, va, vn, vc, rfl, (Array.getElem?_eq_some_iff.1 hgg).1, by rw [Nat.zero_add, hc _ (by omega)]; exact h1, by rw [Nat.zero_add, hc _ (by omega)]; exact h2, k1, k2, k3.below hb, k4, k5, k6.below hb⟩
theorem TabF.snoc {X w2 : World} {v' us ur : Value} {T : List FitT} {t : FitT} {xs : List Value} {q : Nat} (hq : T.length = q)
 (hl : xs.length = q * 2) (he : ∀ j (hj : j < T.length), ∃ us ur, xs[j * 2]? = some us ∧ xs[j * 2 + 1]? = some ur ∧ HdF X us ur T[j]) (h1 : HdF X us ur t)
 (ho' : w2.ownsRow X.heap.size 73 2 v' (q + 1) (xs ++ [us, ur])) : TabF X w2 v' (T ++ [t]) := by
 subst hq
 refine ⟨xs ++ [us, ur], by rw [List.length_append]; exact ho', fun j hj => ?_⟩
 by_cases e : j < T.length
 ·obtain ⟨us', ur', k1, k2, k3⟩ := he j e
  refine ⟨us', ur', by rw [List.getElem?_append_left (by omega)]; exact k1, by rw [List.getElem?_append_left (by omega)]; exact k2, ?_⟩
  rw [List.getElem_append_left e]; exact k3
 ·have : j = T.length := by simp at hj; omega
  subst this
  refine ⟨us, ur, by rw [List.getElem?_append_right (by omega), hl]; simp, by rw [List.getElem?_append_right (by omega), hl, show T.length * 2 + 1 - T.length * 2 = 1 by omega]; rfl, ?_⟩
  simp only [List.getElem_append_right (Nat.le_refl _), Nat.sub_self, List.getElem_cons_zero]; exact h1
theorem TabF.at {X W : World} {v : Value} {T : List FitT} (h : TabF X W v T) {j : Nat} (hj : j < T.length) :
 ∃ g cap us ur, v = .slice (some ⟨g, 0, none⟩) T.length cap ∧ X.heap.size <= g ∧ g < W.heap.size ∧ W.cell? ⟨g, j * 2, none⟩ = some us ∧ W.cell? ⟨g, j * 2 + 1, none⟩ = some ur ∧ HdF X us ur T[j] ∧ (∀ o, W.frozen? ⟨g, o, none⟩ = false) ∧
   ∀ us' ur' f', HdF X us' ur' f' -> TabF X ((W.setCell ⟨g, j * 2, none⟩ us').setCell ⟨g, j * 2 + 1, none⟩ ur') v (T.set j f') := by
 obtain ⟨xs, h1, h2⟩ := h
 obtain ⟨us, ur, hu, hr, hd⟩ := h2 j hj
 rcases h1.2 with ⟨rfl, h0⟩ | ⟨g, cap, cur, rfl, hbg, hgg, hnc, hcm, hsz, htk⟩
 ·omega
 have hcell := fun i hi => World.ownsRow.cellAt (w := W) (base := X.heap.size) (e := 73) (size := 2) (g := g) (n := T.length) (cap := cap) (xs := xs) h1 i hi
 have hvl : xs.length = T.length * 2 := h1.1
 refine ⟨g, cap, us, ur, rfl, hbg, (Array.getElem?_eq_some_iff.1 hgg).1, by rw [hcell _ (by omega)]; exact hu, by rw [hcell _ (by omega)]; exact hr, hd, fun o => by simp [World.frozen?, hgg], ?_⟩
 intro us' ur' f' hf'
 have hb2 : ((W.setCell ⟨g, j * 2, none⟩ us').setCell ⟨g, j * 2 + 1, none⟩ ur').heap[g]? = some (.cells ((cur.setIfInBounds (j * 2) us').setIfInBounds (j * 2 + 1) ur') 73 (0, 0)) := zAR (zAR hgg _ us') _ ur'
 refine ⟨(xs.set (j * 2) us').set (j * 2 + 1) ur', ⟨by simpa using h1.1, .inr ⟨g, cap, (cur.setIfInBounds (j * 2) us').setIfInBounds (j * 2 + 1) ur', by simp, hbg, hb2, by simpa using hnc, hcm, by simpa using hsz, ?_⟩⟩, fun i hi => ?_⟩
 ·rw [<- htk]
  simp only [Array.toList_setIfInBounds, List.length_set]
  rw [List.take_set, List.take_set]
 ·have hi' : i < T.length := by simpa using hi
  by_cases e : j = i
  ·subst e
   refine ⟨us', ur', ?_, ?_, by simpa using hf'⟩
   ·rw [List.getElem?_set_ne (by omega), List.getElem?_set_self (by omega)]
   ·rw [List.getElem?_set_self (by rw [List.length_set]; omega)]
  ·obtain ⟨u2, r2, hu2, hr2, hd2⟩ := h2 i hi'
   refine ⟨u2, r2, ?_, ?_, by rw [List.getElem_set_ne e]; exact hd2⟩
   ·rw [List.getElem?_set_ne (by omega), List.getElem?_set_ne (by omega)]; exact hu2
   ·rw [List.getElem?_set_ne (by omega), List.getElem?_set_ne (by omega)]; exact hr2
theorem TabF.put {X W : World} {g n cap : Nat} {T : List FitT} (h : TabF X W (.slice (some ⟨g, 0, none⟩) n cap) T) {j : Nat} (hj : j < T.length) {us' ur' : Value} {f' : FitT} (hf : HdF X us' ur' f') :
 TabF X ((W.setCell ⟨g, j * 2, none⟩ us').setCell ⟨g, j * 2 + 1, none⟩ ur') (.slice (some ⟨g, 0, none⟩) n cap) (T.set j f') := by
 obtain ⟨g', cap', us, ur, e, _, _, _, _, _, _, hs⟩ := h.at hj
 simp only [Value.slice.injEq, Option.some.injEq, Addr.mk.injEq, and_true] at e
 obtain ⟨rfl, _, _⟩ := e
 exact hs _ _ _ hf
theorem earlier_step {a b : List Int} {k : Nat} (hk : k < a.length) (hk2 : k < b.length) : zAL (a.drop k) (b.drop k) = if a[k] = b[k] then zAL (a.drop (k + 1)) (b.drop (k + 1)) else decide (a[k] < b[k]) := by
 rw [List.drop_eq_getElem_cons hk, List.drop_eq_getElem_cons hk2]; rfl
theorem earlier_last {a b : List Int} {k : Nat} (h : a.length <= k ∨ b.length <= k) (hk : k <= a.length) (hk2 : k <= b.length) : zAL (a.drop k) (b.drop k) = decide (a.length < b.length) := by
 rcases Nat.lt_or_ge k a.length with c | c
 ·have e : k = b.length := by omega
  subst e
  rw [List.drop_of_length_le (Nat.le_refl b.length), List.drop_eq_getElem_cons c, decide_eq_false (by omega)]; rfl
 ·have e : k = a.length := by omega
  subst e
  rw [List.drop_of_length_le (Nat.le_refl a.length)]
  rcases Nat.lt_or_ge a.length b.length with d | d
  ·rw [List.drop_eq_getElem_cons d, decide_eq_true d]; rfl
  ·rw [List.drop_of_length_le d, decide_eq_false (by omega)]; rfl
theorem r5earlier_c (w : World) (a a2 : Option Addr) (n cap n2 cap2 : Nat) (l l2 : List Int) (hn : l.length = n) (hn2 : l2.length = n2) (hm : n <= maxLen) (hm2 : n2 <= maxLen) (H : zAK w a l) (H2 : zAK w a2 l2) :
 Calls Tryz.prog 158 #[.slice a n cap, .slice a2 n2 cap2] w fun e w' => e = .returned (.bool (zAL l l2)) ∧ Below w.heap.size w w' := by
 have HN := hid hn
 have HN2 := hid hn2
 have HH := hid H
 have HH2 := hid H2
 obtain ⟨R, hR⟩ := exq (zAL l l2)
 rw [<- hR]
 have HRE := hid hR
 clear hn hn2 H H2 hR
 unfold maxLen at hm hm2
 go_enter Tryz.func158, Tryz.ntmps158
 go_wp2
 go_loopw [5] (fun i wr => ∃ k : Nat, k <= n ∧ k <= n2 ∧ i = .int .i64 k ∧ zAL (l.drop k) (l2.drop k) = R ∧ (∃ q, wr = w.drewN q)) (fun i _ => n - (intOf i).toNat)
 case atStart => exact ⟨0, Nat.zero_le _, Nat.zero_le _, rfl, HRE.out.symm, 0, rfl⟩
 case round =>
  obtain ⟨k, hk, hk2, rfl, hR, q, rfl⟩ := hrel
  by_cases hlt : k < n ∧ k < n2
  ·obtain ⟨hlt, hlt2⟩ := hlt
   have hkl : k < l.length := by rw [HN.out]; exact hlt
   have hkl2 : k < l2.length := by rw [HN2.out]; exact hlt2
   obtain ⟨b, off, rfl, hbs, hc⟩ := HH.out k hkl
   obtain ⟨b2, off2, rfl, hbs2, hc2⟩ := HH2.out k hkl2
   have hst := earlier_step hkl hkl2
   rw [hR] at hst
   have hg : l[k]?.getD 0 = l[k] := by rw [List.getElem?_eq_getElem hkl]; rfl
   have hg2 : l2[k]?.getD 0 = l2[k] := by rw [List.getElem?_eq_getElem hkl2]; rfl
   rw [hg] at hc
   rw [hg2] at hc2
   obtain ⟨x, hx⟩ := exq (l[k])
   obtain ⟨y, hy⟩ := exq (l2[k])
   rw [<- hx] at hc hst
   rw [<- hy] at hc2 hst
   have i1 : (k : Int) < (n : Int) := by omega
   have i2 : (k : Int) < (n2 : Int) := by omega
   have HST := hid hst
   clear hg hg2 hx hy hR hst hbs hbs2 hkl hkl2
   by_cases he : x = y
   ·subst he
    have hb : (x != x) = false := by simp
    have HNX := hid (show zAL (l.drop (k + 1)) (l2.drop (k + 1)) = R by rw [HST.out, if_pos rfl])
    go_wp2
    go_quiet (fail)
    go_wp2
    exact ⟨⟨k + 1, by omega, by omega, by go_num, HNX.out, _, rfl⟩, by simp [intOf]; omega⟩
   ·have hb : (x != y) = true := by simp [he]
    have HNX := hid (show R = decide (x < y) by rw [HST.out, if_neg he])
    clear he
    go_wp2
    go_quiet (fail)
    go_wp2
    go_quiet (fail)
    go_wp2
    go_ret
    exact ⟨by rw [HNX.out] <;> rfl, zAG (zAG (zAG (Below.refl _ _) _) _) _⟩
  ·have hlast := earlier_last (a := l) (b := l2) (k := k) (by rw [HN.out, HN2.out]; omega) (by rw [HN.out]; exact hk) (by rw [HN2.out]; exact hk2)
   rw [hR, HN.out, HN2.out] at hlast
   have HL := hid hlast
   clear hlast hR
   have hdec : decide ((n : Int) < (n2 : Int)) = decide (n < n2) := by simp
   by_cases h1 : k < n
   ·have h2 : ¬ k < n2 := fun h => hlt ⟨h1, h⟩
    clear hlt
    have i1 : (k : Int) < (n : Int) := by omega
    have i2 : ¬ ((k : Int) < (n2 : Int)) := by omega
    have i3 : ¬ ((n : Int) < (n2 : Int)) := by omega
    have HL2 := hid (show R = false by rw [HL.out, decide_eq_false (by omega)])
    go_wp2
    go_ret
    exact ⟨by rw [HL2.out] <;> rfl, zAG (Below.refl _ _) _⟩
   ·clear hlt
    have i1 : ¬ ((k : Int) < (n : Int)) := by omega
    by_cases h2 : n < n2
    ·have i3 : (n : Int) < (n2 : Int) := by omega
     have HL2 := hid (show R = true by rw [HL.out, decide_eq_true h2])
     go_wp2
     go_ret
     exact ⟨by rw [HL2.out] <;> rfl, zAG (Below.refl _ _) _⟩
    ·have i3 : ¬ ((n : Int) < (n2 : Int)) := by omega
     have HL2 := hid (show R = false by rw [HL.out, decide_eq_false h2])
     go_wp2
     go_ret
     exact ⟨by rw [HL2.out] <;> rfl, zAG (Below.refl _ _) _⟩
end
section
open Go.RowKit
theorem exact_c (w : World) (N D : Int) (hN : -4611686018427387904 <= N ∧ N <= 4611686018427387904) (hD : 0 <= D ∧ D <= 4611686018427387904) :
 Calls Tryz.prog 22 #[.agg #[.int .i64 N, .int .i64 D]] w fun e w' => ∃ x, e = .returned x ∧ RatQ w' x 3 (decide (N < 0)) (N.natAbs : Nat) D ∧ Below w.heap.size w w' := by
 obtain ⟨s0, hs⟩ := exq (w.heap.size)
 obtain ⟨wa, hwa⟩ := exq ((w.alloc (.cells #[.int .i64 N, .int .i64 D] 29)).alloc (.cells #[.bool false, .slice none 0 0, .slice none 0 0] 37))
 have hba : Below w.heap.size w wa := by rw [hwa]; exact ((Below.refl _ _).alloc (Nat.le_refl _) _).alloc (by simp) _
 have q0 : wa.heap[s0 + 1]? = some (.cells #[.bool false, .slice none 0 0, .slice none 0 0] 37 (0, 0)) := by
  have := World.alloc_heap_new (w.alloc (.cells #[.int .i64 N, .int .i64 D] 29)) (.cells #[.bool false, .slice none 0 0, .slice none 0 0] 37)
  rw [hwa, hs]
  simpa using this
 have hs1 : s0 + 1 < wa.heap.size := (Array.getElem?_eq_some_iff.1 q0).1
 have hc : ∀ o v, (#[Value.int .i64 N, .int .i64 D] : Array Value)[o]? = some v -> wa.cell? ⟨s0, o, none⟩ = some v := fun o v h => by
  rw [hwa, hs, World.cell?_alloc_past _ _ _ (by simp), World.cell?_alloc_at _ _ _ _ rfl]; exact h
 have HS := hid (fun (Y : World) (hY : Below wa.heap.size wa Y) => show Y.cell? ⟨s0, 0, none⟩ = some (.int .i64 N) ∧ Y.cell? ⟨s0, 1, none⟩ = some (.int .i64 D) from by
  have k0 : ∀ o, Y.cell? ⟨s0, o, none⟩ = wa.cell? ⟨s0, o, none⟩ := fun o => hY.cell (p := ⟨s0, o, none⟩) (by show s0 < _; omega)
  exact ⟨(k0 0).trans (hc 0 _ rfl), (k0 1).trans (hc 1 _ rfl)⟩)
 have HR := hid (fun (Y : World) (hY : Below wa.heap.size wa Y) => show Y.cell? ⟨s0 + 1, 0, none⟩ = some (.bool false) ∧ Y.cell? ⟨s0 + 1, 1, none⟩ = some (.slice none 0 0) ∧ Y.cell? ⟨s0 + 1, 2, none⟩ = some (.slice none 0 0) ∧ (∀ o, Y.frozen? ⟨s0 + 1, o, none⟩ = false) ∧ s0 + 1 < Y.heap.size from by
  have h1 := (hY.block (s0 + 1) hs1).trans q0
  exact ⟨by simp [World.cell?, h1], by simp [World.cell?, h1], by simp [World.cell?, h1], fun o => by simp [World.frozen?, h1], (Array.getElem?_eq_some_iff.1 h1).1⟩)
 have HFIN := hid (fun (Y : World) (hY : Below wa.heap.size wa Y) (x y z : Value) => show Below w.heap.size w (((Y.setCell ⟨s0 + 1, 0, none⟩ x).setCell ⟨s0 + 1, 1, none⟩ y).setCell ⟨s0 + 1, 2, none⟩ z) from
  zAB (zAB (zAB (zAA hba hY) (by omega) 0 x) (by omega) 1 y) (by omega) 2 z)
 have HNG := hid (fun (Y : World) (hY : Below wa.heap.size wa Y) => show ∃ c, Y.heap[s0 + 1]? = some (.cells c 37 (0, 0)) ∧ ∀ x : Int, ∀ o : Nat, c[o]? ≠ some (.int .i64 x) from
  ⟨_, (hY.block (s0 + 1) hs1).trans q0, fun x o => by match o with | 0 => simp | 1 => simp | 2 => simp | o + 3 => simp⟩)
 obtain ⟨b, hb⟩ := exq (decide (N < 0))
 obtain ⟨m, hm⟩ : ∃ m : Int, m = (N.natAbs : Nat) := ⟨_, rfl⟩
 rw [<- hb, <- hm]
 have hb2 := hb.symm
 have HM1 := hid (fun X => natOf_c X m (by omega) (by omega))
 have HM2 := hid (fun X => natOf_c X D hD.1 (by omega))
 have hng : IntKind.i64.wrap (-N) = -N := IntWalk.i64_in _ (by omega)
 have hmx : (if -N <= N then N else -N) = m := by split <;> omega
 have hmx2 : (if N <= -N then -N else N) = m := by split <;> omega
 have hmx3 : (if N < -N then -N else N) = m := by split <;> omega
 clear hba q0 hs1 hc hb hm
 go_enter Tryz.func22, Tryz.ntmps22
 go_wp2_with fail
 rw [<- hs, <- hwa]
 clear hs hwa
 refine zAH (fun j' X => decide (j' <= 13) = true -> X.cell? ⟨s0, 0, none⟩ = some (.int .i64 N) ∧ X.cell? ⟨s0, 1, none⟩ = some (.int .i64 D)) (by kernel_rfl) ?_
 have hbd : Below wa.heap.size wa wa.drew := (Below.refl _ _).drew
 generalize wa.drew = wd at hbd ⊢
 refine AnyT.tD (i := 0) (v := .pointer (some ⟨s0, 0, none⟩)) rfl rfl (by rintro w' ⟨y1, y2⟩; go_simp) (HS.out _ hbd) ?_; go_frame
 refine AnyT.tD (i := 1) (v := .int .i64 N) rfl rfl (by rintro w' ⟨y1, y2⟩; go_simp) (HS.out _ hbd) ?_; go_frame
 refine AnyT.tD (i := 2) (v := .bool b) rfl rfl (by rintro w' ⟨y1, y2⟩; go_simp) (HS.out _ hbd) ?_; go_frame
 refine AnyT.tD (i := 3) (v := .pointer (some ⟨s0, 0, none⟩)) rfl rfl (by rintro w' ⟨y1, y2⟩; go_simp) (HS.out _ hbd) ?_; go_frame
 refine AnyT.tD (i := 4) (v := .int .i64 N) rfl rfl (by rintro w' ⟨y1, y2⟩; go_simp) (HS.out _ hbd) ?_; go_frame
 refine AnyT.tD (i := 5) (v := .pointer (some ⟨s0, 0, none⟩)) rfl rfl (by rintro w' ⟨y1, y2⟩; go_simp) (HS.out _ hbd) ?_; go_frame
 refine AnyT.tD (i := 6) (v := .int .i64 N) rfl rfl (by rintro w' ⟨y1, y2⟩; go_simp) (HS.out _ hbd) ?_; go_frame
 refine AnyT.tD (i := 7) (v := .int .i64 (-N)) rfl rfl (by rintro w' ⟨y1, y2⟩; go_simp) (HS.out _ hbd) ?_; go_frame
 refine AnyT.tD (i := 10) (v := .pointer (some ⟨s0, 1, none⟩)) rfl rfl (by rintro w' ⟨y1, y2⟩; go_simp) (HS.out _ hbd) ?_; go_frame
 refine AnyT.tD (i := 11) (v := .int .i64 D) rfl rfl (by rintro w' ⟨y1, y2⟩; go_simp) (HS.out _ hbd) ?_; go_frame
 refine AnyT.nx (i := 8) rfl ?_
 go_wp2
 refine ⟨fun _ => HS.out _ hbd, ?_⟩
 refine AnyT.nx (i := 9) rfl ?_
 go_wp2_with (go_at_call 74; refine (HM1.out _).mono ?_; rintro e w1 ⟨v1, rfl, hv1, hb1⟩; refine Stop.of ?_)
 refine Stop.go ?_
 obtain ⟨a1, n1, c1, rfl⟩ := hv1.slice
 have HV1 := hid hv1
 have HB1 := hid (zAA hbd hb1)
 clear hv1 hb1 hmx hmx2 hmx3 hng
 go_wp2
 refine ⟨fun _ => HS.out _ HB1.out, ?_⟩
 refine AnyT.nx (i := 12) rfl ?_
 go_wp2_with (go_at_call 74; refine (HM2.out _).mono ?_; rintro e w2 ⟨v2, rfl, hv2, hb2'⟩; refine Stop.of ?_)
 refine Stop.go ?_
 obtain ⟨a2, n2, c2, rfl⟩ := hv2.slice
 have HB2 := hid (zAA HB1.out hb2')
 have hv1' := HV1.out.below hb2'
 have HK1 := hid (hv1'.keeps3 (g := s0 + 1) (u := .bool b) (v := .slice a1 n1 c1) (z := .slice a2 n2 c2) (HNG.out _ HB2.out))
 have HK2 := hid (hv2.keeps3 (g := s0 + 1) (u := .bool b) (v := .slice a1 n1 c1) (z := .slice a2 n2 c2) (HNG.out _ HB2.out))
 obtain ⟨x0, x1, x2, hfz, hlt⟩ := HR.out _ HB2.out
 have f0 := hfz 0
 have f1 := hfz 1
 have f2 := hfz 2
 have HFI := hid (HFIN.out _ HB2.out (.bool b) (.slice a1 n1 c1) (.slice a2 n2 c2))
 clear hv1' hv2 hb2' hfz HV1
 go_wp2
 refine ⟨fun _ => HS.out _ HB2.out, ?_⟩
 refine AnyT.tD (i := 13) (v := .agg #[.bool b, .slice a1 n1 c1, .slice a2 n2 c2]) rfl rfl (by rintro w' ⟨y1, y2⟩; go_simp) (HS.out _ HB2.out) ?_; go_frame
 refine AnyT.nx (i := 14) rfl ?_
 go_wp2
 refine ⟨fun h => absurd h (by decide), ?_⟩
 refine AnyT.done (by kernel_rfl) ?_ _
 go_wp2
 refine bodyPost_ret (v := .agg #[.bool b, .slice a1 n1 c1, .slice a2 n2 c2]) ?_ rfl ⟨_, rfl, ⟨_, _, _, _, _, _, rfl, HK1.out, HK2.out⟩, HFI.out⟩
 simp [results, Tryz.results22, go_sem, x0, x1, x2, f0, f1, f2, hlt]
theorem nwhole_c (w : World) (n : Int) (hN : -4611686018427387904 <= n ∧ n <= 4611686018427387904) :
 Calls Tryz.prog 91 #[.int .i64 n] w fun e w' => ∃ x, e = .returned x ∧ RatQ w' x 3 (decide (n < 0)) (n.natAbs : Nat) 1 ∧ Below w.heap.size w w' := by
 obtain ⟨s0, hs⟩ := exq (w.heap.size)
 obtain ⟨wa, hwa⟩ := exq (w.alloc (.cells #[.bool false, .slice none 0 0, .slice none 0 0] 37))
 have hba : Below w.heap.size w wa := by rw [hwa]; exact (Below.refl _ _).alloc (Nat.le_refl _) _
 have q0 : wa.heap[s0]? = some (.cells #[.bool false, .slice none 0 0, .slice none 0 0] 37 (0, 0)) := by
  rw [hwa, hs]; exact World.alloc_heap_new w _
 have hs1 : s0 < wa.heap.size := (Array.getElem?_eq_some_iff.1 q0).1
 have HR := hid (fun (Y : World) (hY : Below wa.heap.size wa Y) => show Y.cell? ⟨s0, 0, none⟩ = some (.bool false) ∧ Y.cell? ⟨s0, 1, none⟩ = some (.slice none 0 0) ∧ Y.cell? ⟨s0, 2, none⟩ = some (.slice none 0 0) ∧ (∀ o, Y.frozen? ⟨s0, o, none⟩ = false) ∧ s0 < Y.heap.size from by
  have h1 := (hY.block s0 hs1).trans q0
  exact ⟨by simp [World.cell?, h1], by simp [World.cell?, h1], by simp [World.cell?, h1], fun o => by simp [World.frozen?, h1], (Array.getElem?_eq_some_iff.1 h1).1⟩)
 have HFIN := hid (fun (Y : World) (hY : Below wa.heap.size wa Y) (x y z : Value) => show Below w.heap.size w (((Y.setCell ⟨s0, 0, none⟩ x).setCell ⟨s0, 1, none⟩ y).setCell ⟨s0, 2, none⟩ z) from
  zAB (zAB (zAB (zAA hba hY) (by omega) 0 x) (by omega) 1 y) (by omega) 2 z)
 have HNG := hid (fun (Y : World) (hY : Below wa.heap.size wa Y) => show ∃ c, Y.heap[s0]? = some (.cells c 37 (0, 0)) ∧ ∀ x : Int, ∀ o : Nat, c[o]? ≠ some (.int .i64 x) from
  ⟨_, (hY.block s0 hs1).trans q0, fun x o => by match o with | 0 => simp | 1 => simp | 2 => simp | o + 3 => simp⟩)
 have HE := hid (exact_c wa n 1 hN (by decide))
 obtain ⟨b, hb⟩ := exq (decide (n < 0))
 obtain ⟨m, hm⟩ : ∃ m : Int, m = (n.natAbs : Nat) := ⟨_, rfl⟩
 rw [<- hb, <- hm] at HE ⊢
 clear hba q0 hs1 hb hm
 go_enter Tryz.func91, Tryz.ntmps91
 go_wp2_with fail
 rw [<- hs, <- hwa]
 clear hs hwa
 go_wp2_with (go_at_call 22; refine HE.out.mono ?_; rintro e w2 ⟨v2, rfl, ⟨a1, n1, c1, a2, n2, c2, rfl, hv1, hv2⟩, hb2⟩; refine Stop.of ?_)
 refine Stop.go ?_
 have HK1 := hid (hv1.keeps3 (g := s0) (u := .bool b) (v := .slice a1 n1 c1) (z := .slice a2 n2 c2) (HNG.out _ hb2))
 have HK2 := hid (hv2.keeps3 (g := s0) (u := .bool b) (v := .slice a1 n1 c1) (z := .slice a2 n2 c2) (HNG.out _ hb2))
 obtain ⟨x0, x1, x2, hfz, hlt⟩ := HR.out _ hb2
 have f0 := hfz 0
 have f1 := hfz 1
 have f2 := hfz 2
 have HFI := hid (HFIN.out _ hb2 (.bool b) (.slice a1 n1 c1) (.slice a2 n2 c2))
 clear hv1 hv2 hb2 hfz
 go_wp2
 refine bodyPost_ret (v := .agg #[.bool b, .slice a1 n1 c1, .slice a2 n2 c2]) ?_ rfl ⟨_, rfl, ⟨_, _, _, _, _, _, rfl, HK1.out, HK2.out⟩, HFI.out⟩
 simp [results, Tryz.results91, go_sem, x0, x1, x2, f0, f1, f2, hlt]
end
section
open Go.RowKit
theorem rtimes_c (w : World) (k : Int) (v : Value) (L : Nat) (s : Bool) (N D : Int) (hk : -4611686018427387904 <= k ∧ k <= 4611686018427387904) (h : RatQ w v L s N D) (hL : L <= 100) :
 Calls Tryz.prog 23 #[.int .i64 k, v] w fun e w' => ∃ x, e = .returned x ∧ RatQ w' x (3 + L) (s != decide (k < 0)) ((k.natAbs : Nat) * N) D ∧ Below w.heap.size w w' := by
 obtain ⟨na, nn, nc, da, dn, dc, rfl, hN, hD⟩ := h
 obtain ⟨s0, hs⟩ := exq (w.heap.size)
 obtain ⟨wa, hwa⟩ := exq ((w.alloc (.cells #[.bool s, .slice na nn nc, .slice da dn dc] 37)).alloc (.cells #[.bool false, .slice none 0 0, .slice none 0 0] 37))
 have hba : Below w.heap.size w wa := by rw [hwa]; exact ((Below.refl _ _).alloc (Nat.le_refl _) _).alloc (by simp) _
 have q0 : wa.heap[s0 + 1]? = some (.cells #[.bool false, .slice none 0 0, .slice none 0 0] 37 (0, 0)) := by
  have := World.alloc_heap_new (w.alloc (.cells #[.bool s, .slice na nn nc, .slice da dn dc] 37)) (.cells #[.bool false, .slice none 0 0, .slice none 0 0] 37)
  rw [hwa, hs]
  simpa using this
 have hs1 : s0 + 1 < wa.heap.size := (Array.getElem?_eq_some_iff.1 q0).1
 have hc : ∀ o v, (#[Value.bool s, .slice na nn nc, .slice da dn dc] : Array Value)[o]? = some v -> wa.cell? ⟨s0, o, none⟩ = some v := fun o v h => by
  rw [hwa, hs, World.cell?_alloc_past _ _ _ (by simp), World.cell?_alloc_at _ _ _ _ rfl]; exact h
 have HS := hid (fun (Y : World) (hY : Below wa.heap.size wa Y) => show Y.cell? ⟨s0, 0, none⟩ = some (.bool s) ∧ Y.cell? ⟨s0, 1, none⟩ = some (.slice na nn nc) ∧ Y.cell? ⟨s0, 2, none⟩ = some (.slice da dn dc) from by
  have k0 : ∀ o, Y.cell? ⟨s0, o, none⟩ = wa.cell? ⟨s0, o, none⟩ := fun o => hY.cell (p := ⟨s0, o, none⟩) (by show s0 < _; omega)
  exact ⟨(k0 0).trans (hc 0 _ rfl), (k0 1).trans (hc 1 _ rfl), (k0 2).trans (hc 2 _ rfl)⟩)
 have HR := hid (fun (Y : World) (hY : Below wa.heap.size wa Y) => show Y.cell? ⟨s0 + 1, 0, none⟩ = some (.bool false) ∧ Y.cell? ⟨s0 + 1, 1, none⟩ = some (.slice none 0 0) ∧ Y.cell? ⟨s0 + 1, 2, none⟩ = some (.slice none 0 0) ∧ (∀ o, Y.frozen? ⟨s0 + 1, o, none⟩ = false) ∧ s0 + 1 < Y.heap.size from by
  have h1 := (hY.block (s0 + 1) hs1).trans q0
  exact ⟨by simp [World.cell?, h1], by simp [World.cell?, h1], by simp [World.cell?, h1], fun o => by simp [World.frozen?, h1], (Array.getElem?_eq_some_iff.1 h1).1⟩)
 have HFIN := hid (fun (Y : World) (hY : Below wa.heap.size wa Y) (x y z : Value) => show Below w.heap.size w (((Y.setCell ⟨s0 + 1, 0, none⟩ x).setCell ⟨s0 + 1, 1, none⟩ y).setCell ⟨s0 + 1, 2, none⟩ z) from
  zAB (zAB (zAB (zAA hba hY) (by omega) 0 x) (by omega) 1 y) (by omega) 2 z)
 have HNG := hid (fun (Y : World) (hY : Below wa.heap.size wa Y) => show ∃ c, Y.heap[s0 + 1]? = some (.cells c 37 (0, 0)) ∧ ∀ x : Int, ∀ o : Nat, c[o]? ≠ some (.int .i64 x) from
  ⟨_, (hY.block (s0 + 1) hs1).trans q0, fun x o => by match o with | 0 => simp | 1 => simp | 2 => simp | o + 3 => simp⟩)
 have HNN := hid (fun (Y : World) (hY : Below wa.heap.size wa Y) => And.intro (hN.below (zAA hba hY)) (hD.below (zAA hba hY)))
 obtain ⟨b, hb⟩ := exq (decide (k < 0))
 obtain ⟨m, hm⟩ : ∃ m : Int, m = (k.natAbs : Nat) := ⟨_, rfl⟩
 rw [<- hb, <- hm]
 have hb2 := hb.symm
 have HM1 := hid (fun X => natOf_c X m (by omega) (by omega))
 have hng : IntKind.i64.wrap (-k) = -k := IntWalk.i64_in _ (by omega)
 have hmx : (if -k <= k then k else -k) = m := by split <;> omega
 have hmx2 : (if k <= -k then -k else k) = m := by split <;> omega
 have hmx3 : (if k < -k then -k else k) = m := by split <;> omega
 clear hba q0 hs1 hc hb hm hN hD
 go_enter Tryz.func23, Tryz.ntmps23
 go_wp2_with fail
 rw [<- hs, <- hwa]
 clear hs hwa
 refine zAH (fun j' X => decide (j' <= 15) = true -> X.cell? ⟨s0, 0, none⟩ = some (.bool s) ∧ X.cell? ⟨s0, 1, none⟩ = some (.slice na nn nc) ∧ X.cell? ⟨s0, 2, none⟩ = some (.slice da dn dc)) (by kernel_rfl) ?_
 have hbd : Below wa.heap.size wa wa.drew := (Below.refl _ _).drew
 generalize wa.drew = wd at hbd ⊢
 refine AnyT.tD (i := 0) (v := .pointer (some ⟨s0, 0, none⟩)) rfl rfl (by rintro w' ⟨y1, y2, y3⟩; go_simp) (HS.out _ hbd) ?_; go_frame
 refine AnyT.tD (i := 1) (v := .bool s) rfl rfl (by rintro w' ⟨y1, y2, y3⟩; go_simp) (HS.out _ hbd) ?_; go_frame
 refine AnyT.tD (i := 2) (v := .int .i64 k) rfl rfl (by rintro w' ⟨y1, y2, y3⟩; go_simp) (HS.out _ hbd) ?_; go_frame
 refine AnyT.tD (i := 3) (v := .bool b) rfl rfl (by rintro w' ⟨y1, y2, y3⟩; go_simp) (HS.out _ hbd) ?_; go_frame
 refine AnyT.tD (i := 4) (v := .bool (!(s == b))) rfl rfl (by rintro w' ⟨y1, y2, y3⟩; go_simp) (HS.out _ hbd) ?_; go_frame
 refine AnyT.tD (i := 5) (v := .int .i64 k) rfl rfl (by rintro w' ⟨y1, y2, y3⟩; go_simp) (HS.out _ hbd) ?_; go_frame
 refine AnyT.tD (i := 6) (v := .int .i64 k) rfl rfl (by rintro w' ⟨y1, y2, y3⟩; go_simp) (HS.out _ hbd) ?_; go_frame
 refine AnyT.tD (i := 7) (v := .int .i64 (-k)) rfl rfl (by rintro w' ⟨y1, y2, y3⟩; go_simp) (HS.out _ hbd) ?_; go_frame
 refine AnyT.tD (i := 10) (v := .pointer (some ⟨s0, 1, none⟩)) rfl rfl (by rintro w' ⟨y1, y2, y3⟩; go_simp) (HS.out _ hbd) ?_; go_frame
 refine AnyT.tD (i := 11) (v := .slice na nn nc) rfl rfl (by rintro w' ⟨y1, y2, y3⟩; go_simp) (HS.out _ hbd) ?_; go_frame
 refine AnyT.tD (i := 13) (v := .pointer (some ⟨s0, 2, none⟩)) rfl rfl (by rintro w' ⟨y1, y2, y3⟩; go_simp) (HS.out _ hbd) ?_; go_frame
 refine AnyT.tD (i := 14) (v := .slice da dn dc) rfl rfl (by rintro w' ⟨y1, y2, y3⟩; go_simp) (HS.out _ hbd) ?_; go_frame
 refine AnyT.nx (i := 8) rfl ?_
 go_wp2
 refine ⟨fun _ => HS.out _ hbd, ?_⟩
 refine AnyT.nx (i := 9) rfl ?_
 go_wp2_with (go_at_call 74; refine (HM1.out _).mono ?_; rintro e w1 ⟨v1, rfl, hv1, hb1⟩; refine Stop.of ?_)
 refine Stop.go ?_
 obtain ⟨a1, n1, c1, rfl⟩ := hv1.slice
 have HV1 := hid hv1
 have HB1 := hid (zAA hbd hb1)
 clear hv1 hb1 hmx hmx2 hmx3 hng
 go_wp2
 refine ⟨fun _ => HS.out _ HB1.out, ?_⟩
 refine AnyT.nx (i := 12) rfl ?_
 go_wp2_with (go_at_call 75; refine (zKT _ _ _ 3 L _ _ HV1.out (HNN.out _ HB1.out).1 (by omega) (by omega)).mono ?_; rintro e w2 ⟨v2, rfl, hv2, hb2'⟩; refine Stop.of ?_)
 refine Stop.go ?_
 obtain ⟨a2, n2, c2, rfl⟩ := hv2.slice
 have HB2 := hid (zAA HB1.out hb2')
 have hd2 := (HNN.out _ HB2.out).2
 have HK1 := hid (hv2.keeps3 (g := s0 + 1) (u := .bool (!(s == b))) (v := .slice a2 n2 c2) (z := .slice da dn dc) (HNG.out _ HB2.out))
 have HK2 := hid ((hd2.keeps3 (g := s0 + 1) (u := .bool (!(s == b))) (v := .slice a2 n2 c2) (z := .slice da dn dc) (HNG.out _ HB2.out)).le (show L <= 3 + L by omega))
 obtain ⟨x0, x1, x2, hfz, hlt⟩ := HR.out _ HB2.out
 have f0 := hfz 0
 have f1 := hfz 1
 have f2 := hfz 2
 have HFI := hid (HFIN.out _ HB2.out (.bool (!(s == b))) (.slice a2 n2 c2) (.slice da dn dc))
 clear hv2 hd2 hb2' hfz HV1
 go_wp2
 refine ⟨fun _ => HS.out _ HB2.out, ?_⟩
 refine AnyT.tD (i := 15) (v := .agg #[.bool (!(s == b)), .slice a2 n2 c2, .slice da dn dc]) rfl rfl (by rintro w' ⟨y1, y2, y3⟩; go_simp) (HS.out _ HB2.out) ?_; go_frame
 refine AnyT.nx (i := 16) rfl ?_
 go_wp2
 refine ⟨fun h => absurd h (by decide), ?_⟩
 refine AnyT.done (by kernel_rfl) ?_ _
 go_wp2
 refine bodyPost_ret (v := .agg #[.bool (!(s == b)), .slice a2 n2 c2, .slice da dn dc]) ?_ rfl ⟨_, rfl, ⟨_, _, _, _, _, _, rfl, HK1.out, HK2.out⟩, HFI.out⟩
 simp [results, Tryz.results23, go_sem, x0, x1, x2, f0, f1, f2, hlt]
end
section
open Go.RowKit
def sgn (s : Bool) (N : Int) : Int := if s = true then -N else N
theorem plusQ_val {s t : Bool} {N D M E : Int} : sgn (zFE (s, N, D) (t, M, E)).1 (zFE (s, N, D) (t, M, E)).2.1 = sgn s N * E + sgn t M * D := by
 unfold zFE sgn
 cases s <;> cases t <;> simp <;> (try split) <;> (try simp) <;> grind
theorem plusQ_den {s t : Bool} {N D M E : Int} : (zFE (s, N, D) (t, M, E)).2.2 = D * E := by
 unfold zFE
 simp only []
 split
 ·rfl
 ·split <;> rfl
theorem rat_new {Y : World} {g : Nat} (h : Y.heap[g]? = some (.cells #[.bool false, .slice none 0 0, .slice none 0 0] 37 (0, 0))) :
 Y.cell? ⟨g, 0, none⟩ = some (.bool false) ∧ Y.cell? ⟨g, 1, none⟩ = some (.slice none 0 0) ∧ Y.cell? ⟨g, 2, none⟩ = some (.slice none 0 0) ∧ Y.frozen? ⟨g, 0, none⟩ = false ∧ Y.frozen? ⟨g, 1, none⟩ = false ∧ Y.frozen? ⟨g, 2, none⟩ = false ∧ g < Y.heap.size :=
 ⟨by simp [World.cell?, h], by simp [World.cell?, h], by simp [World.cell?, h], by simp [World.frozen?, h], by simp [World.frozen?, h], by simp [World.frozen?, h], (Array.getElem?_eq_some_iff.1 h).1⟩
theorem zJI {Y : World} {g : Nat} {c : Array Value} {T : TypeId} {fz : Nat × Nat} (h : Y.heap[g]? = some (.cells c T fz)) (o : Nat) (v : Value) : (Y.setCell ⟨g, o, none⟩ v).heap[g]? = some (.cells (c.setIfInBounds o v) T fz) := by
 obtain ⟨hlt, hk⟩ := Array.getElem?_eq_some_iff.1 h
 show (Y.heap.modify g _)[g]? = _
 rw [Array.getElem?_eq_getElem (by rw [Array.size_modify]; exact hlt), Array.getElem_modify_self, hk]
 rfl
theorem rat_set {wa Y : World} {g N : Nat} (h : Y.heap[g]? = some (.cells #[.bool false, .slice none 0 0, .slice none 0 0] 37 (0, 0))) (hg : N <= g) (hb : Below N wa Y) (u v z : Value) :
 (((Y.setCell ⟨g, 0, none⟩ u).setCell ⟨g, 1, none⟩ v).setCell ⟨g, 2, none⟩ z).cell? ⟨g, 0, none⟩ = some u ∧ (((Y.setCell ⟨g, 0, none⟩ u).setCell ⟨g, 1, none⟩ v).setCell ⟨g, 2, none⟩ z).cell? ⟨g, 1, none⟩ = some v ∧
 (((Y.setCell ⟨g, 0, none⟩ u).setCell ⟨g, 1, none⟩ v).setCell ⟨g, 2, none⟩ z).cell? ⟨g, 2, none⟩ = some z ∧ Below N wa (((Y.setCell ⟨g, 0, none⟩ u).setCell ⟨g, 1, none⟩ v).setCell ⟨g, 2, none⟩ z) := by
 have e : (((Y.setCell ⟨g, 0, none⟩ u).setCell ⟨g, 1, none⟩ v).setCell ⟨g, 2, none⟩ z).heap[g]? = some (.cells #[u, v, z] 37 (0, 0)) := by
  have h1 := zJI h 0 u
  have h2 := zJI h1 1 v
  have h3 := zJI h2 2 z
  exact h3
 exact ⟨by simp [World.cell?, e], by simp [World.cell?, e], by simp [World.cell?, e], zAB (zAB (zAB hb hg 0 u) hg 1 v) hg 2 z⟩
def OrdMid (wa : World) (P1 : Bool) (P2 : Int) (fr fr' : Act) (W : World) : Prop :=
 ∃ g pa pn pc qa qn qc r6 r7 r8 r9, fr' = (((((fr.put (some 6) r6).put (some 7) r7).put (some 8) r8).put (some 9) r9).put (some 5) (.pointer (some ⟨g, 0, none⟩))) ∧
   W.cell? ⟨g, 0, none⟩ = some (.bool P1) ∧ W.cell? ⟨g, 1, none⟩ = some (.slice pa pn pc) ∧ W.cell? ⟨g, 2, none⟩ = some (.slice qa qn qc) ∧ (pn = 0 ↔ P2 = 0) ∧ 0 <= P2 ∧ Below wa.heap.size wa W
theorem rorder_c (w : World) (v u : Value) (L K : Nat) (s t : Bool) (N D M E : Int) (h : RatQ w v L s N D) (k : RatQ w u K t M E) (hL : L <= 100) (hK : K <= 97) :
 Calls Tryz.prog 21 #[v, u] w fun e w' => e = .returned (.int .i64 (cmpI (sgn s N * E) (sgn t M * D))) ∧ Below w.heap.size w w' := by
 obtain ⟨na, nn, nc, da, dn, dc, rfl, hN, hD⟩ := h
 obtain ⟨ma, mn, mc, ea, en, ec, rfl, hM, hE⟩ := k
 obtain ⟨s0, hs⟩ := exq (w.heap.size)
 obtain ⟨wa, hwa⟩ := exq ((w.alloc (.cells #[.bool s, .slice na nn nc, .slice da dn dc] 37)).alloc (.cells #[.bool t, .slice ma mn mc, .slice ea en ec] 37))
 have hba : Below w.heap.size w wa := by rw [hwa]; exact ((Below.refl _ _).alloc (Nat.le_refl _) _).alloc (by simp) _
 have hs1 : s0 + 1 < wa.heap.size := by rw [hwa, hs]; simp
 have hc : ∀ o v, (#[Value.bool s, .slice na nn nc, .slice da dn dc] : Array Value)[o]? = some v -> wa.cell? ⟨s0, o, none⟩ = some v := fun o v h => by
  rw [hwa, hs, World.cell?_alloc_past _ _ _ (by simp), World.cell?_alloc_at _ _ _ _ rfl]; exact h
 have hc2 : ∀ o v, (#[Value.bool t, .slice ma mn mc, .slice ea en ec] : Array Value)[o]? = some v -> wa.cell? ⟨s0 + 1, o, none⟩ = some v := fun o v h => by
  rw [hwa, hs, World.cell?_alloc_at _ _ _ _ (by simp)]; exact h
 have HS := hid (fun (Y : World) (hY : Below wa.heap.size wa Y) => show Y.cell? ⟨s0, 0, none⟩ = some (.bool s) ∧ Y.cell? ⟨s0, 1, none⟩ = some (.slice na nn nc) ∧ Y.cell? ⟨s0, 2, none⟩ = some (.slice da dn dc) ∧ Y.cell? ⟨s0 + 1, 0, none⟩ = some (.bool t) ∧ Y.cell? ⟨s0 + 1, 1, none⟩ = some (.slice ma mn mc) ∧ Y.cell? ⟨s0 + 1, 2, none⟩ = some (.slice ea en ec) from by
  have k0 : ∀ o, Y.cell? ⟨s0, o, none⟩ = wa.cell? ⟨s0, o, none⟩ := fun o => hY.cell (p := ⟨s0, o, none⟩) (by show s0 < _; omega)
  have k1 : ∀ o, Y.cell? ⟨s0 + 1, o, none⟩ = wa.cell? ⟨s0 + 1, o, none⟩ := fun o => hY.cell (p := ⟨s0 + 1, o, none⟩) (by show s0 + 1 < _; omega)
  exact ⟨(k0 0).trans (hc 0 _ rfl), (k0 1).trans (hc 1 _ rfl), (k0 2).trans (hc 2 _ rfl), (k1 0).trans (hc2 0 _ rfl), (k1 1).trans (hc2 1 _ rfl), (k1 2).trans (hc2 2 _ rfl)⟩)
 have HBA := hid hba
 have HT := hid (fun (Y : World) (hY : Below wa.heap.size wa Y) => show Calls Tryz.prog 23 #[.int .i64 (-1), .agg #[.bool t, .slice ma mn mc, .slice ea en ec]] Y (fun e w' => ∃ x, e = .returned x ∧ RatQ w' x (3 + K) (!t) M E ∧ Below Y.heap.size Y w') from by
  have h0 := rtimes_c Y (-1) (.agg #[.bool t, .slice ma mn mc, .slice ea en ec]) K t M E (by decide) ⟨_, _, _, _, _, _, rfl, hM.below (zAA hba hY), hE.below (zAA hba hY)⟩ (by omega)
  have e1 : (t != decide ((-1 : Int) < 0)) = !t := by cases t <;> rfl
  have e2 : (((-1 : Int).natAbs : Nat) : Int) * M = M := by simp
  rwa [e1, e2] at h0)
 have HA := hid (fun (Y : World) (hY : Below wa.heap.size wa Y) => show RatQ Y (.agg #[.bool s, .slice na nn nc, .slice da dn dc]) L s N D from ⟨_, _, _, _, _, _, rfl, hN.below (zAA hba hY), hD.below (zAA hba hY)⟩)
 obtain ⟨⟨P1, P2, P3⟩, hP⟩ : ∃ P, P = zFE (s, N, D) (!t, M, E) := ⟨_, rfl⟩
 have HP := hid hP
 have HVAL := hid (show sgn P1 P2 = sgn s N * E - sgn t M * D from by
  have h1 := plusQ_val (s := s) (t := !t) (N := N) (D := D) (M := M) (E := E)
  rw [<- hP] at h1
  simp only [] at h1
  have h2 : sgn (!t) M = - sgn t M := by cases t <;> simp [sgn]
  rw [h2] at h1
  rw [h1, Int.neg_mul]
  omega)
 clear hP
 obtain ⟨C, hC⟩ := exq (cmpI (sgn s N * E) (sgn t M * D))
 rw [<- hC]
 have HVC := hid (show (P2 = 0 -> C = 0) ∧ (P2 ≠ 0 -> 0 <= P2 -> P1 = false -> C = 1) ∧ (P2 ≠ 0 -> 0 <= P2 -> P1 = true -> C = -1) from by
  rw [hC]
  have hval := HVAL.out
  generalize sgn s N * E = X at hval ⊢
  generalize sgn t M * D = Y at hval ⊢
  unfold cmpI
  refine ⟨fun h => ?_, fun h h0 e => ?_, fun h h0 e => ?_⟩
  ·subst h
   have : X = Y := by unfold sgn at hval; split at hval <;> omega
   simp [this]
  ·subst e
   have : P2 = X - Y := by simpa [sgn] using hval
   rw [if_neg (by omega), if_neg (by omega)]
  ·subst e
   have : -P2 = X - Y := by simpa [sgn] using hval
   rw [if_pos (by omega)])
 clear hC HVAL
 clear hba hs1 hc hc2 hN hD hM hE
 go_enter Tryz.func21, Tryz.ntmps21
 go_wp2_with fail
 rw [<- hs, <- hwa]
 clear hs hwa
 refine zNE (OrdMid wa P1 P2) ?_ ?_
 ·refine zAH (fun j' X => wAll j' = true -> X.cell? ⟨s0, 0, none⟩ = some (.bool s) ∧ X.cell? ⟨s0, 1, none⟩ = some (.slice na nn nc) ∧ X.cell? ⟨s0, 2, none⟩ = some (.slice da dn dc) ∧ X.cell? ⟨s0 + 1, 0, none⟩ = some (.bool t) ∧ X.cell? ⟨s0 + 1, 1, none⟩ = some (.slice ma mn mc) ∧ X.cell? ⟨s0 + 1, 2, none⟩ = some (.slice ea en ec)) (by kernel_rfl) ?_
  have hbd : Below wa.heap.size wa wa.drew := (Below.refl _ _).drew
  generalize wa.drew = wd at hbd ⊢
  refine AnyT.tD (i := 0) (v := .agg #[.bool s, .slice na nn nc, .slice da dn dc]) rfl rfl (by rintro w' ⟨y1, y2, y3, y4, y5, y6⟩; go_simp) (HS.out _ hbd) ?_; go_frame
  refine AnyT.tD (i := 1) (v := .agg #[.bool t, .slice ma mn mc, .slice ea en ec]) rfl rfl (by rintro w' ⟨y1, y2, y3, y4, y5, y6⟩; go_simp) (HS.out _ hbd) ?_; go_frame
  refine AnyT.nextB (i := 2) (j := 4) (by kernel_rfl) (wpOp_of_list rfl ?_) (wpOp_of_list rfl ?_)
  ·skip
   go_wp2_with (go_at_call 23; refine (HT.out _ hbd).mono ?_; rintro e w1 ⟨vw1, rfl, ⟨ta, tn, tc, tb, tm, te, rfl, ht1, ht2⟩, hbw1⟩; refine Stop.of ?_)
   refine Stop.go ?_
   have HT8 := hid (show RatQ w1 (.agg #[.bool (!t), .slice ta tn tc, .slice tb tm te]) (3 + K) (!t) M E from ⟨_, _, _, _, _, _, rfl, ht1, ht2⟩)
   have hbT := zAA hbd hbw1
   clear ht1 ht2
   go_wp2
   refine ⟨fun _ => HS.out _ hbT, ?_⟩
   refine AnyT.nextB (i := 3) (j := 4) (by kernel_rfl) (wpOp_of_list rfl ?_) (wpOp_of_list rfl ?_)
   ·skip
    go_wp2_with (go_at_call 24; refine (zOF _ _ _ L (3 + K) _ _ _ _ _ _ (HA.out _ hbT) HT8.out (by omega) (by omega)).mono ?_; rintro e w2 ⟨vw2, rfl, ⟨pa, pn, pc, qa, qn, qc, rfl, hp1, hp2⟩, hbw2⟩; refine Stop.of ?_)
    refine Stop.go ?_
    have hbP := zAA hbT hbw2
    have HPZ := hid (show (pn = 0 ↔ P2 = 0) ∧ 0 <= P2 from by
     rw [<- HP.out] at hp1
     refine ⟨?_, hp1.nonneg⟩
     obtain ⟨_, _, _, l, e1, e2, _, _, e4, e5, e6⟩ := hp1
     cases e1
     simp only [] at e6
     rw [<- e6, zLF e4 e5, e2])
    have HPB := hid (show (zFE (s, N, D) (!t, M, E)).1 = P1 from by rw [<- HP.out])
    clear hp1 hp2
    go_wp2
    refine ⟨fun _ => HS.out _ hbP, ?_⟩
    refine AnyT.nx (i := 4) rfl ?_
    go_wp2
    have hbA := hbP.alloc hbP.size (.cells #[.bool false, .slice none 0 0, .slice none 0 0] 37)
    obtain ⟨x0, x1, x2, f0, f1, f2, hlt⟩ := rat_new (World.alloc_heap_new w2 (.cells #[.bool false, .slice none 0 0, .slice none 0 0] 37))
    have hfin := hid (fun u v z => rat_set (World.alloc_heap_new w2 (.cells #[.bool false, .slice none 0 0, .slice none 0 0] 37)) hbP.size hbA u v z)
    refine ⟨fun _ => HS.out _ hbA, ?_⟩
    generalize w2.alloc (.cells #[.bool false, .slice none 0 0, .slice none 0 0] 37) = wn at *
    generalize w2.heap.size = g at *
    refine AnyT.nx (i := 5) rfl ?_
    go_wp2
    obtain ⟨k0, k1, k2, k3⟩ := hfin.out (.bool (zFE (s, N, D) (!t, M, E)).1) (.slice pa pn pc) (.slice qa qn qc)
    refine ⟨fun _ => HS.out _ k3, ?_⟩
    refine AnyT.done (by kernel_rfl) ?_ _
    exact ⟨rfl, g, pa, pn, pc, qa, qn, qc, _, _, _, _, rfl, k0.trans (congrArg (fun q => some (Value.bool q)) HPB.out), k1, k2, HPZ.out.1, HPZ.out.2, k3⟩
   ·skip
    go_wp2
    have hbA := hbT.alloc hbT.size (.cells #[.bool false, .slice none 0 0, .slice none 0 0] 37)
    have hnew := World.alloc_heap_new w1 (.cells #[.bool false, .slice none 0 0, .slice none 0 0] 37)
    have HT9 := hid (show RatQ (w1.alloc (.cells #[.bool false, .slice none 0 0, .slice none 0 0] 37)) (.agg #[.bool (!t), .slice ta tn tc, .slice tb tm te]) (3 + K) (!t) M E from by
     obtain ⟨_, _, _, _, _, _, e, h1, h2⟩ := HT8.out
     cases e
     exact ⟨_, _, _, _, _, _, rfl, h1.below ((Below.refl _ _).alloc (Nat.le_refl _) _), h2.below ((Below.refl _ _).alloc (Nat.le_refl _) _)⟩)
    have hgN := hbT.size
    generalize w1.alloc (.cells #[.bool false, .slice none 0 0, .slice none 0 0] 37) = wn at hbA hnew HT9 ⊢
    obtain ⟨g, hg⟩ := exq (w1.heap.size)
    rw [<- hg] at hnew hgN ⊢
    clear hg HT8
    refine ⟨fun _ => HS.out _ hbA, ?_⟩
    refine AnyT.nx (i := 3) rfl ?_
    go_wp2_with (go_at_call 24; refine (zOF _ _ _ L (3 + K) _ _ _ _ _ _ (HA.out _ hbA) HT9.out (by omega) (by omega)).mono ?_; rintro e w2 ⟨vw2, rfl, ⟨pa, pn, pc, qa, qn, qc, rfl, hp1, hp2⟩, hbw2⟩; refine Stop.of ?_)
    refine Stop.go ?_
    have hbP := zAA hbA hbw2
    have HPZ := hid (show (pn = 0 ↔ P2 = 0) ∧ 0 <= P2 from by
     rw [<- HP.out] at hp1
     refine ⟨?_, hp1.nonneg⟩
     obtain ⟨_, _, _, l, e1, e2, _, _, e4, e5, e6⟩ := hp1
     cases e1
     simp only [] at e6
     rw [<- e6, zLF e4 e5, e2])
    have HPB := hid (show (zFE (s, N, D) (!t, M, E)).1 = P1 from by rw [<- HP.out])
    clear hp1 hp2
    have hnew2 := (hbw2.block g (Array.getElem?_eq_some_iff.1 hnew).1).trans hnew
    obtain ⟨x0, x1, x2, f0, f1, f2, hlt⟩ := rat_new hnew2
    have hfin := hid (fun u v z => rat_set hnew2 hgN hbP u v z)
    clear hnew2 hnew
    go_wp2
    refine ⟨fun _ => HS.out _ hbP, ?_⟩
    refine AnyT.nx (i := 5) rfl ?_
    go_wp2
    obtain ⟨k0, k1, k2, k3⟩ := hfin.out (.bool (zFE (s, N, D) (!t, M, E)).1) (.slice pa pn pc) (.slice qa qn qc)
    refine ⟨fun _ => HS.out _ k3, ?_⟩
    refine AnyT.done (by kernel_rfl) ?_ _
    exact ⟨rfl, g, pa, pn, pc, qa, qn, qc, _, _, _, _, rfl, k0.trans (congrArg (fun q => some (Value.bool q)) HPB.out), k1, k2, HPZ.out.1, HPZ.out.2, k3⟩
  ·skip
   go_wp2
   have HB0 := hbd.alloc hbd.size (.cells #[.bool false, .slice none 0 0, .slice none 0 0] 37)
   have hnew := World.alloc_heap_new wd (.cells #[.bool false, .slice none 0 0, .slice none 0 0] 37)
   have hgN := hbd.size
   generalize wd.alloc (.cells #[.bool false, .slice none 0 0, .slice none 0 0] 37) = wn at HB0 hnew ⊢
   obtain ⟨g, hg⟩ := exq (wd.heap.size)
   rw [<- hg] at hnew hgN ⊢
   clear hg
   refine ⟨fun _ => HS.out _ HB0, ?_⟩
   refine AnyT.nx (i := 2) rfl ?_
   ·skip
    go_wp2_with (go_at_call 23; refine (HT.out _ HB0).mono ?_; rintro e w1 ⟨vw1, rfl, ⟨ta, tn, tc, tb, tm, te, rfl, ht1, ht2⟩, hbw1⟩; refine Stop.of ?_)
    refine Stop.go ?_
    have HT8 := hid (show RatQ w1 (.agg #[.bool (!t), .slice ta tn tc, .slice tb tm te]) (3 + K) (!t) M E from ⟨_, _, _, _, _, _, rfl, ht1, ht2⟩)
    have hbT := zAA HB0 hbw1
    clear ht1 ht2
    have hnew1 := (hbw1.block g (Array.getElem?_eq_some_iff.1 hnew).1).trans hnew
    clear hnew
    go_wp2
    refine ⟨fun _ => HS.out _ hbT, ?_⟩
    refine AnyT.nx (i := 3) rfl ?_
    go_wp2_with (go_at_call 24; refine (zOF _ _ _ L (3 + K) _ _ _ _ _ _ (HA.out _ hbT) HT8.out (by omega) (by omega)).mono ?_; rintro e w2 ⟨vw2, rfl, ⟨pa, pn, pc, qa, qn, qc, rfl, hp1, hp2⟩, hbw2⟩; refine Stop.of ?_)
    refine Stop.go ?_
    have hbP := zAA hbT hbw2
    have HPZ := hid (show (pn = 0 ↔ P2 = 0) ∧ 0 <= P2 from by
     rw [<- HP.out] at hp1
     refine ⟨?_, hp1.nonneg⟩
     obtain ⟨_, _, _, l, e1, e2, _, _, e4, e5, e6⟩ := hp1
     cases e1
     simp only [] at e6
     rw [<- e6, zLF e4 e5, e2])
    have HPB := hid (show (zFE (s, N, D) (!t, M, E)).1 = P1 from by rw [<- HP.out])
    clear hp1 hp2
    have hnew2 := (hbw2.block g (Array.getElem?_eq_some_iff.1 hnew1).1).trans hnew1
    obtain ⟨x0, x1, x2, f0, f1, f2, hlt⟩ := rat_new hnew2
    have hfin := hid (fun u v z => rat_set hnew2 hgN hbP u v z)
    clear hnew2 hnew1
    go_wp2
    refine ⟨fun _ => HS.out _ hbP, ?_⟩
    refine AnyT.nx (i := 5) rfl ?_
    go_wp2
    obtain ⟨k0, k1, k2, k3⟩ := hfin.out (.bool (zFE (s, N, D) (!t, M, E)).1) (.slice pa pn pc) (.slice qa qn qc)
    refine ⟨fun _ => HS.out _ k3, ?_⟩
    refine AnyT.done (by kernel_rfl) ?_ _
    exact ⟨rfl, g, pa, pn, pc, qa, qn, qc, _, _, _, _, rfl, k0.trans (congrArg (fun q => some (Value.bool q)) HPB.out), k1, k2, HPZ.out.1, HPZ.out.2, k3⟩
 ·rintro fr' W ⟨g, pa, pn, pc, qa, qn, qc, r6, r7, r8, r9, rfl, c0, c1, c2, hz, h0, hbW⟩
  have HBW := hid (zAA HBA.out hbW)
  have HC := hid (show (pn = 0 -> C = 0) ∧ (pn ≠ 0 -> P1 = false -> C = 1) ∧ (pn ≠ 0 -> P1 = true -> C = -1) from
   ⟨fun h => HVC.out.1 (hz.1 h), fun h e => HVC.out.2.1 (fun h' => h (hz.2 h')) h0 e, fun h e => HVC.out.2.2 (fun h' => h (hz.2 h')) h0 e⟩)
  clear hz hbW h0 HVC HP
  go_frame
  by_cases hp : pn = 0
  ·have hpb : ((pn : Int) == 0) = true := by simp [hp]
   obtain rfl := HC.out.1 hp
   clear HC
   go_wp2
   go_ret
   exact ⟨rfl, HBW.out⟩
  ·have hpb : ((pn : Int) == 0) = false := by simp [hp]
   cases P1
   ·obtain rfl := HC.out.2.1 hp rfl
    clear HC
    go_wp2
    go_ret
    exact ⟨rfl, HBW.out⟩
   ·obtain rfl := HC.out.2.2 hp rfl
    clear HC
    go_wp2
    go_ret
    exact ⟨rfl, HBW.out⟩
end
section
open Go.RowKit
theorem RatQ.cast_den {w : World} {v : Value} {L : Nat} {s : Bool} {N D E : Int} (h : RatQ w v L s N D) (e : D = E) : RatQ w v L s N E := e ▸ h
def RatV (w : World) (v : Value) (L : Nat) (n d : Int) : Prop := ∃ s N, RatQ w v L s N d ∧ sgn s N = n
theorem RatV.below {w w' : World} {v : Value} {L : Nat} {n d : Int} (h : RatV w v L n d) (hb : Below w.heap.size w w') : RatV w' v L n d := by
 obtain ⟨s, N, h, e⟩ := h
 exact ⟨s, N, h.below hb, e⟩
theorem RatV.agg {w : World} {v : Value} {L : Nat} {n d : Int} (h : RatV w v L n d) : ∃ s a k c b m e, v = .agg #[.bool s, .slice a k c, .slice b m e] ∧ True := by
 obtain ⟨s, N, ⟨a, k, c, b, m, e, rfl, _, _⟩, _⟩ := h
 exact ⟨s, a, k, c, b, m, e, rfl, trivial⟩
theorem RatV.le {w : World} {v : Value} {L K : Nat} {n d : Int} (h : RatV w v L n d) (hk : L <= K) : RatV w v K n d := by
 obtain ⟨s, N, h, e⟩ := h
 exact ⟨s, N, h.le hk, e⟩
theorem sgn_nat (N : Int) : sgn (decide (N < 0)) (N.natAbs : Nat) = N := by
 unfold sgn
 by_cases h : N < 0 <;> simp [h] <;> omega
theorem sgn_mul (k N : Int) (s : Bool) : sgn (s != decide (k < 0)) ((k.natAbs : Nat) * N) = k * sgn s N := by
 have hk := sgn_nat k
 obtain ⟨m, hm⟩ : ∃ m : Int, m = (k.natAbs : Nat) := ⟨_, rfl⟩
 rw [<- hm] at hk ⊢
 obtain ⟨b, hb⟩ := exq (decide (k < 0))
 rw [<- hb] at hk ⊢
 subst hk
 unfold sgn
 cases s <;> cases b <;> simp [Int.neg_mul, Int.mul_neg]
theorem rplus_v (w : World) (v u : Value) (L K : Nat) (n d m e : Int) (h : RatV w v L n d) (k : RatV w u K m e) (hL : L <= 100) (hK : K <= 100) :
 Calls Tryz.prog 24 #[v, u] w fun e' w' => ∃ x, e' = .returned x ∧ RatV w' x (L + K + 1) (n * e + m * d) (d * e) ∧ Below w.heap.size w w' := by
 obtain ⟨s, N, h, rfl⟩ := h
 obtain ⟨t, M, k, rfl⟩ := k
 refine (zOF w v u L K s t N d M e h k hL hK).mono ?_
 rintro e' w' ⟨x, rfl, hx, hb⟩
 refine ⟨x, rfl, ⟨_, _, hx.cast_den plusQ_den, plusQ_val⟩, hb⟩
theorem rtimes_v (w : World) (k : Int) (v : Value) (L : Nat) (n d : Int) (hk : -4611686018427387904 <= k ∧ k <= 4611686018427387904) (h : RatV w v L n d) (hL : L <= 100) :
 Calls Tryz.prog 23 #[.int .i64 k, v] w fun e w' => ∃ x, e = .returned x ∧ RatV w' x (3 + L) (k * n) d ∧ Below w.heap.size w w' := by
 obtain ⟨s, N, h, rfl⟩ := h
 refine (rtimes_c w k v L s N d hk h hL).mono ?_
 rintro e' w' ⟨x, rfl, hx, hb⟩
 exact ⟨x, rfl, ⟨_, _, hx, sgn_mul k N s⟩, hb⟩
theorem exact_v (w : World) (N D : Int) (hN : -4611686018427387904 <= N ∧ N <= 4611686018427387904) (hD : 0 <= D ∧ D <= 4611686018427387904) :
 Calls Tryz.prog 22 #[.agg #[.int .i64 N, .int .i64 D]] w fun e w' => ∃ x, e = .returned x ∧ RatV w' x 3 N D ∧ Below w.heap.size w w' := by
 refine (exact_c w N D hN hD).mono ?_
 rintro e' w' ⟨x, rfl, hx, hb⟩
 exact ⟨x, rfl, ⟨_, _, hx, sgn_nat N⟩, hb⟩
theorem whole_v (w : World) (n : Int) (hN : -4611686018427387904 <= n ∧ n <= 4611686018427387904) :
 Calls Tryz.prog 91 #[.int .i64 n] w fun e w' => ∃ x, e = .returned x ∧ RatV w' x 3 n 1 ∧ Below w.heap.size w w' := by
 refine (nwhole_c w n hN).mono ?_
 rintro e' w' ⟨x, rfl, hx, hb⟩
 exact ⟨x, rfl, ⟨_, _, hx, sgn_nat n⟩, hb⟩
theorem zOH (w : World) (v u : Value) (L K : Nat) (n d m e : Int) (h : RatV w v L n d) (k : RatV w u K m e) (hL : L <= 100) (hK : K <= 97) :
 Calls Tryz.prog 21 #[v, u] w fun e' w' => e' = .returned (.int .i64 (cmpI (n * e) (m * d))) ∧ Below w.heap.size w w' := by
 obtain ⟨s, N, h, rfl⟩ := h
 obtain ⟨t, M, k, rfl⟩ := k
 exact rorder_c w v u L K s t N d M e h k hL hK
def zMS (w : World) (g L : Nat) (n d : Int) : Prop := ∃ s a k c b m e, w.heap[g]? = some (.cells #[.bool s, .slice a k c, .slice b m e] 37 (0, 0)) ∧ RatV w (.agg #[.bool s, .slice a k c, .slice b m e]) L n d
theorem zMS.below {w w' : World} {g L : Nat} {n d : Int} (h : zMS w g L n d) (hb : Below w.heap.size w w') : zMS w' g L n d := by
 obtain ⟨s, a, k, c, b, m, e, h1, h2⟩ := h
 exact ⟨s, a, k, c, b, m, e, (hb.block g (Array.getElem?_eq_some_iff.1 h1).1).trans h1, h2.below hb⟩
theorem zMS.le {w : World} {g L K : Nat} {n d : Int} (h : zMS w g L n d) (hk : L <= K) : zMS w g K n d := by
 obtain ⟨s, a, k, c, b, m, e, h1, h2⟩ := h
 exact ⟨s, a, k, c, b, m, e, h1, h2.le hk⟩
def QBlk (w : World) (g : Nat) : Prop := ∃ s a k c b m e, w.heap[g]? = some (.cells #[.bool s, .slice a k c, .slice b m e] 37 (0, 0))
theorem QBlk.store {w : World} {g : Nat} (h : QBlk w g) {v : Value} {L : Nat} {n d : Int} (k : RatV w v L n d) :
 ∃ s a k c b m e, v = .agg #[.bool s, .slice a k c, .slice b m e] ∧ (∀ o, o < 3 -> ∃ u, w.cell? ⟨g, o, none⟩ = some u) ∧ (∀ o, w.frozen? ⟨g, o, none⟩ = false) ∧ g < w.heap.size ∧
   zMS (((w.setCell ⟨g, 0, none⟩ (.bool s)).setCell ⟨g, 1, none⟩ (.slice a k c)).setCell ⟨g, 2, none⟩ (.slice b m e)) g L n d ∧
   RatV (((w.setCell ⟨g, 0, none⟩ (.bool s)).setCell ⟨g, 1, none⟩ (.slice a k c)).setCell ⟨g, 2, none⟩ (.slice b m e)) (.agg #[.bool s, .slice a k c, .slice b m e]) L n d := by
 obtain ⟨s0, a0, k0, c0, b0, m0, e0, h1⟩ := h
 obtain ⟨t, N, ⟨a, k, c, b, m, e, rfl, hN, hD⟩, hv⟩ := k
 have hng : ∃ c, w.heap[g]? = some (.cells c 37 (0, 0)) ∧ ∀ x : Int, ∀ o : Nat, c[o]? ≠ some (.int .i64 x) :=
  ⟨_, h1, fun x o => by match o with | 0 => simp | 1 => simp | 2 => simp | o + 3 => simp⟩
 have hr : RatV (((w.setCell ⟨g, 0, none⟩ (.bool t)).setCell ⟨g, 1, none⟩ (.slice a k c)).setCell ⟨g, 2, none⟩ (.slice b m e)) (.agg #[.bool t, .slice a k c, .slice b m e]) L n d :=
  ⟨t, N, ⟨_, _, _, _, _, _, rfl, hN.keeps3 hng, hD.keeps3 hng⟩, hv⟩
 refine ⟨t, a, k, c, b, m, e, rfl, ?_, fun o => by simp [World.frozen?, h1], (Array.getElem?_eq_some_iff.1 h1).1, ?_, hr⟩
 ·intro o ho
  match o with
  | 0 => exact ⟨_, by simp [World.cell?, h1]; rfl⟩
  | 1 => exact ⟨_, by simp [World.cell?, h1]; rfl⟩
  | 2 => exact ⟨_, by simp [World.cell?, h1]; rfl⟩
  | o + 3 => omega
 ·have h2 := zJI (zJI (zJI h1 0 (.bool t)) 1 (.slice a k c)) 2 (.slice b m e)
  exact ⟨t, a, k, c, b, m, e, h2, hr⟩
theorem sees_c (w : World) (a a2 : Option Addr) (n cap n2 cap2 : Nat) (r : List Int) (x : List Rt) (hn : r.length = n) (hn2 : x.length = n2) (hle : n <= n2) (hm : n <= 10) (H : zAK w a r) (H2 : zBS w a2 x)
 (hr : ∀ k, -1000000000000 <= vec r k ∧ vec r k <= 1000000000000) (hx : ∀ k, 0 <= (zAE x k).2 ∧ (zAE x k).2 <= 1000000000000 ∧ -1000000000000 <= (zAE x k).1 ∧ (zAE x k).1 <= 1000000000000) :
 Calls Tryz.prog 90 #[.slice a n cap, .slice a2 n2 cap2] w fun e w' => ∃ v, e = .returned v ∧ RatV w' v 90 (sumR r x n).1 (sumR r x n).2 ∧ Below w.heap.size w w' := by
 obtain ⟨s0, hs⟩ := exq (w.heap.size)
 obtain ⟨wa, hwa⟩ := exq (w.alloc (.cells #[.bool false, .slice none 0 0, .slice none 0 0] 37))
 have hba : Below w.heap.size w wa := by rw [hwa]; exact (Below.refl _ _).alloc (Nat.le_refl _) _
 have q0 : wa.heap[s0]? = some (.cells #[.bool false, .slice none 0 0, .slice none 0 0] 37 (0, 0)) := by
  rw [hwa, hs]; exact World.alloc_heap_new w _
 have hs1 : s0 < wa.heap.size := (Array.getElem?_eq_some_iff.1 q0).1
 have HQ0 := hid (fun (Y : World) (hY : Below wa.heap.size wa Y) => show QBlk Y s0 from ⟨_, _, _, _, _, _, _, (hY.block s0 hs1).trans q0⟩)
 have HBA := hid hba
 have HFIN := hid (fun (Y : World) (hY : Below wa.heap.size wa Y) (x y z : Value) => show Below w.heap.size w (((Y.setCell ⟨s0, 0, none⟩ x).setCell ⟨s0, 1, none⟩ y).setCell ⟨s0, 2, none⟩ z) from
  zAB (zAB (zAB (zAA hba hY) (by omega) 0 x) (by omega) 1 y) (by omega) 2 z)
 have HRI := hid (fun (X : World) (hX : Below wa.heap.size wa X) => H.below (zAA hba hX))
 have HXI := hid (fun (X : World) (hX : Below wa.heap.size wa X) => H2.below (zAA hba hX))
 have HR := hid hr
 have HX := hid hx
 have HN := hid hn
 have HN2 := hid hn2
 have HSZ := hid (show sumR r x 0 = (0, 1) from rfl)
 have HSR := hid (fun t => show sumR r x (t + 1) = if vec r t ≠ 0 then ((sumR r x t).1 * (zAE x t).2 + (sumR r x t).2 * ((zAE x t).1 * vec r t), (sumR r x t).2 * (zAE x t).2) else sumR r x t from rfl)
 clear hba q0 hs1 H H2 hr hx hn hn2
 go_enter Tryz.func90, Tryz.ntmps90
 go_wp2_with fail
 rw [<- hs, <- hwa]
 clear hs hwa
 go_wp2_with (go_at_call 91; refine (whole_v _ 0 (by decide)).mono ?_; rintro e w1 ⟨v1, rfl, hv1, hb1⟩; refine Stop.of ?_)
 refine Stop.go ?_
 obtain ⟨ss, sa, sk, sc, sb, sm', se, rfl, _⟩ := hv1.agg
 have HV1 := hid hv1
 have HB1 := hid hb1
 clear hv1 hb1
 go_wp2_with fail
 obtain ⟨wb, hwb⟩ := exq (w1.alloc (.cells #[.bool ss, .slice sa sk sc, .slice sb sm' se] 37))
 obtain ⟨g, hg⟩ := exq (w1.heap.size)
 have hrb : zMS wb g 3 0 1 := by
  rw [hwb, hg]
  exact ⟨ss, sa, sk, sc, sb, sm', se, World.alloc_heap_new _ _, HV1.out.below ((Below.refl _ _).alloc (Nat.le_refl _) _)⟩
 have hbb : Below wa.heap.size wa wb := by rw [hwb]; exact HB1.out.alloc HB1.out.size _
 have hgs : wa.heap.size <= g := by rw [hg]; exact HB1.out.size
 rw [<- hwb, <- hg]
 have HRB := hid hrb
 have HBB := hid hbb
 clear hwb hg hrb hbb HV1 HB1
 go_loopw [11] (fun i wr => ∃ t : Nat, t <= n ∧ i = .int .i64 t ∧ zMS wr g (3 + 7 * t) (sumR r x t).1 (sumR r x t).2 ∧ Below wa.heap.size wa wr) (fun i _ => n - (intOf i).toNat)
 case atStart => exact ⟨0, Nat.zero_le _, rfl, by rw [HSZ.out]; exact HRB.out, HBB.out⟩
 case round =>
  obtain ⟨t, ht, rfl, hrr, hbr⟩ := hrel
  by_cases htl : t < n
  ·obtain ⟨b6, o6, rfl, hb6, hc6⟩ := (HRI.out wr hbr) t (by rw [HN.out]; exact htl)
   have hv6 : r[t]?.getD 0 = vec r t := rfl
   rw [hv6] at hc6
   have hone := HR.out t
   have hsr := HSR.out t
   obtain ⟨v, hv⟩ := exq (vec r t)
   rw [<- hv] at hc6 hsr hone
   have i1 : (t : Int) < (n : Int) := by omega
   by_cases h0 : v = 0
   ·rw [if_neg (by simp [h0])] at hsr
    have hvb : (v != 0) = false := by simp [h0]
    have HSX := hid hsr
    have HRR := hid hrr
    have HBR := hid hbr
    clear hv6 hv hsr hrr hbr
    go_wp2
    refine ⟨⟨t + 1, by omega, by go_num, by rw [HSX.out]; exact HRR.out.le (by omega), HBR.out⟩, by simp [intOf]; omega⟩
   ·rw [if_pos h0] at hsr
    have hvb : (v != 0) = true := by simp [h0]
    obtain ⟨x1, x2, x3, x4⟩ := HX.out t
    have htx : t < x.length := by rw [HN2.out]; omega
    obtain ⟨bx, ox, rfl, hbx, hx0, hx1⟩ := (HXI.out wr hbr) t htx
    have hxt : zAE x t = x[t]'htx := by unfold zAE; rw [List.getElem?_eq_getElem htx]; rfl
    rw [<- hxt] at hx0 hx1
    have HSX := hid hsr
    obtain ⟨⟨N, D⟩, hND⟩ : ∃ q, q = zAE x t := ⟨_, rfl⟩
    rw [<- hND] at hx0 hx1 x1 x2 x3 x4 HSX
    obtain ⟨⟨sn, sd⟩, hS⟩ : ∃ q, q = sumR r x t := ⟨_, rfl⟩
    rw [<- hS] at hrr HSX
    simp only [] at hx0 hx1 x1 x2 x3 x4 HSX hrr
    obtain ⟨us, ua, uk, uc, ub, um, ue, hgb, hrv⟩ := hrr
    have hglt := (Array.getElem?_eq_some_iff.1 hgb).1
    have HQB := hid (fun (X : World) (hX : Below wr.heap.size wr X) => show QBlk X g from ⟨us, ua, uk, uc, ub, um, ue, (hX.block g hglt).trans hgb⟩)
    have HRV := hid (fun (X : World) (hX : Below wr.heap.size wr X) => hrv.below hX)
    have HS := hid (fun (X : World) (hX : Below wr.heap.size wr X) => show X.cell? ⟨g, 0, none⟩ = some (.bool us) ∧ X.cell? ⟨g, 1, none⟩ = some (.slice ua uk uc) ∧ X.cell? ⟨g, 2, none⟩ = some (.slice ub um ue) ∧ X.cell? ⟨bx, ox + t * 2, none⟩ = some (.int .i64 N) ∧ X.cell? ⟨bx, ox + t * 2 + 1, none⟩ = some (.int .i64 D) from by
     have h1 := (hX.block g hglt).trans hgb
     exact ⟨by simp [World.cell?, h1], by simp [World.cell?, h1], by simp [World.cell?, h1], (hX.cell (p := ⟨bx, _, none⟩) hbx).trans hx0, (hX.cell (p := ⟨bx, _, none⟩) hbx).trans hx1⟩)
    have htl2 : (t : Int) < (n2 : Int) := by omega
    have HBR := hid hbr
    have HV := hid hone
    have hN1 : -4611686018427387904 <= N ∧ N <= 4611686018427387904 := by omega
    have hD1 : 0 <= D ∧ D <= 4611686018427387904 := by omega
    have HN1 := hid hN1
    have HD1 := hid hD1
    have htn : t < 10 := by omega
    clear hv6 hv hsr hbr x1 x2 x3 x4 hND hS hx0 hx1 hxt hgb hrv hone hN1 hD1
    go_wp2
    refine zAH (fun j' X => decide (j' <= 8) = true -> X.cell? ⟨g, 0, none⟩ = some (.bool us) ∧ X.cell? ⟨g, 1, none⟩ = some (.slice ua uk uc) ∧ X.cell? ⟨g, 2, none⟩ = some (.slice ub um ue) ∧ X.cell? ⟨bx, ox + t * 2, none⟩ = some (.int .i64 N) ∧ X.cell? ⟨bx, ox + t * 2 + 1, none⟩ = some (.int .i64 D)) (by kernel_rfl) ?_
    have hbd : Below wr.heap.size wr wr.drew := (Below.refl _ _).drew
    generalize wr.drew = wd at hbd ⊢
    refine AnyT.tD (i := 0) (v := .agg #[.bool us, .slice ua uk uc, .slice ub um ue]) rfl rfl (by rintro w' ⟨y1, y2, y3, y4, y5⟩; go_simp) (HS.out _ hbd) ?_; go_frame
    refine AnyT.tD (i := 1) (v := .int .i64 v) rfl rfl (by rintro w' ⟨y1, y2, y3, y4, y5⟩; go_simp) (HS.out _ hbd) ?_; go_frame
    refine AnyT.tD (i := 2) (v := .slice (some ⟨bx, ox, none⟩) n2 cap2) rfl rfl (by rintro w' ⟨y1, y2, y3, y4, y5⟩; go_simp) (HS.out _ hbd) ?_; go_frame
    refine AnyT.tD (i := 3) (v := .int .i64 t) rfl rfl (by rintro w' ⟨y1, y2, y3, y4, y5⟩; go_simp) (HS.out _ hbd) ?_; go_frame
    refine AnyT.tD (i := 4) (v := .pointer (some ⟨bx, ox + t * 2, none⟩)) rfl rfl (by rintro w' ⟨y1, y2, y3, y4, y5⟩; go_simp) (HS.out _ hbd) ?_; go_frame
    refine AnyT.tD (i := 5) (v := .agg #[.int .i64 N, .int .i64 D]) rfl rfl (by rintro w' ⟨y1, y2, y3, y4, y5⟩; go_simp) (HS.out _ hbd) ?_; go_frame
    refine AnyT.nx (i := 6) rfl ?_
    go_wp2_with (go_at_call 22; refine (exact_v _ N D HN1.out HD1.out).mono ?_; rintro e w4 ⟨v4, rfl, hv4, hb4⟩; refine Stop.of ?_)
    refine Stop.go ?_
    obtain ⟨ps, pa, pk, pc, pb, pm, pe, rfl, _⟩ := hv4.agg
    have HB4 := hid (zAA hbd hb4)
    have HV4 := hid hv4
    clear hv4 hb4
    go_wp2
    refine ⟨fun _ => HS.out _ HB4.out, ?_⟩
    refine AnyT.nx (i := 7) rfl ?_
    go_wp2_with (go_at_call 23; refine (rtimes_v _ v _ 3 N D (by have := HV.out; omega) HV4.out (by omega)).mono ?_; rintro e w5 ⟨v5, rfl, hv5, hb5⟩; refine Stop.of ?_)
    refine Stop.go ?_
    obtain ⟨qs, qa, qk, qc, qb, qm, qe, rfl, _⟩ := hv5.agg
    have HB5 := hid (zAA HB4.out hb5)
    have HV5 := hid hv5
    clear hv5 hb5 HV4
    go_wp2
    refine ⟨fun _ => HS.out _ HB5.out, ?_⟩
    refine AnyT.nx (i := 8) rfl ?_
    go_wp2_with (go_at_call 24; refine (rplus_v _ _ _ (3 + 7 * t) (3 + 3) sn sd (v * N) D (HRV.out _ HB5.out) HV5.out (by omega) (by omega)).mono ?_; rintro e w6 ⟨v6, rfl, hv6, hb6⟩; refine Stop.of ?_)
    refine Stop.go ?_
    obtain ⟨zs, za, zk, zc, zb, zm, ze, e6, hcl, hfz, hlt, hin, _⟩ := (HQB.out _ (zAA HB5.out hb6)).store hv6
    subst e6
    have HB6 := hid (zAA HBR.out (zAA HB5.out hb6))
    have HB7 := hid (zAA HB5.out hb6)
    obtain ⟨u0, x0⟩ := hcl 0 (by omega)
    obtain ⟨u1, x1⟩ := hcl 1 (by omega)
    obtain ⟨u2, x2⟩ := hcl 2 (by omega)
    have f0 := hfz 0
    have f1 := hfz 1
    have f2 := hfz 2
    have HIN := hid (hin.le (show 3 + 7 * t + (3 + 3) + 1 <= 3 + 7 * (t + 1) by omega))
    have HBE := hid (show Below wa.heap.size wa (((w6.setCell ⟨g, 0, none⟩ (.bool zs)).setCell ⟨g, 1, none⟩ (.slice za zk zc)).setCell ⟨g, 2, none⟩ (.slice zb zm ze)) from zAB (zAB (zAB HB6.out hgs 0 _) hgs 1 _) hgs 2 _)
    clear hcl hfz hin hv6 hb6 HV5
    go_wp2
    refine ⟨fun _ => HS.out _ HB7.out, ?_⟩
    refine AnyT.nx (i := 9) rfl ?_
    go_wp2
    refine ⟨fun h => absurd h (by decide), ?_⟩
    refine AnyT.done (by kernel_rfl) ?_ _
    go_wp2
    refine ⟨⟨t + 1, by omega, by go_num, ?_, HBE.out⟩, by simp [intOf]; omega⟩
    rw [HSX.out]
    have hin := HIN.out
    have e1 : v * N * sd = sd * (N * v) := by rw [Int.mul_comm v N, Int.mul_comm]
    rw [e1] at hin
    exact hin
  ·obtain rfl : t = n := by omega
   have hni : ¬ (t : Int) < (t : Int) := by omega
   obtain ⟨us, ua, uk, uc, ub, um, ue, hgb, hrv⟩ := hrr
   obtain ⟨zs, za, zk, zc, zb, zm, ze, e6, hcl, hfz, hlt, hin, hout⟩ := (HQ0.out _ hbr).store hrv
   cases e6
   obtain ⟨u0, x0⟩ := hcl 0 (by omega)
   obtain ⟨u1, x1⟩ := hcl 1 (by omega)
   obtain ⟨u2, x2⟩ := hcl 2 (by omega)
   have f0 := hfz 0
   have f1 := hfz 1
   have f2 := hfz 2
   have g0 : wr.cell? ⟨g, 0, none⟩ = some (.bool us) := by simp [World.cell?, hgb]
   have g1 : wr.cell? ⟨g, 1, none⟩ = some (.slice ua uk uc) := by simp [World.cell?, hgb]
   have g2 : wr.cell? ⟨g, 2, none⟩ = some (.slice ub um ue) := by simp [World.cell?, hgb]
   have HOUT := hid (hout.le (show 3 + 7 * t <= 90 by omega))
   have HFI := hid (HFIN.out _ hbr (.bool us) (.slice ua uk uc) (.slice ub um ue))
   clear hcl hfz hin hout hrv hbr hgb
   go_wp2
   refine bodyPost_ret (v := .agg #[.bool us, .slice ua uk uc, .slice ub um ue]) ?_ rfl ⟨_, rfl, HOUT.out, HFI.out⟩
   simp [results, Tryz.results90, go_sem, x0, x1, x2, f0, f1, f2, hlt]
end
section
open Go.RowKit
theorem rsize_c (w : World) (v : Value) (L : Nat) (s : Bool) (N D : Int) (h : RatQ w v L s N D) :
 Calls Tryz.prog 125 #[v] w fun e w' => ∃ x, e = .returned x ∧ RatQ w' x L false N D ∧ Below w.heap.size w w' := by
 obtain ⟨na, nn, nc, da, dn, dc, rfl, hN, hD⟩ := h
 obtain ⟨s0, hs⟩ := exq (w.heap.size)
 obtain ⟨wa, hwa⟩ := exq ((w.alloc (.cells #[.bool s, .slice na nn nc, .slice da dn dc] 37)).alloc (.cells #[.bool false, .slice none 0 0, .slice none 0 0] 37))
 have hba : Below w.heap.size w wa := by rw [hwa]; exact ((Below.refl _ _).alloc (Nat.le_refl _) _).alloc (by simp) _
 have q0 : wa.heap[s0 + 1]? = some (.cells #[.bool false, .slice none 0 0, .slice none 0 0] 37 (0, 0)) := by
  have := World.alloc_heap_new (w.alloc (.cells #[.bool s, .slice na nn nc, .slice da dn dc] 37)) (.cells #[.bool false, .slice none 0 0, .slice none 0 0] 37)
  rw [hwa, hs]
  simpa using this
 have hs1 : s0 + 1 < wa.heap.size := (Array.getElem?_eq_some_iff.1 q0).1
 have hc : ∀ o v, (#[Value.bool s, .slice na nn nc, .slice da dn dc] : Array Value)[o]? = some v -> wa.cell? ⟨s0, o, none⟩ = some v := fun o v h => by
  rw [hwa, hs, World.cell?_alloc_past _ _ _ (by simp), World.cell?_alloc_at _ _ _ _ rfl]; exact h
 have HS := hid (fun (Y : World) (hY : Below wa.heap.size wa Y) => show Y.cell? ⟨s0, 0, none⟩ = some (.bool s) ∧ Y.cell? ⟨s0, 1, none⟩ = some (.slice na nn nc) ∧ Y.cell? ⟨s0, 2, none⟩ = some (.slice da dn dc) from by
  have k0 : ∀ o, Y.cell? ⟨s0, o, none⟩ = wa.cell? ⟨s0, o, none⟩ := fun o => hY.cell (p := ⟨s0, o, none⟩) (by show s0 < _; omega)
  exact ⟨(k0 0).trans (hc 0 _ rfl), (k0 1).trans (hc 1 _ rfl), (k0 2).trans (hc 2 _ rfl)⟩)
 have HR := hid (fun (Y : World) (hY : Below wa.heap.size wa Y) => show Y.cell? ⟨s0 + 1, 0, none⟩ = some (.bool false) ∧ Y.cell? ⟨s0 + 1, 1, none⟩ = some (.slice none 0 0) ∧ Y.cell? ⟨s0 + 1, 2, none⟩ = some (.slice none 0 0) ∧ (∀ o, Y.frozen? ⟨s0 + 1, o, none⟩ = false) ∧ s0 + 1 < Y.heap.size from by
  have h1 := (hY.block (s0 + 1) hs1).trans q0
  exact ⟨by simp [World.cell?, h1], by simp [World.cell?, h1], by simp [World.cell?, h1], fun o => by simp [World.frozen?, h1], (Array.getElem?_eq_some_iff.1 h1).1⟩)
 have HFIN := hid (fun (Y : World) (hY : Below wa.heap.size wa Y) (x y z : Value) => show Below w.heap.size w (((Y.setCell ⟨s0 + 1, 0, none⟩ x).setCell ⟨s0 + 1, 1, none⟩ y).setCell ⟨s0 + 1, 2, none⟩ z) from
  zAB (zAB (zAB (zAA hba hY) (by omega) 0 x) (by omega) 1 y) (by omega) 2 z)
 have HNG := hid (fun (Y : World) (hY : Below wa.heap.size wa Y) => show ∃ c, Y.heap[s0 + 1]? = some (.cells c 37 (0, 0)) ∧ ∀ x : Int, ∀ o : Nat, c[o]? ≠ some (.int .i64 x) from
  ⟨_, (hY.block (s0 + 1) hs1).trans q0, fun x o => by match o with | 0 => simp | 1 => simp | 2 => simp | o + 3 => simp⟩)
 have HNN := hid (fun (Y : World) (hY : Below wa.heap.size wa Y) => And.intro (hN.below (zAA hba hY)) (hD.below (zAA hba hY)))
 obtain ⟨c0, c1, c2⟩ := HS.out wa (Below.refl _ _)
 obtain ⟨x0, x1, x2, hfz, hlt⟩ := HR.out wa (Below.refl _ _)
 have f0 := hfz 0
 have f1 := hfz 1
 have f2 := hfz 2
 have HK1 := hid ((HNN.out wa (Below.refl _ _)).1.keeps3 (g := s0 + 1) (u := .bool false) (v := .slice na nn nc) (z := .slice da dn dc) (HNG.out _ (Below.refl _ _)))
 have HK2 := hid ((HNN.out wa (Below.refl _ _)).2.keeps3 (g := s0 + 1) (u := .bool false) (v := .slice na nn nc) (z := .slice da dn dc) (HNG.out _ (Below.refl _ _)))
 have HFI := hid (HFIN.out _ (Below.refl _ _) (.bool false) (.slice na nn nc) (.slice da dn dc))
 have HWA := hid hwa
 have HSS := hid hs
 clear hba q0 hs1 hc hN hD hfz hwa
 go_enter Tryz.func125, Tryz.ntmps125
 go_upto_region 1 with fail
 rw [<- hs, <- HWA.out]
 clear hs
 go_wp2
 refine bodyPost_ret (v := .agg #[.bool false, .slice na nn nc, .slice da dn dc]) ?_ rfl ⟨_, rfl, ⟨_, _, _, _, _, _, rfl, HK1.out, HK2.out⟩, HFI.out⟩
 simp [results, Tryz.results125, go_sem, x0, x1, x2, f0, f1, f2, hlt]
theorem rsize_v (w : World) (v : Value) (L : Nat) (n d : Int) (h : RatV w v L n d) :
 Calls Tryz.prog 125 #[v] w fun e w' => ∃ x, e = .returned x ∧ RatV w' x L (n.natAbs : Nat) d ∧ Below w.heap.size w w' := by
 obtain ⟨s, N, h, rfl⟩ := h
 refine (rsize_c w v L s N d h).mono ?_
 rintro e w' ⟨x, rfl, hx, hb⟩
 have h0 : 0 <= N := by obtain ⟨_, _, _, _, _, _, _, hN, _⟩ := h; exact hN.nonneg
 refine ⟨x, rfl, ⟨false, N, hx, ?_⟩, hb⟩
 unfold sgn; cases s <;> simp <;> omega
end
section
open Go.RowKit
theorem zKS (w : World) (a2 : Option Addr) (n cap2 : Nat) (x : List Rt) (hn : x.length = n) (hm : n <= 10) (H2 : zBS w a2 x)
 (hx : ∀ k, 0 <= (zAE x k).2 ∧ (zAE x k).2 <= 1000000000000 ∧ -1000000000000 <= (zAE x k).1 ∧ (zAE x k).1 <= 1000000000000) :
 Calls Tryz.prog 87 #[.slice a2 n cap2] w fun e w' => ∃ v, e = .returned v ∧ RatV w' v 90 (zFQ x).1 (zFQ x).2 ∧ Below w.heap.size w w' := by
 obtain ⟨s0, hs⟩ := exq (w.heap.size)
 obtain ⟨wa, hwa⟩ := exq (w.alloc (.cells #[.bool false, .slice none 0 0, .slice none 0 0] 37))
 have hba : Below w.heap.size w wa := by rw [hwa]; exact (Below.refl _ _).alloc (Nat.le_refl _) _
 have q0 : wa.heap[s0]? = some (.cells #[.bool false, .slice none 0 0, .slice none 0 0] 37 (0, 0)) := by
  rw [hwa, hs]; exact World.alloc_heap_new w _
 have hs1 : s0 < wa.heap.size := (Array.getElem?_eq_some_iff.1 q0).1
 have HQ0 := hid (fun (Y : World) (hY : Below wa.heap.size wa Y) => show QBlk Y s0 from ⟨_, _, _, _, _, _, _, (hY.block s0 hs1).trans q0⟩)
 have HBA := hid hba
 have HFIN := hid (fun (Y : World) (hY : Below wa.heap.size wa Y) (x y z : Value) => show Below w.heap.size w (((Y.setCell ⟨s0, 0, none⟩ x).setCell ⟨s0, 1, none⟩ y).setCell ⟨s0, 2, none⟩ z) from
  zAB (zAB (zAB (zAA hba hY) (by omega) 0 x) (by omega) 1 y) (by omega) 2 z)
 have HXI := hid (fun (X : World) (hX : Below wa.heap.size wa X) => H2.below (zAA hba hX))
 have HX := hid hx
 have HN := hid hn
 have HSQ := hid (show zFQ x = nrmS x n by unfold zFQ; rw [hn])
 have HSZ := hid (show nrmS x 0 = (0, 1) from rfl)
 have HSR := hid (fun t => show nrmS x (t + 1) = if (zAE x t).1 ≠ 0 then ((nrmS x t).1 * (zAE x t).2 + ((zAE x t).1.natAbs : Int) * (nrmS x t).2, (nrmS x t).2 * (zAE x t).2) else nrmS x t from rfl)
 clear hba q0 hs1 H2 hx hn
 go_enter Tryz.func87, Tryz.ntmps87
 go_wp2_with fail
 rw [<- hs, <- hwa]
 clear hs hwa
 go_wp2_with (go_at_call 91; refine (whole_v _ 0 (by decide)).mono ?_; rintro e w1 ⟨v1, rfl, hv1, hb1⟩; refine Stop.of ?_)
 refine Stop.go ?_
 obtain ⟨ss, sa, sk, sc, sb, sm', se, rfl, _⟩ := hv1.agg
 have HV1 := hid hv1
 have HB1 := hid hb1
 clear hv1 hb1
 go_wp2_with fail
 obtain ⟨wb, hwb⟩ := exq (w1.alloc (.cells #[.bool ss, .slice sa sk sc, .slice sb sm' se] 37))
 obtain ⟨g, hg⟩ := exq (w1.heap.size)
 have hrb : zMS wb g 3 0 1 := by
  rw [hwb, hg]
  exact ⟨ss, sa, sk, sc, sb, sm', se, World.alloc_heap_new _ _, HV1.out.below ((Below.refl _ _).alloc (Nat.le_refl _) _)⟩
 have hbb : Below wa.heap.size wa wb := by rw [hwb]; exact HB1.out.alloc HB1.out.size _
 have hgs : wa.heap.size <= g := by rw [hg]; exact HB1.out.size
 rw [<- hwb, <- hg]
 have HRB := hid hrb
 have HBB := hid hbb
 clear hwb hg hrb hbb HV1 HB1
 go_loopw [9] (fun i wr => ∃ t : Nat, t <= n ∧ i = .int .i64 t ∧ zMS wr g (3 + 7 * t) (nrmS x t).1 (nrmS x t).2 ∧ Below wa.heap.size wa wr) (fun i _ => n - (intOf i).toNat)
 case atStart => exact ⟨0, Nat.zero_le _, rfl, by rw [HSZ.out]; exact HRB.out, HBB.out⟩
 case round =>
  obtain ⟨t, ht, rfl, hrr, hbr⟩ := hrel
  by_cases htl : t < n
  ·have htx : t < x.length := by rw [HN.out]; exact htl
   obtain ⟨bx, ox, rfl, hbx, hx0, hx1⟩ := (HXI.out wr hbr) t htx
   have hxt : zAE x t = x[t]'htx := by unfold zAE; rw [List.getElem?_eq_getElem htx]; rfl
   rw [<- hxt] at hx0 hx1
   obtain ⟨x1, x2, x3, x4⟩ := HX.out t
   have hsr := HSR.out t
   obtain ⟨⟨N, D⟩, hND⟩ : ∃ q, q = zAE x t := ⟨_, rfl⟩
   rw [<- hND] at hx0 hx1 x1 x2 x3 x4 hsr
   simp only [] at hx0 hx1 x1 x2 x3 x4 hsr
   have i0 : (0 : Int) <= (t : Int) := by omega
   have i1 : (t : Int) < (n : Int) := by omega
   have HRR := hid hrr
   have HBR := hid hbr
   have HXS := hid hsr
   have HND := hid (And.intro (And.intro x3 x4) (And.intro x1 x2))
   clear hsr hND hxt hrr hbr x1 x2 x3 x4 hbx
   go_upto_region 5 with fail
   obtain ⟨h, hh⟩ := exq (wr.heap.size)
   obtain ⟨wh, hwh⟩ := exq (wr.alloc (.cells #[.int .i64 N, .int .i64 D] 29))
   rw [<- hh, <- hwh]
   have hbh : Below wr.heap.size wr wh := by rw [hwh]; exact (Below.refl _ _).alloc (Nat.le_refl _) _
   have HRH := hid (show RatI wh h (N, D) by rw [hwh, hh]; exact RatI.made wr (N, D))
   have HBH := hid (zAA HBR.out hbh)
   have HRR2 := hid (HRR.out.below hbh)
   clear hx0 hx1 hh hwh hbh
   obtain ⟨h0, h1, _⟩ := HRH.out.cells
   simp only [] at h0 h1
   by_cases hz : N = 0
   ·have hvb : (N != 0) = false := by simp [hz]
    have HNX := hid (show nrmS x (t + 1) = nrmS x t by rw [HXS.out, if_neg (by simp [hz])])
    clear hz
    go_wp2
    refine ⟨⟨t + 1, by omega, by go_num, by rw [HNX.out]; exact HRR2.out.le (by omega), HBH.out⟩, by simp [intOf]; omega⟩
   ·have hvb : (N != 0) = true := by simp [hz]
    obtain ⟨⟨sn, sd⟩, hS⟩ : ∃ q, q = nrmS x t := ⟨_, rfl⟩
    have hXS := HXS.out
    rw [if_pos hz, <- hS] at hXS
    have HNX := hid hXS
    obtain ⟨us, ua, uk, uc, ub, um, ue, hgb, hrv⟩ := HRR2.out
    rw [<- hS] at hrv
    simp only [] at hrv
    have hglt := (Array.getElem?_eq_some_iff.1 hgb).1
    have HQB := hid (fun (X : World) (hX : Below wh.heap.size wh X) => show QBlk X g from ⟨us, ua, uk, uc, ub, um, ue, (hX.block g hglt).trans hgb⟩)
    have HRV := hid (fun (X : World) (hX : Below wh.heap.size wh X) => hrv.below hX)
    have HS := hid (fun (X : World) (hX : Below wh.heap.size wh X) => show X.cell? ⟨g, 0, none⟩ = some (.bool us) ∧ X.cell? ⟨g, 1, none⟩ = some (.slice ua uk uc) ∧ X.cell? ⟨g, 2, none⟩ = some (.slice ub um ue) ∧ X.cell? ⟨h, 0, none⟩ = some (.int .i64 N) ∧ X.cell? ⟨h, 1, none⟩ = some (.int .i64 D) from by
     have h1 := (hX.block g hglt).trans hgb
     obtain ⟨c0, c1, _⟩ := (HRH.out.keep (hX.block _ HRH.out.lt)).cells
     exact ⟨by simp [World.cell?, h1], by simp [World.cell?, h1], by simp [World.cell?, h1], c0, c1⟩)
    have htn : t < 10 := by omega
    clear hXS hS hgb hrv hz
    go_upto_region 6 with fail
    clear h0 h1
    refine zAH (fun j' X => decide (j' <= 4) = true -> X.cell? ⟨g, 0, none⟩ = some (.bool us) ∧ X.cell? ⟨g, 1, none⟩ = some (.slice ua uk uc) ∧ X.cell? ⟨g, 2, none⟩ = some (.slice ub um ue) ∧ X.cell? ⟨h, 0, none⟩ = some (.int .i64 N) ∧ X.cell? ⟨h, 1, none⟩ = some (.int .i64 D)) (by kernel_rfl) ?_
    have hbd : Below wh.heap.size wh wh.drew := (Below.refl _ _).drew
    generalize wh.drew = wd at hbd ⊢
    refine AnyT.tD (i := 0) (v := .agg #[.bool us, .slice ua uk uc, .slice ub um ue]) rfl rfl (by rintro w' ⟨y1, y2, y3, y4, y5⟩; go_simp) (HS.out _ hbd) ?_; go_frame
    refine AnyT.tD (i := 1) (v := .agg #[.int .i64 N, .int .i64 D]) rfl rfl (by rintro w' ⟨y1, y2, y3, y4, y5⟩; go_simp) (HS.out _ hbd) ?_; go_frame
    refine AnyT.nx (i := 2) rfl ?_
    go_wp2_with (go_at_call 22; refine (exact_v _ N D (by have := HND.out; omega) (by have := HND.out; omega)).mono ?_; rintro e w4 ⟨v4, rfl, hv4, hb4⟩; refine Stop.of ?_)
    refine Stop.go ?_
    obtain ⟨ps, pa, pk, pc, pb, pm, pe, rfl, _⟩ := hv4.agg
    have HB4 := hid (zAA hbd hb4)
    have HV4 := hid hv4
    clear hv4 hb4
    go_wp2
    refine ⟨fun _ => HS.out _ HB4.out, ?_⟩
    refine AnyT.nx (i := 3) rfl ?_
    go_wp2_with (go_at_call 125; refine (rsize_v _ _ 3 N D HV4.out).mono ?_; rintro e w5 ⟨v5, rfl, hv5, hb5⟩; refine Stop.of ?_)
    refine Stop.go ?_
    obtain ⟨qs, qa, qk, qc, qb, qm, qe, rfl, _⟩ := hv5.agg
    have HB5 := hid (zAA HB4.out hb5)
    have HV5 := hid hv5
    clear hv5 hb5 HV4
    go_wp2
    refine ⟨fun _ => HS.out _ HB5.out, ?_⟩
    refine AnyT.nx (i := 4) rfl ?_
    go_wp2_with (go_at_call 24; refine (rplus_v _ _ _ (3 + 7 * t) 3 sn sd (N.natAbs : Nat) D (HRV.out _ HB5.out) HV5.out (by omega) (by omega)).mono ?_; rintro e w6 ⟨v6, rfl, hv6, hb6⟩; refine Stop.of ?_)
    refine Stop.go ?_
    obtain ⟨zs, za, zk, zc, zb, zm, ze, e6, hcl, hfz, hlt, hin, _⟩ := (HQB.out _ (zAA HB5.out hb6)).store hv6
    subst e6
    have HB6 := hid (zAA HBH.out (zAA HB5.out hb6))
    have HB7 := hid (zAA HB5.out hb6)
    obtain ⟨u0, x0⟩ := hcl 0 (by omega)
    obtain ⟨u1, x1⟩ := hcl 1 (by omega)
    obtain ⟨u2, x2⟩ := hcl 2 (by omega)
    have f0 := hfz 0
    have f1 := hfz 1
    have f2 := hfz 2
    have HIN := hid (hin.le (show 3 + 7 * t + 3 + 1 <= 3 + 7 * (t + 1) by omega))
    have HBE := hid (show Below wa.heap.size wa (((w6.setCell ⟨g, 0, none⟩ (.bool zs)).setCell ⟨g, 1, none⟩ (.slice za zk zc)).setCell ⟨g, 2, none⟩ (.slice zb zm ze)) from zAB (zAB (zAB HB6.out hgs 0 _) hgs 1 _) hgs 2 _)
    clear hcl hfz hin hv6 hb6 HV5
    go_wp2
    refine ⟨fun _ => HS.out _ HB7.out, ?_⟩
    refine AnyT.nx (i := 5) rfl ?_
    go_wp2
    refine ⟨fun h => absurd h (by decide), ?_⟩
    refine AnyT.done (by kernel_rfl) ?_ _
    go_wp2
    refine ⟨⟨t + 1, by omega, by go_num, ?_, HBE.out⟩, by simp [intOf]; omega⟩
    rw [HNX.out]
    exact HIN.out
  ·obtain rfl : t = n := by omega
   have hni : ¬ (t : Int) < (t : Int) := by omega
   rw [<- HSQ.out] at hrr
   obtain ⟨us, ua, uk, uc, ub, um, ue, hgb, hrv⟩ := hrr
   obtain ⟨zs, za, zk, zc, zb, zm, ze, e6, hcl, hfz, hlt, hin, hout⟩ := (HQ0.out _ hbr).store hrv
   cases e6
   obtain ⟨u0, x0⟩ := hcl 0 (by omega)
   obtain ⟨u1, x1⟩ := hcl 1 (by omega)
   obtain ⟨u2, x2⟩ := hcl 2 (by omega)
   have f0 := hfz 0
   have f1 := hfz 1
   have f2 := hfz 2
   have g0 : wr.cell? ⟨g, 0, none⟩ = some (.bool us) := by simp [World.cell?, hgb]
   have g1 : wr.cell? ⟨g, 1, none⟩ = some (.slice ua uk uc) := by simp [World.cell?, hgb]
   have g2 : wr.cell? ⟨g, 2, none⟩ = some (.slice ub um ue) := by simp [World.cell?, hgb]
   have HOUT := hid (hout.le (show 3 + 7 * t <= 90 by omega))
   have HFI := hid (HFIN.out _ hbr (.bool us) (.slice ua uk uc) (.slice ub um ue))
   clear hcl hfz hin hout hrv hbr hgb
   go_wp2
   refine bodyPost_ret (v := .agg #[.bool us, .slice ua uk uc, .slice ub um ue]) ?_ rfl ⟨_, rfl, HOUT.out, HFI.out⟩
   simp [results, Tryz.results87, go_sem, x0, x1, x2, f0, f1, f2, hlt]
end
section
open Go.RowKit
theorem r3validR_c (w : World) (N D : Int) : Calls Tryz.prog 156 #[.agg #[.int .i64 N, .int .i64 D]] w fun e w' => e = .returned (.bool (zAJ (N, D))) ∧ Below w.heap.size w w' := by
 obtain ⟨wz, hwz⟩ := exq (w.alloc (.cells #[.int .i64 N, .int .i64 D] 29))
 have hbz : Below w.heap.size w wz := by rw [hwz]; exact (Below.refl _ _).alloc (Nat.le_refl _) _
 have l0 : wz.cell? ⟨w.heap.size, 0, none⟩ = some (.int .i64 N) := by rw [hwz, World.cell?_alloc_at _ _ _ _ rfl]; rfl
 have l1 : wz.cell? ⟨w.heap.size, 1, none⟩ = some (.int .i64 D) := by rw [hwz, World.cell?_alloc_at _ _ _ _ rfl]; rfl
 have HBZ := hid hbz
 have HV := hid (show zAJ (N, D) = (decide (1 <= D) && (decide (D <= 400) && (decide (-10000000000 <= N) && (decide (N <= 10000000000) && decide (Int.gcd N D = 1))))) from rfl)
 have HW1 := hid (fun (X : World) => zHC D 1 400 X)
 have HW2 := hid (fun (X : World) => zHC N (-10000000000) 10000000000 X)
 clear hbz
 by_cases h1 : 1 <= D ∧ D <= 400
 ·have e1 : inB D 1 400 = true := by simp [inB, h1.1, h1.2]
  rw [e1] at HW1
  by_cases h3 : -10000000000 <= N ∧ N <= 10000000000
  ·have e2 : inB N (-10000000000) 10000000000 = true := by simp [inB, h3.1, h3.2]
   rw [e2] at HW2
   have HD := hid (fun X => zHS X N D (by omega) (by omega))
   obtain ⟨g, hg⟩ : ∃ g : Int, g = ((Int.gcd N D : Nat) : Int) := ⟨_, rfl⟩
   rw [<- hg] at HD
   have HB := hid (show zAJ (N, D) = (g == 1) from by
    rw [HV.out, decide_eq_true h1.1, decide_eq_true h1.2, decide_eq_true h3.1, decide_eq_true h3.2]
    simp only [Bool.true_and]
    rw [Bool.eq_iff_iff, decide_eq_true_iff]
    simp only [beq_iff_eq]
    omega)
   clear hg HV e1 e2 h1 h3
   go_enter Tryz.func156, Tryz.ntmps156
   go_wp2_with fail
   rw [<- hwz]
   clear hwz
   go_wp2_with (go_at_call 174; refine (HW1.out _).mono ?_; rintro e w2 ⟨rfl, rfl⟩; refine Stop.of ?_)
   refine Stop.go ?_
   go_wp2_with (go_at_call 174; refine (HW2.out _).mono ?_; rintro e w2 ⟨rfl, rfl⟩; refine Stop.of ?_)
   refine Stop.go ?_
   go_wp2_with (go_at_call 211; refine (HD.out _).mono ?_; rintro e w2 ⟨rfl, k2, rfl⟩; refine Stop.of ?_)
   refine Stop.go ?_
   go_wp2
   go_ret
   exact ⟨zAV (by rw [HB.out]), zAG HBZ.out k2⟩
  ·have e2 : inB N (-10000000000) 10000000000 = false := by
    rw [inB, Bool.and_eq_false_iff, decide_eq_false_iff_not, decide_eq_false_iff_not]; omega
   rw [e2] at HW2
   have HB := hid (show zAJ (N, D) = false from by
    cases h : zAJ (N, D) with
    | false => rfl
    | true => have := zAS.1 h; exact absurd ⟨this.2.2.1, this.2.2.2.1⟩ h3)
   clear HV e1 e2 h1 h3
   go_enter Tryz.func156, Tryz.ntmps156
   go_wp2_with fail
   rw [<- hwz]
   clear hwz
   go_wp2_with (go_at_call 174; refine (HW1.out _).mono ?_; rintro e w2 ⟨rfl, rfl⟩; refine Stop.of ?_)
   refine Stop.go ?_
   go_wp2_with (go_at_call 174; refine (HW2.out _).mono ?_; rintro e w2 ⟨rfl, rfl⟩; refine Stop.of ?_)
   refine Stop.go ?_
   go_wp2
   go_ret
   exact ⟨zAV (by rw [HB.out]), HBZ.out⟩
 ·have e1 : inB D 1 400 = false := by
   rw [inB, Bool.and_eq_false_iff, decide_eq_false_iff_not, decide_eq_false_iff_not]; omega
  rw [e1] at HW1
  have HB := hid (show zAJ (N, D) = false from by
   cases h : zAJ (N, D) with
   | false => rfl
   | true => have := zAS.1 h; exact absurd ⟨this.1, this.2.1⟩ h1)
  clear HV e1 h1 HW2
  go_enter Tryz.func156, Tryz.ntmps156
  go_wp2_with fail
  rw [<- hwz]
  clear hwz
  go_wp2_with (go_at_call 174; refine (HW1.out _).mono ?_; rintro e w2 ⟨rfl, rfl⟩; refine Stop.of ?_)
  refine Stop.go ?_
  go_wp2
  go_ret
  exact ⟨zAV (by rw [HB.out]), HBZ.out⟩
theorem zLN (w : World) (a : Option Addr) (n cap : Nat) (l : List Rt) (hn : l.length = n) (hm : n <= maxLen) (H : zBS w a l) :
 Calls Tryz.prog 85 #[.slice a n cap] w fun e w' => e = .returned (.bool (l.all zAJ)) ∧ Below w.heap.size w w' := by
 have HN := hid hn
 have HH := hid H
 have HP := hid (fun (X : World) (N D : Int) => r3validR_c X N D)
 have HST := hid (fun (k : Nat) (hk : k < l.length) (h : zAJ l[k] = false) => zHO (p := zAJ) hk h)
 have HDN := hid (fun (h : ∀ j (hj : j < l.length), zAJ l[j] = true) => zJC (p := zAJ) h)
 obtain ⟨B, hB⟩ := exq (l.all zAJ)
 rw [<- hB] at HST HDN ⊢
 clear hn H hB
 unfold maxLen at hm
 go_enter Tryz.func85, Tryz.ntmps85
 go_wp2
 go_loopw [7] (fun i wr => ∃ k : Nat, k <= n ∧ i = .int .i64 k ∧ Below w.heap.size w wr ∧ Hid (∀ j (hj : j < l.length), j < k -> zAJ l[j] = true)) (fun i _ => n - (intOf i).toNat)
 case atStart => exact ⟨0, Nat.zero_le _, rfl, Below.refl _ _, hid (fun i y h => by omega)⟩
 case round =>
  obtain ⟨k, hk, rfl, hb, HNO⟩ := hrel
  by_cases hlt : k < n
  ·have hkl : k < l.length := by rw [HN.out]; exact hlt
   obtain ⟨b, off, rfl, hbs, h0, h1⟩ := (HH.out.below hb) k hkl
   have HSK := hid (HST.out k hkl)
   have HNX := hid (fun (h : zAJ l[k] = true) => show ∀ j (hj : j < l.length), j < k + 1 -> zAJ l[j] = true from fun j hj hjk => by
    by_cases e : j = k
    ·subst e; exact h
    ·exact HNO.out j hj (by omega))
   obtain ⟨⟨r1, r2⟩, hr⟩ : ∃ r, r = l[k]'hkl := ⟨_, rfl⟩
   rw [<- hr] at h0 h1 HSK HNX
   simp only [] at h0 h1
   obtain ⟨V, hV⟩ := exq (zAJ (r1, r2))
   have HC := hid (fun (X : World) => HP.out X r1 r2)
   rw [<- hV] at HC HSK HNX
   have HB := hid hb
   clear hr hV hkl hb HNO
   have i1 : (k : Int) < (n : Int) := by omega
   go_wp2_with (go_at_call 156; refine (HC.out _).mono ?_; rintro e w1 ⟨rfl, hb1⟩; refine Stop.of ?_)
   refine Stop.go ?_
   have HB1 := hid (show Below w.heap.size w w1 from HB.out.trans ((((Below.refl _ wr).alloc (Nat.le_refl _) (.cells #[.int .i64 r1, .int .i64 r2] 29)).trans (hb1.mono (by simp))).mono HB.out.size))
   clear hb1 HC
   cases V
   ·obtain rfl : B = false := HSK.out rfl
    go_wp2
    go_ret
    exact ⟨rfl, HB1.out⟩
   ·have HX := hid (HNX.out rfl)
    go_wp2
    exact ⟨⟨k + 1, by omega, by go_num, HB1.out, HX⟩, by simp [intOf]; omega⟩
  ·obtain rfl : k = n := by omega
   obtain rfl : B = true := HDN.out fun j hj => HNO.out j hj (by have := HN.out; omega)
   go_wp2
   go_ret
   exact ⟨rfl, hb⟩
theorem r3makes_c (w : World) (a a2 a3 : Option Addr) (n cap n2 cap2 n3 cap3 : Nat) (M : Mask) (x : List Rt) (y : List Int) (hn : M.length = n) (hn2 : x.length = n2) (hn3 : y.length = n3) (hm : n <= maxLen) (hm2 : n2 <= maxLen) (hm3 : n3 <= maxLen) (H : zAO w a M) (H2 : zBS w a2 x) (H3 : zAK w a3 y) :
 Calls Tryz.prog 30 #[.slice a n cap, .slice a2 n2 cap2, .slice a3 n3 cap3] w fun e w' => e = .returned (.bool (zCB M x y)) ∧ Below w.heap.size w w' := by
 have HRD := hid (r3Reading_c w a a3 n cap n3 cap3 M y hn hn3 hm hm3 H H3)
 have HN1 := hid (mk_no1 (M := M) (x := x) (y := y))
 have HN2 := hid (mk_no2 (M := M) (x := x) (y := y))
 have HN3 := hid (mk_no3 (M := M) (x := x) (y := y))
 obtain ⟨B, hB⟩ := exq (zCB M x y)
 rw [<- hB] at HN1 HN2 HN3 ⊢
 by_cases h0 : rdE M y = 0
 rotate_left
 ·rw [decide_eq_false h0] at HRD
  obtain rfl : B = false := HN1.out h0
  clear hn hn2 hn3 H H2 H3 hB h0 HN2 HN3
  go_enter Tryz.func30, Tryz.ntmps30
  go_wp2_with (go_at_call 17; refine HRD.out.mono ?_; rintro e w1 ⟨rfl, rfl⟩)
  go_ret
  exact ⟨rfl, Below.refl _ _⟩
 rw [decide_eq_true h0] at HRD
 obtain ⟨hok, hyl, hmil⟩ := zMV h0
 obtain ⟨hM, h1, h6, hc1, hc10⟩ := zCR hok
 obtain ⟨b, off, ra, rc, rfl, hb, hc⟩ := zDA H (by omega)
 have HN4 := hid (fun i (hi : i < M.length) h => mk_no4 (x := x) (y := y) hi h)
 have HYS := hid (fun h2 h3 h4 => mk_yes (M := M) (x := x) (y := y) h0 h2 h3 h4)
 rw [<- hB] at HYS HN4
 have i0 : (0 : Int) < (n : Int) := by omega
 have HCI := hid (fun (X : World) (hX : Below w.heap.size w X) => zLN X a2 n2 cap2 x hn2 hm2 (H2.below hX))
 have HRW := hid (fun (X : World) (hX : Below w.heap.size w X) => H.below hX)
 have HXI := hid (fun (X : World) (hX : Below w.heap.size w X) => H2.below hX)
 have HYI := hid (fun (X : World) (hX : Below w.heap.size w X) => H3.below hX)
 have HMW := hid (show ∀ r ∈ M, r.length = zAF M ∧ ∀ k, -1 <= vec r k ∧ vec r k <= 1 from fun r hr => ⟨hM.wid r hr, hM.one r hr⟩)
 have HYB := hid (mil_le hmil)
 have HN := hid hn
 have HNX := hid hn2
 have HNY := hid hn3
 have HHN := hid (show n3 = n by omega)
 have hn6 : n <= 6 := by omega
 obtain ⟨W, hW⟩ := exq (zAF M)
 rw [<- hW] at hc HN2 HN4 HYS HMW hc10 hc1
 clear hn hn2 hn3 H H2 H3 hB h0 hok hyl hmil hM h1 h6 HN1 hW
 by_cases hlw : n2 = W
 rotate_left
 ·obtain rfl : B = false := HN2.out (by rw [HNX.out]; exact hlw)
  have hlb : ((n2 : Int) != (W : Int)) = true := by simp; omega
  clear HN3 HN4 HYS HCI HRW HXI HYI HMW HYB
  go_enter Tryz.func30, Tryz.ntmps30
  go_wp2_with (go_at_call 17; refine HRD.out.mono ?_; rintro e w1 ⟨rfl, rfl⟩; refine Stop.of ?_)
  refine Stop.go ?_
  go_wp2
  go_ret
  exact ⟨rfl, Below.refl _ _⟩
 subst hlw
 have hlb : ((n2 : Int) != (n2 : Int)) = false := by simp
 obtain ⟨V, hV⟩ := exq (x.all zAJ)
 rw [<- hV] at HCI
 have HVV := hid hV.symm
 have HCI1 := hid (HCI.out _ (Below.refl _ _))
 clear hV HCI
 go_enter Tryz.func30, Tryz.ntmps30
 go_wp2_with (go_at_call 17; refine HRD.out.mono ?_; rintro e w1 ⟨rfl, rfl⟩; refine Stop.of ?_)
 refine Stop.go ?_
 go_wp2_with (go_at_call 85; refine HCI1.out.mono ?_; rintro e w2 ⟨rfl, hb2⟩; refine Stop.of ?_)
 refine Stop.go ?_
 have HB2 := hid hb2
 clear hb2 HCI1 hc HRD
 cases V
 ·obtain rfl : B = false := HN3.out HVV.out
  go_wp2
  go_ret
  exact ⟨rfl, HB2.out⟩
 ·have hall : x.all zAJ = true := HVV.out
  have hxv : ∀ k, 1 <= (zAE x k).2 ∧ (zAE x k).2 <= 400 ∧ -10000000000 <= (zAE x k).1 ∧ (zAE x k).1 <= 10000000000 := fun k => by
   unfold zAE
   cases e : x[k]? with
   | none => decide
   | some r =>
     have := List.all_eq_true.1 hall r (List.mem_of_getElem? e)
     rw [zAS] at this
     exact ⟨this.1, this.2.1, this.2.2.1, this.2.2.2.1⟩
  have HXV := hid hxv
  have HYS2 := hid (HYS.out HNX.out hall)
  clear hall hxv HN2 HN3 HYS HVV
  go_wp2
  go_loopw [29] (fun i wr => ∃ k : Nat, k <= n ∧ i = .int .i64 k ∧ Below w.heap.size w wr ∧ Hid (∀ q, q < k -> (sumR (M[q]?.getD []) x n2).1 = (sumR (M[q]?.getD []) x n2).2 * vec y q)) (fun i _ => n - (intOf i).toNat)
  case atStart => exact ⟨0, Nat.zero_le _, rfl, HB2.out, hid (fun q h => by omega)⟩
  case round =>
   obtain ⟨k, hk, rfl, hbk, HQ⟩ := hrel
   by_cases hlt : k < n
   ·have hkM : k < M.length := by rw [HN.out]; exact hlt
    obtain ⟨b5, o5, ra5, rn5, rc5, e5, hb5, hc5, hrn5, hrm5, hri5⟩ := (HRW.out wr hbk) k hkM
    cases e5
    obtain ⟨hwid, hone⟩ := HMW.out _ (List.getElem_mem hkM)
    obtain rfl : rn5 = n2 := by omega
    have hrowe : M[k]?.getD [] = M[k] := by rw [List.getElem?_eq_getElem hkM]; rfl
    have HNK := hid (HN4.out k hkM)
    rw [hrowe] at HNK
    have HQX := hid (fun (h : (sumR M[k] x rn5).1 = (sumR M[k] x rn5).2 * vec y k) => show ∀ q, q < k + 1 -> (sumR (M[q]?.getD []) x rn5).1 = (sumR (M[q]?.getD []) x rn5).2 * vec y q from fun q hq => by
     rcases Nat.lt_or_ge q k with h3 | h3
     ·exact HQ.out q h3
     ·obtain rfl : q = k := by omega
      rw [hrowe]; exact h)
    have HSE := hid (fun (X : World) (hX : Below wr.heap.size wr X) => sees_c X ra5 a2 rn5 rc5 rn5 cap2 M[k] x hrn5 HNX.out (Nat.le_refl _) (by omega) (hri5.below hX) (HXI.out X (zAA hbk hX)) (fun j => by have := hone j; omega) (fun j => by have := HXV.out j; omega))
    have hkY : k < y.length := by rw [HNY.out, HHN.out]; exact hlt
    obtain ⟨by7, oy7, rfl, hby, hcy⟩ := (HYI.out wr hbk) k hkY
    have hvy : y[k]?.getD 0 = vec y k := rfl
    rw [hvy] at hcy
    have hyb := zDT (P := fun z => -1000000 <= z ∧ z <= 1000000) (by decide) HYB.out k
    obtain ⟨yv, hyv⟩ := exq (vec y k)
    rw [<- hyv] at hcy hyb HNK HQX
    obtain ⟨⟨sn, sd⟩, hS⟩ : ∃ q, q = sumR M[k] x rn5 := ⟨_, rfl⟩
    rw [<- hS] at HNK HQX HSE
    simp only [] at HNK HQX HSE
    have HWH := hid (fun (X : World) => whole_v X yv (by omega))
    obtain ⟨cv, hcv⟩ := exq (cmpI sn (yv * sd))
    have HCZ := hid (show (cv = 0 ↔ sn = sd * yv) from by rw [hcv, Int.mul_comm yv sd]; unfold cmpI; split <;> (try split) <;> omega)
    have HOR := hid (fun (X : World) (v u : Value) (h : RatV X v 90 sn sd) (k : RatV X u 3 yv 1) => show Calls Tryz.prog 21 #[v, u] X (fun e' w' => e' = .returned (.int .i64 cv) ∧ Below X.heap.size X w') from by
     have := zOH X v u 90 3 sn sd yv 1 h k (by omega) (by omega)
     rwa [Int.mul_one, <- hcv] at this)
    have HS := hid (fun (X : World) (hX : Below wr.heap.size wr X) => show X.cell? ⟨by7, oy7 + k, none⟩ = some (.int .i64 yv) from (hX.cell (p := ⟨by7, _, none⟩) hby).trans hcy)
    have HBK := hid hbk
    have i1 : (k : Int) < (n : Int) := by omega
    have i3 : (k : Int) < (n3 : Int) := by have := HHN.out; omega
    clear hrowe hri5 hrn5 hkM hone hwid hbk HN4 HQ hS hyv hkY hvy hyb hcv hcy
    go_wp2
    refine zAH (fun j' X => wAll j' = true -> X.cell? ⟨by7, oy7 + k, none⟩ = some (.int .i64 yv)) (by kernel_rfl) ?_
    have hbd : Below wr.heap.size wr wr.drew := (Below.refl _ _).drew
    generalize wr.drew = wd at hbd ⊢
    refine AnyT.tD (i := 0) (v := .slice ra5 rn5 rc5) rfl rfl (by rintro w' y1; go_simp) (HS.out _ hbd) ?_; go_frame
    refine AnyT.tD (i := 1) (v := .slice a2 rn5 cap2) rfl rfl (by rintro w' y1; go_simp) (HS.out _ hbd) ?_; go_frame
    refine AnyT.tD (i := 3) (v := .slice (some ⟨by7, oy7, none⟩) n3 cap3) rfl rfl (by rintro w' y1; go_simp) (HS.out _ hbd) ?_; go_frame
    refine AnyT.tD (i := 4) (v := .int .i64 k) rfl rfl (by rintro w' y1; go_simp) (HS.out _ hbd) ?_; go_frame
    refine AnyT.tD (i := 5) (v := .pointer (some ⟨by7, oy7 + k, none⟩)) rfl rfl (by rintro w' y1; go_simp) (HS.out _ hbd) ?_; go_frame
    refine AnyT.tD (i := 6) (v := .int .i64 yv) rfl rfl (by rintro w' y1; go_simp) (HS.out _ hbd) ?_; go_frame
    refine AnyT.nx (i := 2) rfl ?_
    go_wp2_with (go_at_call 90; refine (HSE.out _ hbd).mono ?_; rintro e w4 ⟨v4, rfl, hv4, hb4⟩; refine Stop.of ?_)
    refine Stop.go ?_
    have HB4 := hid (zAA hbd hb4)
    have HV4 := hid hv4
    clear hv4 hb4 HSE
    go_wp2
    refine ⟨fun _ => HS.out _ HB4.out, ?_⟩
    refine AnyT.nx (i := 7) rfl ?_
    go_wp2_with (go_at_call 91; refine (HWH.out _).mono ?_; rintro e w5 ⟨v5, rfl, hv5, hb5⟩; refine Stop.of ?_)
    refine Stop.go ?_
    have HB5 := hid (zAA HB4.out hb5)
    have HV5 := hid hv5
    have HV6 := hid (HV4.out.below hb5)
    clear hv5 hb5 HWH HV4
    go_wp2
    refine ⟨fun _ => HS.out _ HB5.out, ?_⟩
    refine AnyT.nx (i := 8) rfl ?_
    go_wp2_with (go_at_call 21; refine (HOR.out _ _ _ HV6.out HV5.out).mono ?_; rintro e w6 ⟨rfl, hb6⟩; refine Stop.of ?_)
    refine Stop.go ?_
    have HB6 := hid (zAA HBK.out (zAA HB5.out hb6))
    have HS6 := hid (HS.out _ (zAA HB5.out hb6))
    clear hb6 HV5 HV6
    go_wp2
    refine ⟨fun _ => HS6.out, ?_⟩
    refine AnyT.nx (i := 9) rfl ?_
    go_wp2
    refine ⟨fun _ => HS6.out, ?_⟩
    refine AnyT.done (by kernel_rfl) ?_ _
    by_cases hc0 : cv = 0
    ·have hcb : (cv != 0) = false := by simp [hc0]
     have HX := hid (HQX.out (HCZ.out.1 hc0))
     go_wp2
     exact ⟨⟨k + 1, by omega, by go_num, HB6.out, HX⟩, by simp [intOf]; omega⟩
    ·have hcb : (cv != 0) = true := by simp [hc0]
     obtain rfl : B = false := HNK.out (fun h => hc0 (HCZ.out.2 h))
     go_wp2
     go_ret
     exact ⟨rfl, HB6.out⟩
   ·obtain rfl : k = n := by omega
    obtain rfl : B = true := HYS2.out (fun i hi => HQ.out i (by have := HN.out; omega))
    go_wp2
    go_ret
    exact ⟨rfl, hbk⟩
end
section
open Go.RowKit
def PicsAt (w : World) (a : Option Addr) (ls : List (List Rt)) : Prop :=
 ∀ j (hj : j < ls.length), ∃ b off ra n cap, a = some ⟨b, off, none⟩ ∧ b < w.heap.size ∧ w.cell? ⟨b, off + j, none⟩ = some (.slice ra n cap) ∧ ls[j].length = n ∧ n <= maxLen ∧ zBS w ra ls[j]
end
end Go.Proofs.YtlffndehhhpgjaaGreat
