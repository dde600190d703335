/- Walks and plain laws for DualFindsRow, part 6. -/
import Derived.Lib.SliceRun
import Derived.Test.YtlffndehhhpgjaaGreatPkDualFindsRow5
namespace Go.Proofs.YtlffndehhhpgjaaGreat
set_option linter.unusedVariables false
set_option linter.unusedSimpArgs false
set_option maxRecDepth 100000
set_option maxHeartbeats 4000000
section
section
open Go.RowKit
abbrev Rt := Int × Int
def ratV (r : Rt) : Value := .agg #[.int .i64 r.1, .int .i64 r.2]
def zBC (r : Rt) : List Value := [.int .i64 r.1, .int .i64 r.2]
def zAP (l : List Rt) : List Value := l.flatMap zBC
theorem ratVals_snoc (l : List Rt) (f : Rt) : zAP (l ++ [f]) = zAP l ++ zBC f := by simp [zAP]
theorem zBO (l : List Rt) : (zAP l).length = l.length * 2 := by
 induction l with
 | nil => rfl
 | cons f l ih => show (zBC f ++ zAP l).length = _; rw [List.length_append, ih]; simp [zBC]; omega
theorem zEL (l : List Rt) : ∀ (j i : Nat) (hj : j < l.length), i < 2 -> (zAP l)[j * 2 + i]? = (zBC l[j])[i]? := by
 induction l with
 | nil => intro j i hj; simp at hj
 | cons f l ih =>
   intro j i hj hi
   show (zBC f ++ zAP l)[j * 2 + i]? = _
   cases j with
   | zero => rw [List.getElem?_append_left (by simp [zBC]; omega)]; simp
   | succ j =>
     rw [List.getElem?_append_right (by simp [zBC]; omega)]
     have := ih j i (by simpa using hj) hi
     rw [show (j + 1) * 2 + i - (zBC f).length = j * 2 + i by simp [zBC]; omega, this]
     simp
def zCJ (w : World) (a : Option Addr) (l : List Rt) : Prop :=
 ∀ j (hj : j < l.length), ∃ b off, a = some ⟨b, off, none⟩ ∧ b < w.heap.size ∧ w.cell? ⟨b, off + j * 2, none⟩ = some (.int .i64 l[j].1) ∧ w.cell? ⟨b, off + j * 2 + 1, none⟩ = some (.int .i64 l[j].2)
theorem zCJ.below {w w' : World} {a : Option Addr} {l : List Rt} (h : zCJ w a l) (hb : Below w.heap.size w w') : zCJ w' a l := by
 intro j hj
 obtain ⟨b, off, e, hlt, h0, h1⟩ := h j hj
 exact ⟨b, off, e, Nat.lt_of_lt_of_le hlt hb.size, (hb.cell (p := ⟨b, _, none⟩) hlt).trans h0, (hb.cell (p := ⟨b, _, none⟩) hlt).trans h1⟩
def zDM (W : World) (base : Nat) (v : Value) (l : List Rt) : Prop := W.ownsRow base 29 2 v l.length (zAP l)
theorem zDM.nil (W : World) (base : Nat) : zDM W base (.slice none 0 0) [] := World.ownsRow_nil _ _ _ _
theorem zDM.below {W W' : World} {base : Nat} {v : Value} {l : List Rt} (h : zDM W base v l) (hb : Below W.heap.size W W') : zDM W' base v l := zBJ h hb
theorem zDM.reads {W : World} {base : Nat} {v : Value} {l : List Rt} (h : zDM W base v l) : ∃ a cap, v = .slice a l.length cap ∧ l.length <= maxLen ∧ zCJ W a l := by
 rcases h.2 with ⟨rfl, h0⟩ | ⟨g, cap, cur, rfl, hbg, hgg, hnc, hcm, hsz, htk⟩
 ·exact ⟨none, 0, by rw [h0], by rw [h0]; decide, fun j hj => by omega⟩
 ·refine ⟨_, cap, rfl, by omega, fun j hj => ⟨g, 0, rfl, (Array.getElem?_eq_some_iff.1 hgg).1, ?_⟩⟩
  have hc : ∀ i, i < l.length * 2 -> W.cell? ⟨g, i, none⟩ = (zAP l)[i]? := fun i hi =>
   World.ownsRow.cellAt (w := W) (base := base) (e := 29) (size := 2) (g := g) (n := l.length) (cap := cap) (xs := zAP l) ⟨h.1, .inr ⟨g, cap, cur, rfl, hbg, hgg, hnc, hcm, hsz, htk⟩⟩ i hi
  refine ⟨?_, ?_⟩
  ·rw [Nat.zero_add, hc _ (by omega)]; exact zEL l j 0 hj (by omega)
  ·rw [Nat.zero_add, hc _ (by omega)]; exact zEL l j 1 hj (by omega)
theorem zNQ : (Tryz.prog.info? 29).map (fun i => (i.zero, i.size, i.bytes)) = some (some (.agg #[.int .i64 0, .int .i64 0]), 2, 16) := by kernel_rfl
theorem rat_one (f : Rt) : ∀ u ∈ zBC f, u.oneCell' = true := by
 intro u hu
 simp only [zBC, List.mem_cons, List.not_mem_nil, or_false] at hu
 rcases hu with rfl | rfl <;> rfl
theorem rat_news (w : World) (f : Rt) (T : TypeId) : ∀ ad, (some ⟨w.heap.size, 0, none⟩ : Option Addr) = some ad -> ∀ j u, (zBC f)[j]? = some u -> (w.alloc (.cells (zBC f).toArray T)).cell? (ad.add j) = some u := by
 intro ad e j u hu
 cases e
 rw [Addr.add_lit, World.cell?_alloc_at _ _ _ _ rfl]
 simpa using hu
theorem zFN {x g : Int} (hx : -4611686018427387904 <= x ∧ x <= 4611686018427387904) : -4611686018427387904 <= x.tdiv g ∧ x.tdiv g <= 4611686018427387904 := by
 have h := Int.natAbs_tdiv x g
 have h2 : (x.tdiv g).natAbs <= x.natAbs := by rw [Int.natAbs_tdiv]; exact Nat.div_le_self _ _
 omega
theorem of_c (w : World) (n d : Int) (hn : -4611686018427387904 <= n ∧ n <= 4611686018427387904) (hd : -4611686018427387904 <= d ∧ d <= 4611686018427387904) (h0 : d ≠ 0) :
 Calls Tryz.prog 152 #[.int .i64 n, .int .i64 d] w fun e w' => e = .returned (ratV (ofF n d)) ∧ Below w.heap.size w w' := by
 have HD := hid (fun (X : World) => zJG X n d hn hd)
 have hg0 : 0 < Int.gcd n d := Nat.pos_of_ne_zero (fun h => h0 (Int.gcd_eq_zero_iff.1 h).2)
 have hgl : Int.gcd n d <= 4611686018427387904 := by
  have := Int.gcd_le_natAbs_right n h0
  omega
 obtain ⟨G, hG⟩ : ∃ G : Int, G = ((Int.gcd n d : Nat) : Int) := ⟨_, rfl⟩
 unfold ofF
 simp only []
 rw [<- hG] at HD ⊢
 have hG1 : 1 <= G := by omega
 have hG2 : G <= 4611686018427387904 := by omega
 clear hG hg0 hgl
 have b1 := zFN (g := G) hn
 have b2 := zFN (g := G) hd
 by_cases hs : d < 0
 ·rw [if_pos hs]
  obtain ⟨m, hm⟩ : ∃ m : Int, m = -G := ⟨_, rfl⟩
  rw [<- hm]
  have b3 := zFN (g := m) hn
  have b4 := zFN (g := m) hd
  have hw1 : IntKind.i64.wrap (n.tdiv m) = n.tdiv m := IntWalk.i64_in _ (by omega)
  have hw2 : IntKind.i64.wrap (d.tdiv m) = d.tdiv m := IntWalk.i64_in _ (by omega)
  have hw00 : wrap64 (-G) = m := by unfold wrap64; omega
  have hne : ¬ (m = 0) := by omega
  clear b1 b2 b3 b4 h0 hm hG1 hG2 hn hd
  go_enter Tryz.func152, Tryz.ntmps152
  go_wp2_with (go_at_call 206; refine (HD.out _).mono ?_; rintro e w1 ⟨rfl, k1, rfl⟩; refine Stop.of ?_)
  refine Stop.go ?_
  have hb1 : Below w.heap.size w ((w.alloc (.cells #[.int .i64 0, .int .i64 0] 29)).drewN k1) := zAN ((Below.refl _ w).alloc (Nat.le_refl _) _) k1
  have hq1 : ((w.alloc (.cells #[.int .i64 0, .int .i64 0] 29)).drewN k1).heap[w.heap.size]? = some (.cells #[.int .i64 0, .int .i64 0] 29 (0, 0)) := World.alloc_heap_new w _
  generalize (w.alloc (.cells #[.int .i64 0, .int .i64 0] 29)).drewN k1 = w2 at hb1 hq1 ⊢
  go_wp2
  go_still_tail 7, (by kernel_rfl)
  change wpList _ _ _ _ _ w2.drew
  have hb2 := hb1.drew
  have hq2 : w2.drew.heap[w.heap.size]? = some (.cells #[.int .i64 0, .int .i64 0] 29 (0, 0)) := hq1
  generalize w2.drew = w3 at hb2 hq2 ⊢
  have c0 : w3.cell? ⟨w.heap.size, 0, none⟩ = some (.int .i64 0) := by simp [World.cell?, hq2]
  have c1 : w3.cell? ⟨w.heap.size, 1, none⟩ = some (.int .i64 0) := by simp [World.cell?, hq2]
  have f0 : w3.frozen? ⟨w.heap.size, 0, none⟩ = false := by simp [World.frozen?, hq2]
  have f1 : w3.frozen? ⟨w.heap.size, 1, none⟩ = false := by simp [World.frozen?, hq2]
  have hlt3 : w.heap.size < w3.heap.size := (Array.getElem?_eq_some_iff.1 hq2).1
  go_wp2
  simp [bodyPost, results, Tryz.results152, go_sem, c0, c1, f0, f1, hlt3]
  exact ⟨rfl, zAD (zAD hb2 (Nat.le_refl _) 0 _) (Nat.le_refl _) 1 _⟩
 ·rw [if_neg hs]
  have hw1 : IntKind.i64.wrap (n.tdiv G) = n.tdiv G := IntWalk.i64_in _ (by omega)
  have hw2 : IntKind.i64.wrap (d.tdiv G) = d.tdiv G := IntWalk.i64_in _ (by omega)
  have hne : ¬ (G = 0) := by omega
  clear b1 b2 h0 hG1 hG2 hn hd
  go_enter Tryz.func152, Tryz.ntmps152
  go_wp2_with (go_at_call 206; refine (HD.out _).mono ?_; rintro e w1 ⟨rfl, k1, rfl⟩; refine Stop.of ?_)
  refine Stop.go ?_
  have hb1 : Below w.heap.size w ((w.alloc (.cells #[.int .i64 0, .int .i64 0] 29)).drewN k1) := zAN ((Below.refl _ w).alloc (Nat.le_refl _) _) k1
  have hq1 : ((w.alloc (.cells #[.int .i64 0, .int .i64 0] 29)).drewN k1).heap[w.heap.size]? = some (.cells #[.int .i64 0, .int .i64 0] 29 (0, 0)) := World.alloc_heap_new w _
  generalize (w.alloc (.cells #[.int .i64 0, .int .i64 0] 29)).drewN k1 = w2 at hb1 hq1 ⊢
  go_wp2
  go_still_tail 7, (by kernel_rfl)
  change wpList _ _ _ _ _ w2.drew
  have hb2 := hb1.drew
  have hq2 : w2.drew.heap[w.heap.size]? = some (.cells #[.int .i64 0, .int .i64 0] 29 (0, 0)) := hq1
  generalize w2.drew = w3 at hb2 hq2 ⊢
  have c0 : w3.cell? ⟨w.heap.size, 0, none⟩ = some (.int .i64 0) := by simp [World.cell?, hq2]
  have c1 : w3.cell? ⟨w.heap.size, 1, none⟩ = some (.int .i64 0) := by simp [World.cell?, hq2]
  have f0 : w3.frozen? ⟨w.heap.size, 0, none⟩ = false := by simp [World.frozen?, hq2]
  have f1 : w3.frozen? ⟨w.heap.size, 1, none⟩ = false := by simp [World.frozen?, hq2]
  have hlt3 : w.heap.size < w3.heap.size := (Array.getElem?_eq_some_iff.1 hq2).1
  go_wp2
  simp [bodyPost, results, Tryz.results152, go_sem, c0, c1, f0, f1, hlt3]
  exact ⟨rfl, zAD (zAD hb2 (Nat.le_refl _) 0 _) (Nat.le_refl _) 1 _⟩
theorem r3ratio_c (w : World) (n d : Int) (hn : -4611686018427387904 <= n ∧ n <= 4611686018427387904) (hd : -4611686018427387904 <= d ∧ d <= 4611686018427387904) (h0 : d ≠ 0) :
 Calls Tryz.prog 250 #[.int .i64 n, .int .i64 d] w fun e w' => e = .returned (ratV (zAY n d)) ∧ Below w.heap.size w w' := by
 have HD := hid (fun (X : World) => zLW X n d hn hd)
 have hg0 : 0 < Int.gcd n d := Nat.pos_of_ne_zero (fun h => h0 (Int.gcd_eq_zero_iff.1 h).2)
 have hgl : Int.gcd n d <= 4611686018427387904 := by
  have := Int.gcd_le_natAbs_right n h0
  omega
 obtain ⟨G, hG⟩ : ∃ G : Int, G = ((Int.gcd n d : Nat) : Int) := ⟨_, rfl⟩
 unfold zAY
 rw [<- hG] at HD ⊢
 have hG1 : 1 <= G := by omega
 have hG2 : G <= 4611686018427387904 := by omega
 clear hG hg0 hgl
 have b1 := zFN (g := G) hn
 have b2 := zFN (g := G) hd
 have hw1 : IntKind.i64.wrap (n.tdiv G) = n.tdiv G := IntWalk.i64_in _ (by omega)
 have hw2 : IntKind.i64.wrap (d.tdiv G) = d.tdiv G := IntWalk.i64_in _ (by omega)
 have hne : ¬ (G = 0) := by omega
 clear b1 b2 h0 hG1 hG2 hn hd
 go_enter Tryz.func250, Tryz.ntmps250
 go_wp2_with (go_at_call 211; refine (HD.out _).mono ?_; rintro e w1 ⟨rfl, k1, rfl⟩; refine Stop.of ?_)
 refine Stop.go ?_
 have hb1 : Below w.heap.size w ((w.alloc (.cells #[.int .i64 0, .int .i64 0] 29)).drewN k1) := zAN ((Below.refl _ w).alloc (Nat.le_refl _) _) k1
 have hq1 : ((w.alloc (.cells #[.int .i64 0, .int .i64 0] 29)).drewN k1).heap[w.heap.size]? = some (.cells #[.int .i64 0, .int .i64 0] 29 (0, 0)) := World.alloc_heap_new w _
 generalize (w.alloc (.cells #[.int .i64 0, .int .i64 0] 29)).drewN k1 = w2 at hb1 hq1 ⊢
 go_wp2
 go_still_tail 7, (by kernel_rfl)
 change wpList _ _ _ _ _ w2.drew
 have hb2 := hb1.drew
 have hq2 : w2.drew.heap[w.heap.size]? = some (.cells #[.int .i64 0, .int .i64 0] 29 (0, 0)) := hq1
 generalize w2.drew = w3 at hb2 hq2 ⊢
 have c0 : w3.cell? ⟨w.heap.size, 0, none⟩ = some (.int .i64 0) := by simp [World.cell?, hq2]
 have c1 : w3.cell? ⟨w.heap.size, 1, none⟩ = some (.int .i64 0) := by simp [World.cell?, hq2]
 have f0 : w3.frozen? ⟨w.heap.size, 0, none⟩ = false := by simp [World.frozen?, hq2]
 have f1 : w3.frozen? ⟨w.heap.size, 1, none⟩ = false := by simp [World.frozen?, hq2]
 have hlt3 : w.heap.size < w3.heap.size := (Array.getElem?_eq_some_iff.1 hq2).1
 go_wp2
 simp [bodyPost, results, Tryz.results250, go_sem, c0, c1, f0, f1, hlt3]
 exact ⟨rfl, zAD (zAD hb2 (Nat.le_refl _) 0 _) (Nat.le_refl _) 1 _⟩
end
section
open Go.RowKit
def zOQ (M : Mask) (y : List Int) : Int := if y.length = M.length then (if milB y = true then 0 else 7) else 9
def zBB (M : Mask) (y l : List Int) : Int := if okM M = true then (if y.length = M.length then (if milB y = true then pixE M l else 7) else 9) else 1
theorem zMW (w : World) (a a2 a3 : Option Addr) (n cap n2 cap2 n3 cap3 : Nat) (M : Mask) (y l : List Int) (hn : M.length = n) (hn2 : y.length = n2) (hn3 : l.length = n3) (hm : n <= maxLen) (hm2 : n2 <= maxLen) (hm3 : n3 <= maxLen) (H : zAK w a M) (H2 : zAH w a2 y) (H3 : zAH w a3 l) :
 Calls Tryz.prog 101 #[.slice a n cap, .slice a2 n2 cap2, .slice a3 n3 cap3] w fun e w' => e = .returned (.int .i64 (zBB M y l)) ∧ Below w.heap.size w w' := by
 have HV := hid (zIC w a n cap M hn hm H)
 cases hok : okM M
 ·rw [hok] at HV
  have hp : zBB M y l = 1 := by unfold zBB; rw [hok]; rfl
  rw [hp]
  clear hn hn2 hn3 H H2 H3 hok hp
  go_enter Tryz.func101, Tryz.ntmps101
  go_wp2_with (go_at_call 79; refine HV.out.mono ?_; rintro e w1 ⟨rfl, hb1⟩)
  go_ret
  exact ⟨rfl, hb1⟩
 ·rw [hok] at HV
  by_cases hl : n2 = n
  ·subst hl
   have HII := hid (fun (X : World) (hX : Below w.heap.size w X) => H2.below hX)
   have HN2 := hid hn2
   have HPX := hid (fun (X : World) (hX : Below w.heap.size w X) => pixels_c X a a3 n2 cap n3 cap3 M l hn hn3 hm hm3 (H.below hX) (H3.below hX))
   have hdl : ((n2 : Int) != (n2 : Int)) = false := by simp
   have hpre : zBB M y l = if milB y = true then pixE M l else 7 := by unfold zBB; rw [if_pos hok, if_pos (by omega)]
   rw [hpre]
   obtain ⟨E, hE⟩ := exq (pixE M l)
   rw [<- hE] at HPX ⊢
   obtain ⟨mz, hmz⟩ := exq (milB y)
   have HMZ := hid hmz
   rw [<- hmz]
   clear hn H H2 H3 hok hn2 hn3 hpre hE hmz
   cases mz
   all_goals
    simp only [if_true, if_false, Bool.false_eq_true]
    go_enter Tryz.func101, Tryz.ntmps101
    go_wp2_with (go_at_call 79; refine HV.out.mono ?_; rintro e w1 ⟨rfl, hb1⟩; refine Stop.of ?_)
    refine Stop.go ?_
    have HBW1 := hid hb1
    clear hb1 HV
    go_wp2_with (go_at_call 106; refine (zPK _ 1000000).mono ?_; rintro e w2 ⟨q, rfl, hq, hqs, hb2⟩; refine Stop.of ?_)
    refine Stop.go ?_
    have HB2 := hid (zAA HBW1.out hb2)
    have HCF := hid (zHF w2 a2 n2 cap2 y HN2.out hm2 (HII.out w2 HB2.out) 167 #[.pointer (some ⟨q, 0, none⟩)] (fun n => !(inB n (-1000000) 1000000)) (enters_of Tryz.func167 (by kernel_rfl) rfl) (beyond1 w2 q 1000000 (by decide) hq hqs))
    rw [any_mil, <- HMZ.out] at HCF
    clear hq hqs hb2
   ·go_wp2_with (go_at_call 105; refine HCF.out.mono ?_; rintro e w3 ⟨rfl, hb3⟩)
    go_ret
    exact ⟨rfl, zAA HB2.out hb3⟩
   ·go_wp2_with (go_at_call 105; refine HCF.out.mono ?_; rintro e w3 ⟨rfl, hb3⟩; refine Stop.of ?_)
    refine Stop.go ?_
    have HB3 := hid (zAA HB2.out hb3)
    clear HCF hb3
    go_wp2_with (go_at_call 163; refine (HPX.out w3 HB3.out).mono ?_; rintro e w4 ⟨rfl, hb4⟩)
    go_ret
    exact ⟨rfl, zAA HB3.out hb4⟩
  ·have hdl : ((n2 : Int) != (n : Int)) = true := by simp; omega
   have hpre : zBB M y l = 9 := by unfold zBB; rw [if_pos hok, if_neg (by omega)]
   rw [hpre]
   clear hn hn2 hn3 H H2 H3 hok hpre hl
   go_enter Tryz.func101, Tryz.ntmps101
   go_wp2_with (go_at_call 79; refine HV.out.mono ?_; rintro e w1 ⟨rfl, hb1⟩)
   go_ret
   exact ⟨rfl, hb1⟩
theorem zLV (w : World) (a : Option Addr) (n cap n2 cap2 : Nat) (M : Mask) (l : List Int) (V0 : Option Addr) (hn : M.length = n) (hn2 : l.length = n2) (hm2 : n2 <= maxLen) (H : zAH w a l) :
 Calls Tryz.prog 134 #[.slice V0 n cap, .slice a n2 cap2] w fun e w' => e = .returned (.int .i64 (zOQ M l)) ∧ w = w' := by
 by_cases hl : n2 = n
 ·subst hl
  have he : zOQ M l = if milB l = true then 0 else 7 := by unfold zOQ; rw [if_pos (by omega)]
  rw [he]
  have HN := hid hn2
  have HH := hid H
  obtain ⟨E, hE⟩ : ∃ E : Int, E = if milB l = true then 0 else 7 := ⟨_, rfl⟩
  rw [<- hE]
  have HE := hid hE
  have hdl : ((n2 : Int) != (n2 : Int)) = false := by simp
  clear hn hn2 H he hE
  unfold maxLen at hm2
  go_enter Tryz.func134, Tryz.ntmps134
  go_wp2
  go_loop [14] (fun i => ∃ k : Nat, k <= n2 ∧ i = .int .i64 k ∧ Hid (∀ j (hj : j < l.length), j < k -> inB l[j] (-1000000) 1000000 = true)) (fun i => n2 - (intOf i).toNat)
  case atStart => exact ⟨0, Nat.zero_le _, rfl, hid (fun j _ h => by omega)⟩
  case round =>
   obtain ⟨k, hk, rfl, HNO⟩ := hrel
   by_cases hlt : k < n2
   ·have hkl : k < l.length := by rw [HN.out]; exact hlt
    obtain ⟨b, off, rfl, hbs, hc⟩ := HH.out k hkl
    have hg : l[k]?.getD 0 = l[k] := by rw [List.getElem?_eq_getElem hkl]; rfl
    rw [hg] at hc
    have HST := hid (fun (h : inB l[k] (-1000000) 1000000 = false) => (zHW (p := fun n : Int => inB n (-1000000) 1000000) hkl h : milB l = false))
    have HNX := hid (fun (h : inB l[k] (-1000000) 1000000 = true) => (show ∀ j (hj : j < l.length), j < k + 1 -> inB l[j] (-1000000) 1000000 = true from fun j hj hlt => by
     rcases Nat.lt_or_ge j k with h1 | h1
     ·exact HNO.out j hj h1
     ·have : j = k := by omega
      subst this; exact h))
    obtain ⟨x, hx⟩ := exq (l[k])
    rw [<- hx] at hc HST HNX
    obtain ⟨B, hB⟩ := exq (inB x (-1000000) 1000000)
    have HW := hid (fun (W : World) => zNK x (-1000000) 1000000 W)
    rw [<- hB] at HW HST HNX
    clear hg hx hkl hB
    cases B
    ·have HX := hid (HST.out rfl)
     obtain rfl : E = 7 := by rw [HE.out, if_neg (by rw [show milB l = false from HX.out]; decide)]
     clear HST HNX
     go_wp2_with (go_at_call 174; refine (HW.out _).mono ?_; rintro e w1 ⟨rfl, rfl⟩)
     go_ret
     exact ⟨rfl, rfl⟩
    ·have HX := hid (HNX.out rfl)
     clear HST HNX
     go_wp2_with (go_at_call 174; refine (HW.out _).mono ?_; rintro e w1 ⟨rfl, rfl⟩)
     go_round
     case rel => exact ⟨k + 1, by omega, by go_num, HX⟩
     case measure => simp [intOf]; omega
   ·have hall : milB l = true := zJL (p := fun n : Int => inB n (-1000000) 1000000) (fun j hj => HNO.out j hj (by have := HN.out; omega))
    obtain rfl : E = 0 := by rw [HE.out, if_pos hall]
    go_wp2
    go_ret
    exact ⟨rfl, rfl⟩
 ·have he : zOQ M l = 9 := by unfold zOQ; rw [if_neg (by omega)]
  rw [he]
  have hdl : ((n2 : Int) != (n : Int)) = true := by simp; omega
  clear hn hn2 H he hl
  go_enter Tryz.func134, Tryz.ntmps134
  go_wp2
  go_ret
  exact ⟨rfl, rfl⟩
end
section
open Go.RowKit
theorem solve1 (w : World) (b : Nat) (a : Option Addr) (n cap N : Nat) (y : List Int) (hn : y.length = n) (hN : N <= n) (hm : n <= maxLen) (hc : w.cell? ⟨b, 0, none⟩ = some (.slice a n cap)) (hb : b < w.heap.size) (H : zAH w a y) :
 MoreP Tryz.prog 265 #[.pointer (some ⟨b, 0, none⟩)] w N (fun i => [y[i]?.getD 0]) := by
 intro i W hi hW
 have hc' : W.cell? ⟨b, 0, none⟩ = some (.slice a n cap) := (hW.cell (p := ⟨b, 0, none⟩) hb).trans hc
 obtain ⟨b2, o2, rfl, hb2, hc2⟩ := (H.below hW) i (by omega)
 show Calls Tryz.prog 265 #[.int .i64 i, .pointer (some ⟨b, 0, none⟩)] W fun e W' => ∃ a c, e = .returned (.slice a 1 c) ∧ zAH W' a [y[i]?.getD 0] ∧ Below W.heap.size W W'
 obtain ⟨x, hx⟩ := exq (y[i]?.getD 0)
 rw [<- hx] at hc2 ⊢
 have hin : (i : Int) < (n : Int) := by omega
 unfold maxLen at hm
 clear hn H hc hx
 go_enter Tryz.func265, Tryz.ntmps265
 go_wp2
 go_ret
 refine ⟨some ⟨W.heap.size, 0, none⟩, 1, rfl, fun j hj => ⟨W.heap.size, 0, rfl, by simp, ?_⟩, (Below.refl _ _).alloc (Nat.le_refl _) _⟩
 obtain rfl : j = 0 := by simpa using hj
 rw [World.cell?_alloc_at _ _ _ _ rfl]; rfl
theorem chosenF_y {M : List (List Int)} {S y : List Int} (h : y.length = M.length) : zEW M S (fun i => [y[i]?.getD 0]) = zAI (zAQ M S) y := by
 unfold zEW zAI zAQ
 refine List.ext_getElem (by simp [h]) fun i h1 h2 => ?_
 have hi : i < M.length := by simpa using h1
 simp [List.getElem?_eq_getElem (show i < y.length by omega)]
def zBZ (M : Mask) (l y : List Int) : List Rt × Int := if zBB M y l = 0 then zAW (zAI (zAQ M l) y) l.length else ([], zBB M y l)
theorem zHU {M : Mask} {y l : List Int} (h : zBB M y l = 0) : okM M = true ∧ y.length = M.length ∧ milB y = true ∧ zCK (zAB M) l := by
 unfold zBB at h
 by_cases h1 : okM M = true
 ·rw [if_pos h1] at h
  by_cases h2 : y.length = M.length
  ·rw [if_pos h2] at h
   by_cases h3 : milB y = true
   ·rw [if_pos h3] at h
    exact ⟨h1, h2, h3, (pix_ok h).2⟩
   ·rw [if_neg h3] at h; omega
  ·rw [if_neg h2] at h; omega
 ·rw [if_neg h1] at h; omega
theorem zGF {y : List Int} (h : milB y = true) : ∀ v ∈ y, -((1000000 : Nat) : Int) <= v ∧ v <= ((1000000 : Nat) : Int) := by
 intro v hv
 have := List.all_eq_true.1 h v hv
 unfold inB at this
 simp only [Bool.and_eq_true, decide_eq_true_eq] at this
 omega
def ofTo (R : List (List Int)) (J : List Nat) (n k : Nat) : List Rt := (List.range k).map fun i => ofF (vec (R[i]?.getD []) n) (vec (R[i]?.getD []) (jf J i))
theorem zOV (R : List (List Int)) (J : List Nat) (n k : Nat) : (ofTo R J n k).length = k := by simp [ofTo]
theorem ofTo_succ (R : List (List Int)) (J : List Nat) (n k : Nat) : ofTo R J n (k + 1) = ofTo R J n k ++ [ofF (vec (R[k]?.getD []) n) (vec (R[k]?.getD []) (jf J k))] := by
 unfold ofTo; rw [List.range_succ, List.map_append]; rfl
def SolveSt (wr : World) (base : Nat) (v : Value) (R : List (List Int)) (J : List Nat) (n k : Nat) : Prop := zDM wr base v (ofTo R J n (min k J.length)) ∧ ∀ q, J.length <= q -> q < k -> vec (R[q]?.getD []) n = 0
theorem solve_end {C : List (List Int)} {n : Nat} (hK : (pRed C n).2.length <= n) (h0 : ∀ q, (pRed C n).2.length <= q -> q < (pRed C n).1.length -> vec ((pRed C n).1[q]?.getD []) n = 0) :
 zAW C n = if (pRed C n).2.length < n then ([], 11) else (ofTo (pRed C n).1 (pRed C n).2 n (pRed C n).2.length, 0) := by
 unfold zAW
 simp only []
 have h1 : ((pRed C n).1.drop (pRed C n).2.length).any (nz n) = false := by
  rw [Bool.eq_false_iff]
  intro hc
  obtain ⟨r, hr, hz⟩ := List.any_eq_true.1 hc
  obtain ⟨i, hi, rfl⟩ := List.mem_iff_getElem.1 hr
  rw [List.getElem_drop] at hz
  have := h0 ((pRed C n).2.length + i) (by omega) (by rw [List.length_drop] at hi; omega)
  rw [List.getElem?_eq_getElem (by rw [List.length_drop] at hi; omega)] at this
  simp only [nz, decide_eq_true_eq] at hz
  exact hz this
 rw [h1]
 simp only [Bool.false_eq_true, if_false]
 by_cases c : (pRed C n).2.length < n
 ·rw [if_pos c, if_pos c]
 ·rw [if_neg c, if_neg c]
  have : (pRed C n).2.length = n := by omega
  rw [this]; rfl
theorem solve_none {C : List (List Int)} {n q : Nat} (h1 : (pRed C n).2.length <= q) (h2 : q < (pRed C n).1.length) (h3 : vec ((pRed C n).1[q]?.getD []) n ≠ 0) : zAW C n = ([], 8) := by
 unfold zAW
 simp only []
 rw [if_pos]
 refine List.any_eq_true.2 ⟨(pRed C n).1[q], ?_, ?_⟩
 ·rw [List.mem_drop_iff_getElem]; exact ⟨q - (pRed C n).2.length, by omega, by congr 1; omega⟩
 ·rw [List.getElem?_eq_getElem h2] at h3
  simpa [nz] using h3
theorem solve_c (w : World) (a a2 a3 : Option Addr) (n cap n2 cap2 n3 cap3 : Nat) (M : Mask) (l y : List Int) (hn : M.length = n) (hn2 : l.length = n2) (hn3 : y.length = n3) (hm : n <= maxLen) (hm2 : n2 <= maxLen) (hm3 : n3 <= maxLen) (H : zAK w a M) (H2 : zAH w a2 l) (H3 : zAH w a3 y) :
 Calls Tryz.prog 262 #[.slice a n cap, .slice a2 n2 cap2, .slice a3 n3 cap3] w fun e w' => ∃ v base, e = .returned (.tuple #[v, .int .i64 (zBZ M l y).2]) ∧ w.heap.size <= base ∧ zDM w' base v (zBZ M l y).1 ∧ Below w.heap.size w w' := by
 have hmf : ∀ (fn : Fn) (first cap : Array Value) (w : World), (Instr.makeFunc fn first cap).run Tryz.prog w = .ok (.func fn first cap) w := fun _ _ _ _ => rfl
 obtain ⟨s, hs⟩ := exq (w.heap.size)
 obtain ⟨wf, hwf⟩ := exq (w.alloc (.cells #[.slice a3 n3 cap3] 24))
 have hb0 : Below w.heap.size w wf := by rw [hwf]; exact (Below.refl _ _).alloc (Nat.le_refl _) _
 have hcb : wf.cell? ⟨s, 0, none⟩ = some (.slice a3 n3 cap3) := by rw [hwf, hs, World.cell?_alloc_at _ _ _ _ rfl]; rfl
 have hsf : s < wf.heap.size := by rw [hwf, hs]; simp
 have HCK := hid (zMW wf a a3 a2 n cap n3 cap3 n2 cap2 M y l hn hn3 hn2 hm hm3 hm2 (H.below hb0) (H3.below hb0) (H2.below hb0))
 have HBF := hid hb0
 by_cases hck : zBB M y l = 0
 ·rw [hck] at HCK
  have hv : zBZ M l y = zAW (zAI (zAQ M l) y) n2 := by unfold zBZ; rw [if_pos hck, hn2]
  rw [hv]
  obtain ⟨hok, hyl, hmil, hso⟩ := zHU hck
  obtain ⟨hM, h1, h6, hc1, hc10⟩ := zCP hok
  have hl10 := set_le hso
  have hn6 : n <= 6 := by omega
  have hn1 : 1 <= n := by omega
  have hn210 : n2 <= 10 := by omega
  have hS : ∀ r ∈ M, ∀ j ∈ l, 0 <= j ∧ j < r.length := fun r hr j hj => by rw [hM.wid r hr]; exact hso.2 j hj
  have HCh := hid (fun (X : World) (hX : Below wf.heap.size wf X) =>
   have hX0 := zAA hb0 hX
   chosen_c X a n cap M hn (by omega) (H.below hX0) a2 n2 cap2 l hn2 (by omega) (H2.below hX0) hS 265 #[.pointer (some ⟨s, 0, none⟩)] (enters_of Tryz.func265 (by kernel_rfl) rfl) (fun i => [y[i]?.getD 0])
    (solve1 X s a3 n3 cap3 n y hn3 (by omega) hm3 ((hX.cell (p := ⟨s, 0, none⟩) hsf).trans hcb) (Nat.lt_of_lt_of_le hsf hX.size) (H3.below hX0)) (fun i _ => ⟨by simp, by simp⟩))
  rw [chosenF_y (by omega)] at HCh
  have hMC : MaskOk (zAQ M l) n2 := by rw [<- hn2]; exact hM.cols l
  have hY := hMC.addY (y := y) (by rw [zBK]; omega) (Y := 1000000) (by omega) (zGF hmil)
  have hCl : (zAI (zAQ M l) y).length = n := by rw [zDV (by rw [zBK]; omega), zBK, hn]
  obtain ⟨C, hC⟩ := exq (zAI (zAQ M l) y)
  rw [<- hC] at HCh hY hCl ⊢
  have hle : ∀ t, t <= n2 -> ∀ r ∈ (pRed C t).1, r.length = n2 + 1 ∧ BndL 1073741824 r := fun t ht r hr => by
   have h := pRed_le hY.wid hY.le6 hY.one hY.all ht r hr
   exact ⟨h.1, fun x hx => by have := h.2 x hx; omega⟩
  have HRd := hid (fun (W1 : World) (base : Nat) (v0 : Value) (hO : OwnT W1 base W1.heap.size v0 C) (hb : base <= W1.heap.size) => reduce_c W1 base v0 C (n2 + 1) hO hb hY.wid (by omega) (by omega) (by omega) n2 (by omega) hle)
  have hinv := zCI C hY.wid n2 (fun j hj q => zCC (by decide) (fun r hr => hY.one r hr j hj) q)
  have hRl : (pRed C n2).1.length = n := by rw [zFB, hCl]
  have hRw : ∀ r ∈ (pRed C n2).1, r.length = n2 + 1 := fun r hr => (hle n2 (Nat.le_refl _) r hr).1
  have hRb : ∀ r ∈ (pRed C n2).1, BndL 1073741824 r := fun r hr => (hle n2 (Nat.le_refl _) r hr).2
  have hJn : (pRed C n2).2.length <= n := by have := hinv.K_le; omega
  have hJ2 : (pRed C n2).2.length <= n2 := by
   have := zOC (a := 0) (b := n2) hinv.asc (fun x hx => ⟨Nat.zero_le _, hinv.lt x hx⟩)
   omega
  have hJlt : ∀ k, k < (pRed C n2).2.length -> jf (pRed C n2).2 k < n2 := fun k hk => by
   unfold jf; rw [List.getElem?_eq_getElem hk]; exact hinv.lt _ (List.getElem_mem hk)
  have hJpos : ∀ k, k < (pRed C n2).2.length -> 0 < vec ((pRed C n2).1[k]?.getD []) (jf (pRed C n2).2 k) := fun k hk => (hinv.pp k hk).2
  have HEND := hid (solve_end (C := C) (n := n2) hJ2)
  have HNO := hid (fun q => solve_none (C := C) (n := n2) (q := q))
  obtain ⟨SV, hSV⟩ := exq (zAW C n2)
  rw [<- hSV] at HEND HNO ⊢
  obtain ⟨R, hR⟩ := exq ((pRed C n2).1)
  obtain ⟨J, hJ⟩ := exq ((pRed C n2).2)
  have e1 : (pRed C n2).1 = R := hR.symm
  have e2 : (pRed C n2).2 = J := hJ.symm
  rw [e1] at HRd hRl hRw hRb hJpos HEND HNO
  rw [e2] at HRd hJn hJ2 hJlt hJpos HEND HNO
  obtain ⟨K, hK⟩ := exq (J.length)
  rw [<- hK] at HRd hJn hJ2 hJlt hJpos HEND HNO
  have HKJ := hid hK
  have HRL := hid hRl
  have HRW := hid hRw
  have HRB := hid hRb
  have HJLT := hid hJlt
  have HJPOS := hid hJpos
  have HSS := hid hs
  clear e1 e2 hR hJ hK hRl hRw hRb hJlt hJpos hSV hinv hle hC hCl hY hMC hS hso hmil hyl hok hM h1 h6 hc1 hc10 hl10 hck hv hn hn2 hn3 H H2 H3 hb0
  go_enter Tryz.func262, Tryz.ntmps262
  go_wp2_with fail
  rw [<- hwf, <- hs]
  clear hwf hs
  go_wp2_with (go_at_call 101; refine HCK.out.mono ?_; rintro e w1 ⟨rfl, hb1⟩; refine Stop.of ?_)
  refine Stop.go ?_
  go_wp2_with (go_at_call 220; refine (HCh.out w1 hb1).mono ?_; rintro e w2 ⟨v0, rfl, hO2, hb2⟩; refine Stop.of ?_)
  refine Stop.go ?_
  have HRd1 := hid (HRd.out w2 w1.heap.size v0 (OwnT.of hO2) hb2.size)
  clear hO2 HRd HCh
  go_wp2_with (go_at_call 195; refine HRd1.out.mono ?_; rintro e w3 ⟨vJ, rfl, hJo, hT3, hb3⟩; refine Stop.of ?_)
  refine Stop.go ?_
  rw [intsJ_vals] at hJo
  obtain ⟨ja, jc, rfl, hJI, hJm⟩ := zCN hJo (by rw [intsJ_len, HKJ.out])
  have hv0 : ∃ g0 c0, v0 = .slice (some ⟨g0, 0, none⟩) n c0 := by
   obtain ⟨g0, c0, _, _, e, _⟩ := hT3.at 0 (by rw [HRL.out]; omega)
   exact ⟨g0, c0, by rw [e, HRL.out]⟩
  obtain ⟨g0, c0, rfl⟩ := hv0
  have hRA := hT3.rowsAt HRL.out (fun r hr => by rw [HRW.out r hr]; unfold maxLen; omega)
  have HJI := hid hJI
  have HRA := hid hRA
  have HBW := hid (show Below w.heap.size w w3 from zAA HBF.out (hb1.trans ((hb2.trans hb3).mono hb1.size)))
  have hsz : s <= w3.heap.size := by rw [HSS.out]; exact HBW.out.size
  clear hJI hRA hJo hT3 hb1 hb2 hb3 HRd1 HCK HBF hcb hsf
  go_wp2
  go_loopw [12, 33] (fun v i wr => ∃ k : Nat, k <= n ∧ i = .int .i64 k ∧ SolveSt wr w3.heap.size v R J n2 k ∧ Below w3.heap.size w3 wr) (fun _ i _ => n - (intOf i).toNat)
  case atStart => exact ⟨0, Nat.zero_le _, rfl, ⟨by rw [Nat.zero_min]; exact zDM.nil _ _, fun q _ h => by omega⟩, Below.refl _ _⟩
  case round =>
   obtain ⟨k, hk, rfl, hst, hbk⟩ := hrel
   by_cases hlt : k < n
   ·obtain ⟨b, off, ra, rn, rc, e, hbs, hc, hrn, hrm, hri⟩ := HRA.out k (by rw [HRL.out]; exact hlt)
    cases e
    rw [Nat.zero_add] at hc
    have hrw : rn = n2 + 1 := by rw [<- hrn]; exact HRW.out _ (List.getElem_mem _)
    have hcw : wr.cell? ⟨g0, k, none⟩ = some (.slice ra rn rc) := (hbk.cell (p := ⟨g0, k, none⟩) hbs).trans hc
    clear hc
    obtain ⟨b', off', rfl, hbs', hcx⟩ := hri n2 (by omega)
    have hkR : k < R.length := by rw [HRL.out]; exact hlt
    have hvx : ∀ c, (R[k])[c]?.getD 0 = vec (R[k]?.getD []) c := fun c => by rw [List.getElem?_eq_getElem hkR]; rfl
    rw [hvx] at hcx
    have hnx : (n2 : Int) < (rn : Int) := by omega
    by_cases hkK : k < K
    ·obtain ⟨p, hp⟩ := exq (jf J k)
     have hp2 : p < n2 := by rw [hp]; exact HJLT.out k hkK
     obtain ⟨jb, jo, rfl, hjs, hcj⟩ := HJI.out k (by rw [intsJ_len, <- HKJ.out]; exact hkK)
     have hjv : (intsJ J)[k]?.getD 0 = (p : Int) := by
      have hkl : k < J.length := by rw [<- HKJ.out]; exact hkK
      unfold intsJ; rw [hp]; unfold jf; simp [hkl]
     rw [hjv] at hcj
     obtain ⟨b2, off2, e2, _, hcz⟩ := hri p (by omega)
     cases e2
     rw [hvx] at hcz
     have hzp : 0 < vec (R[k]?.getD []) p := by rw [hp]; exact HJPOS.out k hkK
     have hbx := zDR (P := fun x => -((1073741824 : Nat) : Int) <= x ∧ x <= ((1073741824 : Nat) : Int)) (by omega) (HRB.out _ (List.getElem_mem hkR))
     have hbx1 := hbx n2
     have hbx2 := hbx p
     have hRk : R[k]?.getD [] = R[k] := by rw [List.getElem?_eq_getElem hkR]; rfl
     rw [<- hRk] at hbx1 hbx2
     have hsnoc : ofTo R J n2 (k + 1) = ofTo R J n2 k ++ [ofF (vec (R[k]?.getD []) n2) (vec (R[k]?.getD []) p)] := by rw [hp]; exact ofTo_succ R J n2 k
     have HOf := hid (fun (X : World) => of_c X (vec (R[k]?.getD []) n2) (vec (R[k]?.getD []) p) (by omega) (by omega) (by omega))
     obtain ⟨x, hx⟩ := exq (vec (R[k]?.getD []) n2)
     obtain ⟨z, hz⟩ := exq (vec (R[k]?.getD []) p)
     rw [<- hx] at hcx HOf hsnoc
     rw [<- hz] at hcz HOf hsnoc
     obtain ⟨Q, hQ⟩ := exq (ofF x z)
     rw [<- hQ] at HOf hsnoc
     obtain ⟨q1, q2⟩ := Q
     have HSN := hid hsnoc
     obtain ⟨hst1, hst2⟩ := hst
     rw [<- HKJ.out, show min k K = k by omega] at hst1
     have HST2 := hid (show ∀ q, J.length <= q -> q < k + 1 -> vec (R[q]?.getD []) n2 = 0 from fun q h1 h2 => by have := HKJ.out; omega)
     obtain ⟨T, hT⟩ := exq (ofTo R J n2 k)
     rw [<- hT] at hst1 hsnoc
     have hTl : T.length = k := by rw [hT]; exact zOV R J n2 k
     have HO := hid hst1
     unfold zDM at hst1
     rw [hTl] at hst1
     have HO1 := hid hst1
     obtain ⟨va, vc, rfl⟩ := zAC hst1
     have HSN2 := hid (show zAP (ofTo R J n2 (k + 1)) = zAP T ++ zBC (q1, q2) by rw [hsnoc, ratVals_snoc])
     have HS := hid (fun (X : World) (hX : Below w3.heap.size w3 X) => show X.cell? ⟨b', off' + n2, none⟩ = some (.int .i64 x) ∧ X.cell? ⟨jb, jo + k, none⟩ = some (.int .i64 p) ∧ X.cell? ⟨b', off' + p, none⟩ = some (.int .i64 z) from
      ⟨(hX.cell (p := ⟨b', off' + n2, none⟩) hbs').trans hcx, (hX.cell (p := ⟨jb, jo + k, none⟩) hjs).trans hcj, (hX.cell (p := ⟨b', off' + p, none⟩) hbs').trans hcz⟩)
     have M1 := hid (show k + 1 <= maxLen by unfold maxLen; omega)
     have M2 := hid (show (k + 1) * 16 <= 140737488355328 by omega)
     have HBK := hid hbk
     have i1 : (k : Int) < (K : Int) := by omega
     have i2 : (p : Int) < (rn : Int) := by omega
     clear hst1 hst2 hcx hcj hcz hsnoc hx hz hQ hT hTl hRk hbx hbx1 hbx2 hzp hvx hri hrn hrw hjv hp hbk HO HSN
     simp only [ratV] at HOf
     go_wp2
     refine zAG (fun j' X => wAll j' = true -> X.cell? ⟨b', off' + n2, none⟩ = some (.int .i64 x) ∧ X.cell? ⟨jb, jo + k, none⟩ = some (.int .i64 p) ∧ X.cell? ⟨b', off' + p, none⟩ = some (.int .i64 z)) (by kernel_rfl) ?_
     have hbd : Below w3.heap.size w3 wr.drew := HBK.out.drew
     have HO2 := hid (zBJ HO1.out ((Below.refl _ wr).drew))
     have HB3 := hid hbd
     generalize wr.drew = wd at hbd HO2 HB3 ⊢
     refine AnyT.tD (i := 0) (v := .slice va k vc) rfl rfl (by rintro w' ⟨y1, y2, y3⟩; go_simp) (HS.out _ hbd) ?_; go_frame
     refine AnyT.tD (i := 1) (v := .slice (some ⟨b', off', none⟩) rn rc) rfl rfl (by rintro w' ⟨y1, y2, y3⟩; go_simp) (HS.out _ hbd) ?_; go_frame
     refine AnyT.tD (i := 2) (v := .int .i64 n2) rfl rfl (by rintro w' ⟨y1, y2, y3⟩; go_simp) (HS.out _ hbd) ?_; go_frame
     refine AnyT.tD (i := 3) (v := .pointer (some ⟨b', off' + n2, none⟩)) rfl rfl (by rintro w' ⟨y1, y2, y3⟩; go_simp) (HS.out _ hbd) ?_; go_frame
     refine AnyT.tD (i := 4) (v := .int .i64 x) rfl rfl (by rintro w' ⟨y1, y2, y3⟩; go_simp) (HS.out _ hbd) ?_; go_frame
     refine AnyT.tD (i := 5) (v := .slice (some ⟨b', off', none⟩) rn rc) rfl rfl (by rintro w' ⟨y1, y2, y3⟩; go_simp) (HS.out _ hbd) ?_; go_frame
     refine AnyT.tD (i := 6) (v := .slice (some ⟨jb, jo, none⟩) K jc) rfl rfl (by rintro w' ⟨y1, y2, y3⟩; go_simp) (HS.out _ hbd) ?_; go_frame
     refine AnyT.tD (i := 7) (v := .int .i64 k) rfl rfl (by rintro w' ⟨y1, y2, y3⟩; go_simp) (HS.out _ hbd) ?_; go_frame
     refine AnyT.tD (i := 8) (v := .pointer (some ⟨jb, jo + k, none⟩)) rfl rfl (by rintro w' ⟨y1, y2, y3⟩; go_simp) (HS.out _ hbd) ?_; go_frame
     refine AnyT.tD (i := 9) (v := .int .i64 p) rfl rfl (by rintro w' ⟨y1, y2, y3⟩; go_simp) (HS.out _ hbd) ?_; go_frame
     refine AnyT.tD (i := 10) (v := .pointer (some ⟨b', off' + p, none⟩)) rfl rfl (by rintro w' ⟨y1, y2, y3⟩; go_simp) (HS.out _ hbd) ?_; go_frame
     refine AnyT.tD (i := 11) (v := .int .i64 z) rfl rfl (by rintro w' ⟨y1, y2, y3⟩; go_simp) (HS.out _ hbd) ?_; go_frame
     refine AnyT.nx (i := 12) rfl ?_
     go_wp2_with (go_at_call 152; refine (HOf.out _).mono ?_; rintro e w4 ⟨rfl, hbl4⟩; refine Stop.of ?_)
     refine Stop.go ?_
     have HB4 := hid (zAA hbd hbl4)
     have HO4 := hid (zBJ HO2.out hbl4)
     have M3 := hid (Nat.le_trans HB4.out.size (zBL w4 (.cells (zBC (q1, q2)).toArray 29)))
     clear hbd hbl4
     go_wp2
     refine ⟨fun _ => HS.out _ HB4.out, ?_⟩
     refine AnyT.nx (i := 13) rfl ?_
     go_wp2
     have hbA : Below w3.heap.size w3 (w4.alloc (.cells (zBC (q1, q2)).toArray 29)) := HB4.out.alloc HB4.out.size _
     refine ⟨fun _ => HS.out _ hbA, ?_⟩
     refine AnyT.nx (i := 14) rfl ?_
     refine zAJ _ rfl (.tmp 43) (.tmp 56) 42 rfl w3.heap.size 29 (.agg #[.int .i64 0, .int .i64 0]) 2 16 Tryz.underlying42 zNQ rfl (by decide) (.slice va k vc) k _ rfl (HO4.out.alloc _) (some ⟨w4.heap.size, 0, none⟩) 1 1 (zBC (q1, q2)) rfl rfl zBN (rat_news w4 (q1, q2) _) (rat_one _) M1.out M2.out M3.out ?_
     intro a5 c5 w5 own5 g5
     have hb5 : Below w3.heap.size w3 w5 := hbA.grown g5 M3.out (fun q hq => (HO4.out.lt q hq).1)
     refine ⟨fun _ => HS.out _ hb5, ?_⟩
     refine AnyT.tD (i := 15) (v := .slice a5 (k + 1) c5) rfl rfl (by rintro w' ⟨y1, y2, y3⟩; go_simp) (HS.out _ hb5) ?_; go_frame
     refine AnyT.done (by kernel_rfl) ?_ _
     go_wp2
     refine ⟨⟨k + 1, by omega, by go_num, ⟨?_, HST2.out⟩, hb5⟩, by simp [intOf]; omega⟩
     rw [<- HKJ.out, show min (k + 1) K = k + 1 by omega]
     unfold zDM
     rw [zOV, HSN2.out]
     exact own5
    ·have HX8 := hid (fun (h : vec (R[k]?.getD []) n2 ≠ 0) => HNO.out k (by omega) (by rw [HRL.out]; exact hlt) h)
     have HX0 := hid (fun (h : vec (R[k]?.getD []) n2 = 0) => show SolveSt wr w3.heap.size u12 R J n2 (k + 1) from ⟨by have h1 := hst.1; rw [<- HKJ.out, show min k K = min (k + 1) K by omega] at h1; rw [<- HKJ.out]; exact h1, fun q h1 h2 => by
      rcases Nat.lt_or_ge q k with h3 | h3
      ·exact hst.2 q h1 h3
      ·obtain rfl : q = k := by omega
       exact h⟩)
     obtain ⟨x, hx⟩ := exq (vec (R[k]?.getD []) n2)
     rw [<- hx] at hcx HX8 HX0
     have i1 : ¬ ((k : Int) < (K : Int)) := by omega
     have HBK := hid hbk
     have hcx' : wr.cell? ⟨b', off' + n2, none⟩ = some (.int .i64 x) := (hbk.cell (p := ⟨b', off' + n2, none⟩) hbs').trans hcx
     clear hx hst hbk hcx hvx hri hrn hrw
     by_cases h0 : x = 0
     ·subst h0
      have HX := hid (HX0.out rfl)
      clear HX0 HX8
      go_wp2
      exact ⟨⟨k + 1, by omega, by go_num, HX.out, HBK.out⟩, by simp [intOf]; omega⟩
     ·have hxb : (x != 0) = true := by simpa using h0
      obtain rfl : SV = ([], 8) := HX8.out h0
      clear HX0 HX8
      go_wp2
      go_ret2
      exact ⟨.slice none 0 0, rfl, w.heap.size, Nat.le_refl _, zDM.nil _ _, zAA HBW.out HBK.out⟩
   ·obtain rfl : k = n := by omega
    have hSV : SV = if K < n2 then ([], 11) else (ofTo R J n2 K, 0) := HEND.out fun q h1 h2 => hst.2 q (by rw [<- HKJ.out]; exact h1) (by rw [HRL.out] at h2; exact h2)
    have hst1 := hst.1
    rw [<- HKJ.out, show min k K = K by omega] at hst1
    have HO := hid hst1
    have HBK := hid hbk
    obtain ⟨va, vc, hve⟩ := zAC hst1
    rw [zOV] at hve
    subst hve
    clear hst1 hst hbk
    by_cases hKn : K < n2
    ·rw [if_pos hKn] at hSV
     subst hSV
     have i2 : (K : Int) < (n2 : Int) := by omega
     go_wp2
     go_ret2
     exact ⟨.slice none 0 0, rfl, w.heap.size, Nat.le_refl _, zDM.nil _ _, zAA HBW.out HBK.out⟩
    ·rw [if_neg hKn] at hSV
     subst hSV
     have i2 : ¬ ((K : Int) < (n2 : Int)) := by omega
     go_wp2
     go_ret2
     exact ⟨_, rfl, w3.heap.size, HBW.out.size, HO.out, zAA HBW.out HBK.out⟩
 ·have hv : zBZ M l y = ([], zBB M y l) := by unfold zBZ; rw [if_neg hck]
  rw [hv]
  obtain ⟨E, hE⟩ := exq (zBB M y l)
  rw [<- hE] at HCK hck ⊢
  have hpb : (E != 0) = true := by simpa using hck
  have HSS := hid hs
  clear hn hn2 hn3 H H2 H3 hv hE hb0
  go_enter Tryz.func262, Tryz.ntmps262
  go_wp2_with fail
  rw [<- hwf, <- hs]
  clear hwf hs
  go_wp2_with (go_at_call 101; refine HCK.out.mono ?_; rintro e w1 ⟨rfl, hb1⟩)
  go_ret2
  exact ⟨.slice none 0 0, w.heap.size, rfl, Nat.le_refl _, zDM.nil _ _, zAA HBF.out hb1⟩
end
end
section
abbrev FitT := List Int × List Rt
def fitF (M : Mask) (y S : List Int) : Option FitT := if (zBZ M S y).2 = 0 ∧ (zBZ M S y).1.all (fun r => decide (r.1 ≠ 0)) = true then some (S, (zBZ M S y).1) else none
def zBQ (M : Mask) (y : List Int) (W t : Nat) : List FitT := (List.range t).flatMap fun j => (comb W j 0).filterMap (fitF M y)
theorem zCO (M : Mask) (y : List Int) (W t : Nat) : zBQ M y W (t + 1) = zBQ M y W t ++ (comb W t 0).filterMap (fitF M y) := by
 unfold zBQ; rw [List.range_succ, List.flatMap_append]; simp
def zBE (M : Mask) (y : List Int) (k : Nat) : List FitT := zBQ M y (zAB M) (min (min k (zAB M)) M.length + 1)
theorem zLE {M : Mask} {y S : List Int} {f : FitT} (h : fitF M y S = some f) : f = (S, (zBZ M S y).1) ∧ (zBZ M S y).2 = 0 ∧ ∀ r ∈ f.2, r.1 ≠ 0 := by
 unfold fitF at h
 split at h
 ·rename_i h1
  cases h
  exact ⟨rfl, h1.1, fun r hr => by simpa using List.all_eq_true.1 h1.2 r hr⟩
 ·cases h
end
section
section
theorem zIO {a b c d : Int} (hb : 0 < b) (hd : 0 < d) (h : a * d = c * b) : zAY a b = zAY c d := by
 have g1 : 0 < Int.gcd a b := Nat.pos_of_ne_zero fun e => by have := (Int.gcd_eq_zero_iff.1 e).2; omega
 have g2 : 0 < Int.gcd c d := Nat.pos_of_ne_zero fun e => by have := (Int.gcd_eq_zero_iff.1 e).2; omega
 have k1 : Int.gcd (a * d) (b * d) = Int.gcd a b * d.natAbs := Int.gcd_mul_right _ _ _
 have k2 : Int.gcd (c * b) (d * b) = Int.gcd c d * b.natAbs := Int.gcd_mul_right _ _ _
 rw [h, Int.mul_comm b d, k2] at k1
 obtain ⟨a1, ha⟩ := Int.gcd_dvd_left a b
 obtain ⟨b1, hb1⟩ := Int.gcd_dvd_right a b
 obtain ⟨c1, hc⟩ := Int.gcd_dvd_left c d
 obtain ⟨d1, hd1⟩ := Int.gcd_dvd_right c d
 unfold zAY
 obtain ⟨G, hG⟩ : ∃ G : Int, G = ((Int.gcd a b : Nat) : Int) := ⟨_, rfl⟩
 obtain ⟨H, hH⟩ : ∃ G : Int, G = ((Int.gcd c d : Nat) : Int) := ⟨_, rfl⟩
 have k3 : H * b = G * d := by
  have := congrArg (fun n : Nat => (n : Int)) k1
  simp only [Int.natCast_mul] at this
  rw [<- hG, <- hH] at this
  rw [show ((b.natAbs : Nat) : Int) = b by omega, show ((d.natAbs : Nat) : Int) = d by omega] at this
  exact this
 rw [<- hG] at ha hb1 ⊢
 rw [<- hH] at hc hd1 ⊢
 have hG0 : G ≠ 0 := by omega
 have hH0 : H ≠ 0 := by omega
 have e1 : b1 = d1 := by
  rw [hb1, hd1] at k3
  have : (H * G) * b1 = (H * G) * d1 := by grind
  exact Int.eq_of_mul_eq_mul_left (Int.mul_ne_zero hH0 hG0) this
 have hb10 : b1 ≠ 0 := fun e => by rw [e] at hb1; omega
 have e2 : a1 = c1 := by
  rw [ha, hd1, hc, hb1, <- e1] at h
  have : (G * H * b1) * a1 = (G * H * b1) * c1 := by grind
  exact Int.eq_of_mul_eq_mul_left (Int.mul_ne_zero (Int.mul_ne_zero hG0 hH0) hb10) this
 rw [Int.tdiv_eq_of_eq_mul_left hG0 (c := a1) (by rw [ha]; exact Int.mul_comm _ _), Int.tdiv_eq_of_eq_mul_left hG0 (c := b1) (by rw [hb1]; exact Int.mul_comm _ _),
  Int.tdiv_eq_of_eq_mul_left hH0 (c := c1) (by rw [hc]; exact Int.mul_comm _ _), Int.tdiv_eq_of_eq_mul_left hH0 (c := d1) (by rw [hd1]; exact Int.mul_comm _ _), e1, e2]
end
section
section
open Go.RowKit
end
section
open Go.RowKit
end
section
open Go.RowKit
end
section
open Go.RowKit
theorem clone_c (w : World) (a : Option Addr) (n cap : Nat) (l : List Int) (hn : l.length = n) (hm : n * 8 <= 140737488355328) (H : zAH w a l) :
 Calls Tryz.prog 231 #[.slice a n cap] w fun e w' => ∃ v, e = .returned v ∧ w'.ownsRow w.heap.size 3 1 v n (l.map (Value.int .i64)) ∧ Below w.heap.size w w' := by
 obtain ⟨i0, hi, hz0, hz1, hz2⟩ := info_parts zDP
 have heq := fun (w : World) (a : Option Addr) (n c : Nat) => Lib.run_eql_slice_nil (P := Tryz.prog) w 24 3 a n c 0 0 Tryz.underlying24
 cases a with
 | none =>
   have h0 : n = 0 := by
    rcases Nat.eq_zero_or_pos n with h | h
    ·exact h
    ·obtain ⟨_, _, e, _⟩ := H 0 (by omega); cases e
   subst h0
   have hl : l = [] := List.eq_nil_of_length_eq_zero hn
   subst hl
   clear hn H hm
   go_enter Tryz.func231, Tryz.ntmps231
   go_wp2
   go_ret
   exact ⟨_, rfl, World.ownsRow_nil _ _ _ _, Below.refl _ _⟩
 | some ad =>
   have HN := hid hn
   have hnews : ∀ j u, (l.map (Value.int .i64))[j]? = some u -> (w.alloc (.cells #[] 3)).cell? (ad.add j) = some u := by
    intro j u hu
    rw [List.getElem?_map] at hu
    obtain ⟨x, hx, rfl⟩ := Option.map_eq_some_iff.1 hu
    obtain ⟨hjl, e⟩ := List.getElem?_eq_some_iff.1 hx
    obtain ⟨b, off, ea, hb, hc⟩ := H j hjl
    cases ea
    rw [Addr.add_lit]
    refine (((Below.refl _ w).alloc (Nat.le_refl _) (.cells #[] 3)).cell (p := ⟨b, off + j, none⟩) hb).trans ?_
    rw [hc, hx]; rfl
   have HNews := hid hnews
   clear hnews H hn
   go_enter Tryz.func231, Tryz.ntmps231
   go_wp2_with (at_builtin; refine wpList_append_own _ rfl _ _ 24 rfl w.heap.size 3 i0 (.int .i64 0) 1 8 Tryz.underlying24 hi hz0 hz1 hz2 rfl (by decide) _ 0 [] rfl (World.ownsRow_made _ _ 0 (Nat.le_refl _) (by unfold maxLen; omega) rfl) ad n cap (l.map (Value.int .i64)) rfl (by rw [List.length_map, HN.out]; omega) HNews.out (zLB _) (by unfold maxLen; omega) (by omega) (by simp) ?_; intro v' w1 hown' hgrow _)
   go_ret
   refine ⟨_, rfl, by simpa using hown', ((Below.refl _ w).alloc (Nat.le_refl _) _).grown hgrow (by simp) (fun k hk => by cases hk; exact Nat.le_refl _)⟩
end
section
open Go.RowKit
end
section
open Go.RowKit
end
end
end
section
open Go.RowKit
def PredQ (P : Program) (g : Nat) (lb : Array Value) (w : World) (p : Rt -> Bool) : Prop :=
 ∀ (r : Rt) (W : World), Below w.heap.size w W -> Calls P g (#[ratV r] ++ lb) W fun e W' => e = .returned (.bool (p r)) ∧ Below W.heap.size W W'
theorem indexQ (w : World) (a : Option Addr) (n cap : Nat) (l : List Rt) (hn : l.length = n) (hm : n <= maxLen) (H : zCJ w a l) (g : Nat) (lb : Array Value) (p : Rt -> Bool) (hp : PredQ Tryz.prog g lb w p) (eg : ∀ args w, (callFunc g args).run Tryz.prog w = .ok (.enter g args) w) :
 Calls Tryz.prog 146 #[.slice a n cap, .func (.func g) #[] lb] w fun e w' => e = .returned (.int .i64 (idxP p l 0)) ∧ Below w.heap.size w w' := by
 have HN := hid hn
 have HH := hid H
 have HP := hid hp
 clear hn H hp
 unfold maxLen at hm
 go_enter Tryz.func146, Tryz.ntmps146
 go_wp2
 go_loopw [8] (fun i wr => ∃ k : Nat, k <= n ∧ i = .int .i64 k ∧ Below w.heap.size w wr ∧ ∀ i y, i < k -> l[i]? = some y -> p y = false) (fun i _ => n - (intOf i).toNat)
 case atStart => exact ⟨0, Nat.zero_le _, rfl, Below.refl _ _, fun i y h => by omega⟩
 case round =>
  obtain ⟨k, hk, rfl, hb, hno⟩ := hrel
  have HNO := hid hno
  clear hno
  by_cases hlt : k < n
  ·have hkl : k < l.length := by rw [HN.out]; exact hlt
   obtain ⟨b, off, rfl, hbs, h0, h1⟩ := (HH.out.below hb) k hkl
   have HK := hid (List.getElem?_eq_getElem hkl)
   obtain ⟨⟨r1, r2⟩, hr⟩ : ∃ r, r = l[k]'hkl := ⟨_, rfl⟩
   rw [<- hr] at h0 h1 HK
   simp only [] at h0 h1
   have HC := hid (HP.out (r1, r2) wr hb)
   obtain ⟨B, hB⟩ := exq (p (r1, r2))
   rw [<- hB] at HC
   have HBB := hid hB.symm
   clear hr hB hkl
   go_wp2_with (refine HC.out.mono ?_; rintro e w1 ⟨rfl, hb1⟩; refine Stop.of ?_)
   refine Stop.go ?_
   cases B
   ·go_wp2
    refine ⟨⟨k + 1, by omega, by go_num, zAA hb hb1, ?_⟩, by simp [intOf]; omega⟩
    intro i y hi hy
    by_cases e : i = k
    ·subst e; rw [HK.out] at hy; cases hy; exact HBB.out
    ·exact HNO.out i y (by omega) hy
   ·go_wp2
    go_ret
    refine ⟨zBY ?_, zAA hb hb1⟩
    rw [zJU p l 0 k _ HK.out HBB.out HNO.out]; simp
  ·go_wp2
   go_ret
   refine ⟨zBY ?_, hb⟩
   rw [zHO]
   intro x hx
   obtain ⟨i, hi, e⟩ := List.getElem_of_mem hx
   exact HNO.out i x (by have := HN.out; omega) (by rw [List.getElem?_eq_getElem hi, e])
theorem containsQ (w : World) (a : Option Addr) (n cap : Nat) (l : List Rt) (hn : l.length = n) (hm : n <= maxLen) (H : zCJ w a l) (g : Nat) (lb : Array Value) (p : Rt -> Bool) (hp : PredQ Tryz.prog g lb w p) (eg : ∀ args w, (callFunc g args).run Tryz.prog w = .ok (.enter g args) w) :
 Calls Tryz.prog 80 #[.slice a n cap, .func (.func g) #[] lb] w fun e w' => e = .returned (.bool (l.any p)) ∧ Below w.heap.size w w' := by
 have HC := hid (indexQ w a n cap l hn hm H g lb p hp eg)
 have HG' := hid (zMN p l 0)
 clear hn H hp
 go_enter Tryz.func80, Tryz.ntmps80
 go_wp2_with (refine HC.out.mono ?_; rintro e w1 ⟨rfl, hb1⟩)
 go_ret
 refine ⟨zAZ ?_, hb1⟩
 rw [Bool.eq_iff_iff, decide_eq_true_iff, HG'.out]
theorem fit1 (w : World) : PredQ Tryz.prog 263 #[] w (fun r => decide (r.1 = 0)) := by
 rintro ⟨r1, r2⟩ W hb
 have hbz : Below W.heap.size W (W.alloc (.cells #[.int .i64 r1, .int .i64 r2] 29)) := (Below.refl _ _).alloc (Nat.le_refl _) _
 simp only [ratV]
 go_enter Tryz.func263, Tryz.ntmps263
 go_wp2
 go_ret
 exact ⟨zAZ (by rw [Bool.eq_iff_iff]; simp), hbz⟩
theorem qpixels_c (w : World) (a a2 : Option Addr) (n cap n2 cap2 : Nat) (M : Mask) (hn : M.length = n) (h1 : 1 <= n) (H : zAK w a M) :
 Calls Tryz.prog 255 #[.agg #[.slice a n cap, .slice a2 n2 cap2]] w fun e w' => e = .returned (.int .i64 (zAB M)) ∧ Below w.heap.size w w' := by
 obtain ⟨b, off, ra, rc, rfl, hb, hc⟩ := zCX H (by omega)
 have hbz : Below w.heap.size w (w.alloc (.cells #[.slice (some ⟨b, off, none⟩) n cap, .slice a2 n2 cap2] 216)) := (Below.refl _ _).alloc (Nat.le_refl _) _
 have hcz := (hbz.cell (p := ⟨b, off, none⟩) hb).trans hc
 have i0 : (0 : Int) < (n : Int) := by omega
 obtain ⟨W, hW⟩ := exq (zAB M)
 rw [<- hW] at hcz ⊢
 have HB := hid hbz
 clear hbz hc hb hn H hW
 go_enter Tryz.func255, Tryz.ntmps255
 go_wp2
 go_ret
 exact ⟨rfl, HB.out⟩
def FitV (lo : Nat) (S : Nat -> Prop) (f : FitT) (v : Value) (W : World) : Prop :=
 ∃ pa pn pc va vn vc, v = .agg #[.slice pa pn pc, .slice va vn vc] ∧ f.1.length = pn ∧ f.2.length = vn ∧ pn <= maxLen ∧ vn <= maxLen ∧ zAH W pa f.1 ∧ zCJ W va f.2 ∧
   (∀ b o, pa = some ⟨b, o, none⟩ -> lo <= b ∧ b < W.heap.size ∧ ¬ S b ∧ ∃ c z, W.heap[b]? = some (.cells c 3 z)) ∧ (∀ b o, va = some ⟨b, o, none⟩ -> lo <= b ∧ b < W.heap.size ∧ ¬ S b ∧ ∃ c z, W.heap[b]? = some (.cells c 29 z))
def FitPost (o : Option FitT) (lo : Nat) (e : Ending) (w' : World) : Prop :=
 (o = none ∧ e = .returned (.tuple #[.agg #[.slice none 0 0, .slice none 0 0], .bool false])) ∨ (∃ f v, o = some f ∧ e = .returned (.tuple #[v, .bool true]) ∧ FitV lo (fun _ => False) f v w')
theorem zMB {w : World} {base : Nat} {T : TypeId} {k n : Nat} {a : Option Addr} {c : Nat} {xs : List Value} (h : w.ownsRow base T k (.slice a n c) n xs) : ∀ b o, a = some ⟨b, o, none⟩ -> base <= b ∧ b < w.heap.size := by
 rintro b o rfl
 rcases h.2 with ⟨h1, _⟩ | ⟨g, cap, cur, h1, hbg, hgg, _⟩
 ·cases h1
 ·cases h1; exact ⟨hbg, (Array.getElem?_eq_some_iff.1 hgg).1⟩
theorem own_typed {w : World} {base : Nat} {T : TypeId} {k n : Nat} {a : Option Addr} {c : Nat} {xs : List Value} (h : w.ownsRow base T k (.slice a n c) n xs) : ∀ b o, a = some ⟨b, o, none⟩ -> ∃ c z, w.heap[b]? = some (.cells c T z) := by
 rintro b o rfl
 rcases h.2 with ⟨h1, _⟩ | ⟨g, cap, cur, h1, hbg, hgg, _⟩
 ·cases h1
 ·cases h1; exact ⟨_, _, hgg⟩
theorem fit_c (w : World) (a a2 a3 : Option Addr) (n cap n2 cap2 n3 cap3 : Nat) (M : Mask) (y S : List Int) (hn : M.length = n) (hn2 : y.length = n2) (hn3 : S.length = n3) (hm : n <= maxLen) (hm2 : n2 <= maxLen) (hm3 : n3 <= 1000) (H : zAK w a M) (H2 : zAH w a2 y) (H3 : zAH w a3 S) :
 Calls Tryz.prog 256 #[.agg #[.slice a n cap, .slice a2 n2 cap2], .slice a3 n3 cap3] w fun e w' => FitPost (fitF M y S) w.heap.size e w' ∧ Below w.heap.size w w' := by
 obtain ⟨wz, hwz⟩ := exq ((w.alloc (.cells #[.slice a n cap, .slice a2 n2 cap2] 216)).alloc (.cells #[.slice none 0 0, .slice none 0 0] 73))
 obtain ⟨s0, hs⟩ := exq (w.heap.size)
 have hbz : Below w.heap.size w wz := by rw [hwz]; exact ((Below.refl _ _).alloc (Nat.le_refl _) _).alloc (by simp) _
 have l0 : wz.cell? ⟨s0, 0, none⟩ = some (.slice a n cap) := by rw [hwz, hs, World.cell?_alloc_past _ _ _ (by simp), World.cell?_alloc_at _ _ _ _ rfl]; rfl
 have l1 : wz.cell? ⟨s0, 1, none⟩ = some (.slice a2 n2 cap2) := by rw [hwz, hs, World.cell?_alloc_past _ _ _ (by simp), World.cell?_alloc_at _ _ _ _ rfl]; rfl
 have q0 : wz.heap[s0 + 1]? = some (.cells #[.slice none 0 0, .slice none 0 0] 73 (0, 0)) := by
  have := World.alloc_heap_new (w.alloc (.cells #[.slice a n cap, .slice a2 n2 cap2] 216)) (.cells #[.slice none 0 0, .slice none 0 0] 73)
  rw [hwz, hs]; simpa using this
 have hs1 : s0 + 1 < wz.heap.size := (Array.getElem?_eq_some_iff.1 q0).1
 have HSO := hid (solve_c wz a a3 a2 n cap n3 cap3 n2 cap2 M S y hn hn3 hn2 hm (Nat.le_trans hm3 (by decide)) hm2 (H.below hbz) (H3.below hbz) (H2.below hbz))
 have HCL := hid (fun (X : World) (hX : Below w.heap.size w X) => clone_c X a3 n3 cap3 S hn3 (by omega) (H3.below hX))
 have HFC := hid (fun (X : World) (va : Option Addr) (vc : Nat) (vl : List Rt) (hvm : vl.length <= maxLen) (hv : zCJ X va vl) => containsQ X va vl.length vc vl rfl hvm hv _ #[] _ (fit1 X) (enters_of Tryz.func263 (by kernel_rfl) rfl))
 have HFF := hid (show fitF M y S = if (zBZ M S y).2 = 0 ∧ (zBZ M S y).1.all (fun r => decide (r.1 ≠ 0)) = true then some (S, (zBZ M S y).1) else none from rfl)
 obtain ⟨F, hF⟩ := exq (fitF M y S)
 obtain ⟨⟨V, E⟩, hVE⟩ : ∃ V, V = zBZ M S y := ⟨_, rfl⟩
 rw [<- hVE] at HSO HFF
 rw [<- hF] at HFF ⊢
 simp only [] at HSO HFF
 have HB := hid hbz
 have HQ := hid (fun (X : World) (hX : Below wz.heap.size wz X) => (hX.block _ hs1).trans q0)
 have HS := hid hs
 have HN3 := hid hn3
 have hs1' := hid hs1
 clear hbz hn hn2 hn3 H H2 H3 hF hVE q0 hs1
 go_enter Tryz.func256, Tryz.ntmps256
 go_wp2_with fail
 rw [<- hs, <- hwz]
 clear hs hwz
 go_wp2_with (go_at_call 262; refine HSO.out.mono ?_; rintro e w1 ⟨v, base, rfl, hbs, hO, hb1⟩; refine Stop.of ?_)
 refine Stop.go ?_
 obtain ⟨va, vc, rfl, hvm, hvr⟩ := hO.reads
 have HVB := hid (zMB hO)
 have HVT := hid (own_typed hO)
 have HVR := hid hvr
 have HVM := hid hvm
 have HB1 := hid hb1
 have HBS := hid hbs
 clear hO hvr hvm hb1 hbs HSO l0 l1
 have hz : ∀ X : World, Below wz.heap.size wz X -> X.cell? ⟨s0 + 1, 0, none⟩ = some (.slice none 0 0) ∧ X.cell? ⟨s0 + 1, 1, none⟩ = some (.slice none 0 0) ∧ X.frozen? ⟨s0 + 1, 0, none⟩ = false ∧ X.frozen? ⟨s0 + 1, 1, none⟩ = false ∧ s0 + 1 < X.heap.size := fun X hX => by
  have h := HQ.out X hX
  exact ⟨by simp [World.cell?, h], by simp [World.cell?, h], by simp [World.frozen?, h], by simp [World.frozen?, h], (Array.getElem?_eq_some_iff.1 h).1⟩
 have HZ := hid hz
 clear hz
 by_cases hE : E = 0
 rotate_left
 ·obtain rfl : F = none := by rw [HFF.out, if_neg (fun h => hE h.1)]
  have hEb : (E != 0) = true := by simpa using hE
  obtain ⟨z0, z1, f0, f1, hlt⟩ := HZ.out _ HB1.out
  have HFI := hid (show Below w.heap.size w ((w1.setCell ⟨s0 + 1, 0, none⟩ (.slice none 0 0)).setCell ⟨s0 + 1, 1, none⟩ (.slice none 0 0)) from by
   have hg : w.heap.size <= s0 + 1 := by rw [HS.out]; omega
   exact zAD (zAD (zAA HB.out HB1.out) hg _ _) hg _ _)
  go_wp2
  refine bodyPost_ret (v := .tuple #[.agg #[.slice none 0 0, .slice none 0 0], .bool false]) ?_ rfl ⟨.inl ⟨rfl, rfl⟩, HFI.out⟩
  simp [results, Tryz.results256, go_sem, z0, z1, f0, f1, hlt]
 ·subst hE
  have HFC1 := hid (HFC.out w1 va vc V HVM.out HVR.out)
  have hany : V.any (fun r => decide (r.1 = 0)) = !V.all (fun r => decide (r.1 ≠ 0)) := by
   rw [List.not_all_eq_any_not]; congr 1; funext r; simp
  rw [hany] at HFC1
  obtain ⟨A, hA⟩ := exq (V.all (fun r => decide (r.1 ≠ 0)))
  rw [<- hA] at HFC1 HFF
  clear hA hany HFC
  go_wp2_with (go_at_call 80; refine HFC1.out.mono ?_; rintro e w2 ⟨rfl, hb2⟩; refine Stop.of ?_)
  refine Stop.go ?_
  have HB2 := hid (zAA HB1.out hb2)
  have HVR2 := hid (HVR.out.below hb2)
  have HVT2 := hid (fun (b o : Nat) (h : va = some ⟨b, o, none⟩) => show ∃ c z, w2.heap[b]? = some (.cells c 29 z) from by obtain ⟨c, z, hh⟩ := HVT.out b o h; exact ⟨c, z, (hb2.block b (HVB.out b o h).2).trans hh⟩)
  have HVB2 := hid (fun b o h => show base <= b ∧ b < w2.heap.size from by have := HVB.out b o h; have := hb2.size; omega)
  clear hb2 HFC1
  cases A
  ·obtain rfl : F = none := by rw [HFF.out]; rfl
   obtain ⟨z0, z1, f0, f1, hlt⟩ := HZ.out _ HB2.out
   have HFI := hid (show Below w.heap.size w ((w2.setCell ⟨s0 + 1, 0, none⟩ (.slice none 0 0)).setCell ⟨s0 + 1, 1, none⟩ (.slice none 0 0)) from by
    have hg : w.heap.size <= s0 + 1 := by rw [HS.out]; omega
    exact zAD (zAD (zAA HB.out HB2.out) hg _ _) hg _ _)
   go_wp2
   refine bodyPost_ret (v := .tuple #[.agg #[.slice none 0 0, .slice none 0 0], .bool false]) ?_ rfl ⟨.inl ⟨rfl, rfl⟩, HFI.out⟩
   simp [results, Tryz.results256, go_sem, z0, z1, f0, f1, hlt]
  ·obtain rfl : F = some (S, V) := by rw [HFF.out]; rfl
   go_wp2_with (go_at_call 231; refine (HCL.out _ (zAA HB.out HB2.out)).mono ?_; rintro e w3 ⟨v3, rfl, ho3, hb3⟩; refine Stop.of ?_)
   refine Stop.go ?_
   obtain ⟨pa, pc, rfl, hpi, _⟩ := zCN ho3 HN3.out
   have HB3 := hid (zAA HB2.out hb3)
   obtain ⟨z0, z1, f0, f1, hlt⟩ := HZ.out _ HB3.out
   have hgS : w.heap.size <= s0 + 1 := by rw [HS.out]; omega
   have HFI := hid (show Below w.heap.size w ((w3.setCell ⟨s0 + 1, 0, none⟩ (.slice pa n3 pc)).setCell ⟨s0 + 1, 1, none⟩ (.slice va V.length vc)) from zAD (zAD (zAA HB.out HB3.out) hgS _ _) hgS _ _)
   have hpb := zMB ho3
   have hpt := own_typed ho3
   have hbz2 : s0 + 1 < w2.heap.size := by have := HB2.out.size; have := hs1'.out; omega
   have hsz : w.heap.size <= w2.heap.size := Nat.le_trans HB.out.size HB2.out.size
   have hbs : wz.heap.size <= base := HBS.out
   have HFV := hid (show FitV w.heap.size (fun _ => False) (S, V) (.agg #[.slice pa n3 pc, .slice va V.length vc]) ((w3.setCell ⟨s0 + 1, 0, none⟩ (.slice pa n3 pc)).setCell ⟨s0 + 1, 1, none⟩ (.slice va V.length vc)) from by
    have hkeep : ∀ k, k ≠ s0 + 1 -> ((w3.setCell ⟨s0 + 1, 0, none⟩ (.slice pa n3 pc)).setCell ⟨s0 + 1, 1, none⟩ (.slice va V.length vc)).heap[k]? = w3.heap[k]? := fun k hk => (Below.heap_setCell _ _ _ _ hk).trans (Below.heap_setCell _ _ _ _ hk)
    refine ⟨pa, n3, pc, va, V.length, vc, rfl, HN3.out, rfl, Nat.le_trans hm3 (by decide), HVM.out, ?_, ?_, ?_, ?_⟩
    ·intro j hj
     obtain ⟨b, o, e, hb, hc⟩ := hpi j hj
     have := hpb b o e
     refine ⟨b, o, e, by simp [World.setCell]; omega, ?_⟩
     rw [World.cell?_of_block (hkeep b (by omega))]; exact hc
    ·intro j hj
     obtain ⟨b, o, e, hb, h0, h1⟩ := (HVR2.out.below hb3) j hj
     have := HVB2.out b o e
     have hs2 := hs1'.out
     refine ⟨b, o, e, by simp [World.setCell]; omega, ?_, ?_⟩
     ·rw [World.cell?_of_block (hkeep b (by omega))]; exact h0
     ·rw [World.cell?_of_block (hkeep b (by omega))]; exact h1
    ·intro b o e
     have := hpb b o e
     exact ⟨by omega, by simp [World.setCell]; omega, fun h => h, by obtain ⟨c, z, hh⟩ := hpt b o e; exact ⟨c, z, (hkeep b (by omega)).trans hh⟩⟩
    ·intro b o e
     have := HVB2.out b o e
     have hvt := HVT2.out b o e
     have hs2 := hs1'.out
     have h3z := hb3.size
     exact ⟨by have := HB.out.size; omega, by simp [World.setCell]; omega, fun h => h, by obtain ⟨c, z, hh⟩ := hvt; exact ⟨c, z, (hkeep b (by omega)).trans ((hb3.block b this.2).trans hh)⟩⟩)
   clear ho3 hpi hb3 hpb hpt HVR HVR2 HCL
   go_wp2
   refine bodyPost_ret (v := .tuple #[.agg #[.slice pa n3 pc, .slice va V.length vc], .bool true]) ?_ rfl ⟨.inr ⟨_, _, rfl, rfl, HFV.out⟩, HFI.out⟩
   simp [results, Tryz.results256, go_sem, z0, z1, f0, f1, hlt]
end
section
open Go.RowKit
def IterS (P : Program) (g : Nat) (lb : Array Value) {α : Type} (V : Nat -> (Nat -> Prop) -> α -> Value -> World -> Prop) (xs : List α) (fp : Nat -> Prop) (w0 : World) : Prop :=
 ∀ (l : Nat) (J Jx : (Nat -> Prop) -> List α -> World -> Prop) (W : World), Below w0.heap.size w0 W ->
   (∀ S S' s A B, Jx S s A -> (∀ k, S k -> S' k) -> (∀ k, S' k -> S k ∨ A.heap.size <= k) -> Keep (fun k => ¬ S' k) A B -> Jx S' s B) ->
   (∀ S S' s A B, J S s A -> (∀ k, S k -> S' k) -> (∀ k, S' k -> S k ∨ A.heap.size <= k) -> Keep (fun k => ¬ S' k) A B -> J S' s B) ->
   (∀ S pre x v W1, pre ++ [x] <+: xs -> (∀ k, S k -> W.heap.size <= k ∧ k < W1.heap.size) -> W.heap.size <= W1.heap.size -> J S pre W1 -> V W.heap.size S x v W1 ->
     YieldAt Fence.wide 0 P l #[v] W1 fun e W' =>
      (W1.heap.size <= W'.heap.size ∧ (∀ k, fp k ∨ S k -> W'.heap[k]? = W1.heap[k]?)) ∧ ((e = .returned (.bool true) ∧ J S (pre ++ [x]) W') ∨ (e = .returned (.bool false) ∧ Jx S (pre ++ [x]) W'))) ->
   J (fun _ => False) [] W ->
   CallsIn Fence.wide 0 P g (#[.func (.yield l) #[] #[]] ++ lb) W fun e W' => (∃ v, e = .returned v) ∧ ((∃ S, (∀ k, S k -> W.heap.size <= k ∧ k < W'.heap.size) ∧ J S xs W') ∨ (∃ S pre, pre <+: xs ∧ Jx S pre W'))
def roundEndS {α : Type} (S : Nat -> Prop) (I : List α -> World -> Prop) (Ix : Code -> List α -> World -> Prop) (xs : List α) (W : World) : Exit -> Act -> World -> Prop
 | .normal, _, W' => W.heap.size <= W'.heap.size ∧ (∀ k, S k -> W'.heap[k]? = W.heap[k]?) ∧ I xs W'
 | .ret, _, W' => W.heap.size <= W'.heap.size ∧ (∀ k, S k -> W'.heap[k]? = W.heap[k]?) ∧ Ix .ret xs W'
 | .exit id, _, W' => W.heap.size <= W'.heap.size ∧ (∀ k, S k -> W'.heap[k]? = W.heap[k]?) ∧ Ix (.exit id) xs W'
 | .goto t, _, W' => W.heap.size <= W'.heap.size ∧ (∀ k, S k -> W'.heap[k]? = W.heap[k]?) ∧ Ix (.goto t) xs W'
 | .panic _, _, _ => False
 | .outgrown, _, _ => False
theorem range_s {P : Program} {g : Operand} {p : Tmp} {assign body : Code} {Q : Exit -> Act -> World -> Prop} {a : Act} {w : World}
 {gf : Nat} {lb : Array Value} (hg : a.eval g = .func (.func gf) #[] lb) (eg : ∀ args w, (callFunc gf args).run P w = .ok (.enter gf args) w)
 {α : Type} {V : Nat -> (Nat -> Prop) -> α -> Value -> World -> Prop} {xs : List α} {fp : Nat -> Prop} {w0 : World} (hseq : IterS P gf lb V xs fp w0) (hb0 : Below w0.heap.size w0 w) (hfp : ∀ k, fp k -> k < w.heap.size)
 (I : (Nat -> Prop) -> List α -> World -> Prop) (Ix : (Nat -> Prop) -> Code -> List α -> World -> Prop)
 (hI : ∀ S S' s A B, I S s A -> (∀ k, S k -> S' k) -> (∀ k, S' k -> S k ∨ A.heap.size <= k) -> (∀ k, S' k -> w.heap.size + 2 <= k) -> w.heap.size + 2 <= A.heap.size -> Keep (fun k => k ≠ w.heap.size ∧ k ≠ w.heap.size + 1 ∧ ¬ S' k) A B -> I S' s B)
 (hIx : ∀ S S' c s A B, Ix S c s A -> (∀ k, S k -> S' k) -> (∀ k, S' k -> S k ∨ A.heap.size <= k) -> (∀ k, S' k -> w.heap.size + 2 <= k) -> w.heap.size + 2 <= A.heap.size -> Keep (fun k => k ≠ w.heap.size ∧ k ≠ w.heap.size + 1 ∧ ¬ S' k) A B -> Ix S' c s B)
 (hV : ∀ S x v A B, V (w.heap.size + 2) S x v A -> Keep (fun k => k ≠ w.heap.size ∧ k ≠ w.heap.size + 1) A B -> V (w.heap.size + 2) S x v B)
 (h0 : ∀ W, Keep (fun k => k < w.heap.size) w W -> w.heap.size + 2 <= W.heap.size -> I (fun _ => False) [] W) (Ax : Value -> Act -> World -> Prop)
 (hAx : ∀ v a' A B, Ax v a' A -> Keep (fun k => k ≠ w.heap.size ∧ k ≠ w.heap.size + 1) A B -> Ax v a' B)
 (hassign : ∀ (l : Nat) (S : Nat -> Prop) (x : α) (v : Value) (W : World) (K : Act -> World -> Prop), w.heap.size + 2 <= W.heap.size -> V (w.heap.size + 2) S x v W -> (∀ a' W', Below W.heap.size W W' -> Ax v a' W' -> K a' W') ->
   assign.wpIn (Fence.wide.inRound l) 0 P (Exit.then K (fun _ _ _ => False)) { tmps := a.tmps.setIfInBounds p v, defers := [] } W)
 (hbody : ∀ (l : Nat) (S : Nat -> Prop) (pre : List α) (x : α) (v : Value) (a' : Act) (W : World), pre ++ [x] <+: xs -> (∀ k, S k -> w.heap.size + 2 <= k ∧ k < W.heap.size) -> I S pre W -> V (w.heap.size + 2) S x v W -> Ax v a' W -> w.heap.size + 2 <= W.heap.size ->
   (∃ o, W.heap[w.heap.size]? = some o ∧ o.isCells = false) -> (∃ o, W.heap[w.heap.size + 1]? = some o ∧ o.isCells = false) ->
   body.wpIn (Fence.wide.inRound l) 0 P (roundEndS (fun k => fp k ∨ k = w.heap.size ∨ k = w.heap.size + 1 ∨ S k) (I S) (Ix S) (pre ++ [x]) W) a' W)
 (hdone : ∀ (S : Nat -> Prop) (W : World), w.heap.size + 2 <= W.heap.size -> (∀ k, S k -> w.heap.size + 2 <= k ∧ k < W.heap.size) -> I S xs W -> W.heap[w.heap.size]? = some (.deferred (some [])) -> Q .normal { a with defers := { target := .collected w.heap.size, args := #[] } :: a.defers } W)
 (hstop : ∀ (S : Nat -> Prop) (c : Code) (pre : List α) (W : World), pre <+: xs -> (∀ k, S k -> w.heap.size + 2 <= k) -> Ix S c pre W -> W.heap[w.heap.size]? = some (.deferred (some [])) -> c.wpIn Fence.wide 0 P Q { a with defers := { target := .collected w.heap.size, args := #[] } :: a.defers } W) :
 (Code.rangeFunc g #[p] assign body).wpIn Fence.wide 0 P Q a w := by
 refine wpIn_rangeFunc ?_
 intro fn hfn
 obtain ⟨rec, hrec⟩ : ∃ rec : LoopState -> Option Code -> Loop, rec = fun st pe => { state := st, pending := pe, fn, tmps := a.tmps, params := #[p], assign, body, defers := w.heap.size } := ⟨_, rfl⟩
 obtain ⟨W1, hW1⟩ : ∃ W1, (w.alloc (.deferred (some []))).alloc (.loop (rec .ready none)) = W1 := ⟨_, rfl⟩
 have hsz1 : W1.heap.size = w.heap.size + 2 := by rw [<- hW1]; simp
 have hL1 : W1.heap[w.heap.size + 1]? = some (.loop (rec .ready none)) := by
  rw [<- hW1]; have := World.alloc_heap_new (w.alloc (.deferred (some []))) (.loop (rec .ready none)); rwa [World.size_alloc] at this
 have hK1 : W1.heap[w.heap.size]? = some (.deferred (some [])) := by
  rw [<- hW1]; exact (Below.heap_alloc _ _ _ (by simp)).trans (World.alloc_heap_new w _)
 have hbw : Below w.heap.size w W1 := by rw [<- hW1]; exact ((Below.refl _ w).alloc (Nat.le_refl _) _).alloc (by simp) _
 refine ⟨w.heap.size + 1, [{ target := .collected w.heap.size, args := #[] }], W1, { target := .fn (.func gf) lb, args := #[.func (.yield (w.heap.size + 1)) #[] #[]] }, W1, gf,
  #[.func (.yield (w.heap.size + 1)) #[] #[]] ++ lb, W1, ?_, ?_, ?_, ?_, fun h => by simp [Fence.wide] at h, ?_⟩
 ·rw [<- hW1, hrec]; exact run_enterLoop_outer _ _ _ _ _
 ·simp only [resolve, hg]
  simp [go_sem]
 ·intro f' hf'; exact trivial
 ·simp [invoke, go_sem, eg]
 ·refine (hseq (w.heap.size + 1)
   (fun S pre W => (I S pre W ∧ w.heap.size + 2 <= W.heap.size ∧ ∀ k, S k -> w.heap.size + 2 <= k) ∧ W.heap[w.heap.size + 1]? = some (.loop (rec .ready none)) ∧ W.heap[w.heap.size]? = some (.deferred (some [])))
   (fun S pre W => ∃ c, (Ix S c pre W ∧ w.heap.size + 2 <= W.heap.size ∧ ∀ k, S k -> w.heap.size + 2 <= k) ∧ W.heap[w.heap.size + 1]? = some (.loop (rec .done (some c))) ∧ W.heap[w.heap.size]? = some (.deferred (some [])))
   W1 (zAA hb0 hbw) ?_ ?_ ?_ ?_).mono ?_
  ·rintro S S' s A B ⟨c, ⟨hi, hsA, hSl⟩, hl, hk⟩ hSS hSn hAB
   have hS' : ∀ k, S' k -> w.heap.size + 2 <= k := fun k h => by
    rcases hSn k h with h1 | h1
    ·exact hSl k h1
    ·omega
   exact ⟨c, ⟨hIx S S' c s A B hi hSS hSn hS' hsA (hAB.mono fun k hk => hk.2.2), Nat.le_trans hsA hAB.size, hS'⟩,
    (hAB.block _ (Array.getElem?_eq_some_iff.1 hl).1 (fun h => by have := hS' _ h; omega)).trans hl, (hAB.block _ (Array.getElem?_eq_some_iff.1 hk).1 (fun h => by have := hS' _ h; omega)).trans hk⟩
  ·rintro S S' s A B ⟨⟨hi, hsA, hSl⟩, hl, hk⟩ hSS hSn hAB
   have hS' : ∀ k, S' k -> w.heap.size + 2 <= k := fun k h => by
    rcases hSn k h with h1 | h1
    ·exact hSl k h1
    ·omega
   exact ⟨⟨hI S S' s A B hi hSS hSn hS' hsA (hAB.mono fun k hk => hk.2.2), Nat.le_trans hsA hAB.size, hS'⟩,
    (hAB.block _ (Array.getElem?_eq_some_iff.1 hl).1 (fun h => by have := hS' _ h; omega)).trans hl, (hAB.block _ (Array.getElem?_eq_some_iff.1 hk).1 (fun h => by have := hS' _ h; omega)).trans hk⟩
  ·rintro S pre x v W hpre hSb hsz ⟨⟨hi, hsW, hSl⟩, hl, hk⟩ hv
   rw [hsz1] at hv hSb
   have hlt : w.heap.size + 1 < W.heap.size := (Array.getElem?_eq_some_iff.1 hl).1
   have hy := run_yield (P := P) (args := #[v]) hl (by rw [hrec]; simp)
   rw [hrec] at hy
   have hy' : (Instr.yield (w.heap.size + 1) #[v]).run P W = .ok (.round (w.heap.size + 1) fn (a.tmps.setIfInBounds p v) assign body) W := by
    simpa using hy
   refine ⟨fn, _, assign, body, hy', roundIn_of_wpIn hfn ?_⟩
   refine hassign _ S x v W _ hsW hv ?_
   intro a' W' hbW' hax
   have hlW' : W'.heap[w.heap.size + 1]? = some (.loop (rec .ready none)) := (hbW'.block _ hlt).trans hl
   have hkW' : W'.heap[w.heap.size]? = some (.deferred (some [])) := (hbW'.block _ (by omega)).trans hk
   have hltW' : w.heap.size + 1 < W'.heap.size := by have := hbW'.size; omega
   refine ⟨_, run_beginRound hlW' (by rw [hrec]), ?_⟩
   have hl2 : (W'.putObj (w.heap.size + 1) (.loop { rec .ready none with state := .busy })).heap[w.heap.size + 1]? = some (.loop { rec .ready none with state := .busy }) := World.putObj_heap_same hltW'
   have hkp := Keep.put W' (w.heap.size + 1) (.loop { rec .ready none with state := .busy })
   have hkp2 : Keep (fun k => k ≠ w.heap.size ∧ k ≠ w.heap.size + 1) W' _ := hkp.mono fun k hk => hk.2
   have hIW' := hI S S pre _ _ (hI S S pre _ _ hi (fun _ h => h) (fun _ h => .inl h) hSl hsW (Keep.of_below hbW')) (fun _ h => h) (fun _ h => .inl h) hSl (Nat.le_trans hsW hbW'.size) (hkp2.mono fun k hk => ⟨hk.1, hk.2.1⟩)
   refine wpIn_mono (hbody _ S pre x v a' _ hpre (fun k h => ⟨hSl k h, by have := (hSb k h).2; exact Nat.lt_of_lt_of_le this (Nat.le_trans hbW'.size hkp.size)⟩) hIW' (hV S x v _ _ (hV S x v _ _ hv (Keep.of_below hbW')) hkp2) (hAx _ _ _ _ hax hkp2) (Nat.le_trans (Nat.le_trans hsW hbW'.size) hkp.size) ⟨_, (World.putObj_heap_other (by omega)).trans hkW', rfl⟩ ⟨_, hl2, rfl⟩) ?_
   have fin : ∀ (jump : Option Code) (W3 : World), (∀ k, (fp k ∨ k = w.heap.size ∨ k = w.heap.size + 1 ∨ S k) -> W3.heap[k]? = (W'.putObj (w.heap.size + 1) (.loop { rec .ready none with state := .busy })).heap[k]?) ->
    (Instr.endRound (w.heap.size + 1) jump).run P W3 = .ok (.bool jump.isNone) (W3.putObj (w.heap.size + 1) (.loop (rec (if jump.isNone then .ready else .done) jump))) ∧
    W3.heap[w.heap.size + 1]? = some (.loop { rec .ready none with state := .busy }) ∧
    (W3.putObj (w.heap.size + 1) (.loop (rec (if jump.isNone then .ready else .done) jump))).heap[w.heap.size + 1]? = some (.loop (rec (if jump.isNone then .ready else .done) jump)) ∧
    (W3.putObj (w.heap.size + 1) (.loop (rec (if jump.isNone then .ready else .done) jump))).heap[w.heap.size]? = some (.deferred (some [])) := fun jump W3 hk3 => by
    have hl3 := (hk3 (w.heap.size + 1) (by simp)).trans hl2
    have := run_endRound (P := P) jump hl3
    rw [hrec] at this ⊢
    refine ⟨this, by rw [hrec] at hl3; exact hl3, World.putObj_heap_same (Array.getElem?_eq_some_iff.1 hl3).1, (World.putObj_heap_other (by omega)).trans ((hk3 w.heap.size (by simp)).trans ((World.putObj_heap_other (by omega)).trans hkW'))⟩
   rintro e a3 W3 hp
   have keepP : ∀ (o : Obj), Keep (fun k => k ≠ w.heap.size ∧ k ≠ w.heap.size + 1) W3 (W3.putObj (w.heap.size + 1) o) := fun o => (Keep.put W3 (w.heap.size + 1) o).mono fun k hk => hk.2
   have both : ∀ (o : Obj), W'.heap.size <= W3.heap.size -> (∀ k, (fp k ∨ k = w.heap.size ∨ k = w.heap.size + 1 ∨ S k) -> W3.heap[k]? = (W'.putObj (w.heap.size + 1) (.loop { rec .ready none with state := .busy })).heap[k]?) ->
    W.heap.size <= (W3.putObj (w.heap.size + 1) o).heap.size ∧ ∀ k, fp k ∨ S k -> (W3.putObj (w.heap.size + 1) o).heap[k]? = W.heap[k]? := fun o hs3 hk3 => by
    refine ⟨Nat.le_trans (Nat.le_trans hbW'.size hs3) (keepP o).size, fun k hk => ?_⟩
    have hne : k ≠ w.heap.size + 1 := by
     rcases hk with hk | hk
     ·have := hfp k hk; omega
     ·have := hSl k hk; omega
    have hltk : k < W.heap.size := by
     rcases hk with hk | hk
     ·have := hfp k hk; omega
     ·exact (hSb k hk).2
    exact (World.putObj_heap_other hne).trans ((hk3 k (by rcases hk with hk | hk <;> simp [hk])).trans ((World.putObj_heap_other hne).trans (hbW'.block k hltk)))
   cases e with
   | normal =>
     obtain ⟨hs3, hk3, hi3⟩ := hp
     obtain ⟨hr, hl3, hl4, hk4⟩ := fin none W3 hk3
     have hs3' : W.heap.size <= W3.heap.size := Nat.le_trans (Nat.le_trans hbW'.size hkp.size) hs3
     exact ⟨_, _, hr, both _ (Nat.le_trans hkp.size hs3) hk3, .inl ⟨rfl, ⟨hI S S _ _ _ hi3 (fun _ h => h) (fun _ h => .inl h) hSl (Nat.le_trans hsW hs3') ((keepP _).mono fun k hk => ⟨hk.1, hk.2.1⟩), Nat.le_trans (Nat.le_trans hsW hs3') (keepP _).size, hSl⟩, hl4, hk4⟩⟩
   | ret =>
     obtain ⟨hs3, hk3, hi3⟩ := hp
     obtain ⟨hr, hl3, hl4, hk4⟩ := fin (some .ret) W3 hk3
     have hs3' : W.heap.size <= W3.heap.size := Nat.le_trans (Nat.le_trans hbW'.size hkp.size) hs3
     exact ⟨_, _, hr, both _ (Nat.le_trans hkp.size hs3) hk3, .inr ⟨rfl, .ret, ⟨hIx S S _ _ _ _ hi3 (fun _ h => h) (fun _ h => .inl h) hSl (Nat.le_trans hsW hs3') ((keepP _).mono fun k hk => ⟨hk.1, hk.2.1⟩), Nat.le_trans (Nat.le_trans hsW hs3') (keepP _).size, hSl⟩, hl4, hk4⟩⟩
   | exit id =>
     obtain ⟨hs3, hk3, hi3⟩ := hp
     obtain ⟨hr, hl3, hl4, hk4⟩ := fin (some (.exit id)) W3 hk3
     have hs3' : W.heap.size <= W3.heap.size := Nat.le_trans (Nat.le_trans hbW'.size hkp.size) hs3
     exact ⟨_, _, hr, both _ (Nat.le_trans hkp.size hs3) hk3, .inr ⟨rfl, .exit id, ⟨hIx S S _ _ _ _ hi3 (fun _ h => h) (fun _ h => .inl h) hSl (Nat.le_trans hsW hs3') ((keepP _).mono fun k hk => ⟨hk.1, hk.2.1⟩), Nat.le_trans (Nat.le_trans hsW hs3') (keepP _).size, hSl⟩, hl4, hk4⟩⟩
   | goto t =>
     obtain ⟨hs3, hk3, hi3⟩ := hp
     obtain ⟨hr, hl3, hl4, hk4⟩ := fin (some (.goto t)) W3 hk3
     have hs3' : W.heap.size <= W3.heap.size := Nat.le_trans (Nat.le_trans hbW'.size hkp.size) hs3
     exact ⟨_, _, hr, both _ (Nat.le_trans hkp.size hs3) hk3, .inr ⟨rfl, .goto t, ⟨hIx S S _ _ _ _ hi3 (fun _ h => h) (fun _ h => .inl h) hSl (Nat.le_trans hsW hs3') ((keepP _).mono fun k hk => ⟨hk.1, hk.2.1⟩), Nat.le_trans (Nat.le_trans hsW hs3') (keepP _).size, hSl⟩, hl4, hk4⟩⟩
   | panic ch => exact hp.elim
   | outgrown => exact hp.elim
  ·exact ⟨⟨h0 W1 (Keep.of_below hbw |>.mono fun k _ => trivial) (by omega), by omega, fun k h => h.elim⟩, hL1, hK1⟩
  ·rintro e W2 ⟨⟨v, rfl⟩, (⟨S, hSw, ⟨hi, hs2, hSl⟩, hl, hk⟩ | ⟨S, pre, hSp, c, ⟨hi, hs2, hSl⟩, hl, hk⟩)⟩
   ·refine ⟨none, _, by have := run_endLoop (P := P) hl (by rw [hrec]; simp); rw [hrec] at this; exact this, hdone S _ (Nat.le_trans hs2 (Keep.put W2 _ _).size) (fun k h => ⟨hSl k h, Nat.lt_of_lt_of_le (hSw k h).2 (Keep.put W2 _ _).size⟩) (hI S S _ _ _ hi (fun _ h => h) (fun _ h => .inl h) hSl hs2 ((Keep.put W2 _ _).mono fun k hk => hk.2.1)) ((World.putObj_heap_other (by omega)).trans hk)⟩
   ·refine ⟨some c, _, by have := run_endLoop (P := P) hl (by rw [hrec]; simp); rw [hrec] at this; exact this, hstop S c pre _ hSp hSl (hIx S S _ _ _ _ hi (fun _ h => h) (fun _ h => .inl h) hSl hs2 ((Keep.put W2 _ _).mono fun k hk => hk.2.1)) ((World.putObj_heap_other (by omega)).trans hk)⟩
end
section
open Go.RowKit
section
variable {P : Program} {ops : Array Oper} {Q : Exit -> Act -> World -> Prop} {md : Region.Mode} {S : World -> Prop}
theorem wpOp_inWide (n : Nat) {i : Nat} {K : Act -> World -> Prop} {a : Act} {w : World} (hq : ¬ LetsOut Q) (h : wpOp P ops Q i K a w) : wpOpIn Fence.wide n P ops Q i K a w := by
 unfold wpOp at h
 unfold wpOpIn
 cases ho : ops[i]? with
 | none => simpa [ho] using h
 | some o =>
   simp only [ho] at h ⊢
   split
   ·rename_i hw
    simp only [hw, if_true] at h
    have h := h.resolve_right (fun x => hq x.2)
    refine ⟨fun f _ => trivial, ?_⟩
    rw [show Fence.wide.round = none from rfl, Oper.semAt_none]
    unfold Oper.wp at h
    generalize (execOp a.eval o).run P w = r at *
    cases r with
    | ok x w' =>
      cases x <;> simp only [Oper.upon, Oper.uponIn] at h ⊢ <;> first
       | exact h
       | exact ⟨fun h => by simp [Fence.wide] at h, callsIn_wide.2 h⟩
       | (refine ⟨fun h => by simp [Fence.wide] at h, fun c cs _ => ?_⟩
          obtain ⟨v, w'', hr, hs⟩ := h c cs
          exact ⟨v, w'', hr, (StepsIn.of_steps hs).mono fun m _ => fenced_wide P m⟩)
    | halt x w' => cases x <;> simp only [Oper.upon, Oper.uponIn] at h ⊢ <;> exact h
   ·rename_i hw
    simp only [hw] at h
    exact ⟨fun f _ => trivial, h⟩
theorem AnyT.inWide {T : Nat -> World -> Prop} (n : Nat) (hq : ¬ LetsOut Q) : ∀ (fuel : Nat) (listed : Array Bool) (a : Act) (w : World),
 AnyT P md ops Q T fuel listed a w -> wpAnyIn Fence.wide n P md ops Q fuel listed a w
 | 0, _, _, _, h => h
 | fuel + 1, _, _, _, h => ⟨h.1, fun i hi => wpOpIn_mono (fun a' w' h' => AnyT.inWide n hq fuel _ a' w' h'.2) (wpOp_inWide n hq (h.2 i hi))⟩
theorem wide_region (T : Nat -> World -> Prop) (n : Nat) {id : Nat} {a : Act} {w : World} (hm : P.follows .mixedOrders = true) (hq : ¬ LetsOut Q)
 (h : AnyT P .any ops Q T ops.size (Array.replicate ops.size false) a w.drew) : (Code.region id ops true).wpIn Fence.wide n P Q a w :=
 wpIn_region_any hm (AnyT.inWide n hq _ _ _ _ h)
end
def markL (hs : List Nat) : List Deferred := hs.map fun h => { target := .collected h, args := #[] }
theorem zGG {F : Fence} {n : Nat} {P : Program} {fn : Func} {tmps : Array Value} {R : Ending -> World -> Prop} : ∀ (hs : List Nat) (w : World), hs.Nodup -> (∀ h ∈ hs, w.heap[h]? = some (.deferred (some []))) ->
 (∀ w', Keep (fun k => k ∉ hs) w w' -> LeavesIn F n P fn tmps R [] .returning w') -> LeavesInM F n P fn tmps R (markL hs) .returning w
 | [], w, _, _, h => h w (Keep.refl _ _)
 | k :: hs, w, hd, hm, h => by
   obtain ⟨h1, h2⟩ := List.nodup_cons.1 hd
   refine ⟨by simp [markL], .inl ⟨k, _, by rfl, run_takeDeferred (hm k (by simp)), ?_⟩⟩
   refine zGG hs _ h2 (fun q hq => (World.putObj_heap_other (by rintro rfl; exact h1 hq)).trans (hm q (by simp [hq]))) fun w' hk => h w' ?_
   have hp := Keep.put w k (.deferred none)
   refine ⟨hk.os.trans hp.os, hk.tape.trans hp.tape, hk.output.trans hp.output, Nat.le_trans hp.size hk.size, fun i hi hs' => ?_⟩
   have hne : i ≠ k := fun e => hs' (by simp [e])
   exact (hk.block i (Nat.lt_of_lt_of_le hi hp.size) (fun h => hs' (by simp [h]))).trans (World.putObj_heap_other hne)
def SetV (lo : Nat) (S : Nat -> Prop) (x : List Int) (v : Value) (W : World) : Prop := ∃ a c, v = .slice a x.length c ∧ zAH W a x ∧ ∀ b o, a = some ⟨b, o, none⟩ -> lo <= b
theorem SetV.keep {lo : Nat} {S : Nat -> Prop} {x : List Int} {v : Value} {A B : World} {T : Nat -> Prop} (h : SetV lo S x v A) (hk : Keep T A B) (hT : ∀ k, lo <= k -> T k) : SetV lo S x v B := by
 obtain ⟨a, c, e, hi, hb⟩ := h
 refine ⟨a, c, e, fun j hj => ?_, hb⟩
 obtain ⟨b, o, e2, hlt, hc⟩ := hi j hj
 exact ⟨b, o, e2, Nat.lt_of_lt_of_le hlt hk.size, hk.cell hc (hT b (hb b o e2))⟩
theorem iter_setsS (w0 : World) (n k kb nb : Nat) (hn : n <= 1000) (hk : k <= 1000) (hkb : kb < w0.heap.size) (hnb : nb < w0.heap.size) (hf0 : w0.cell? ⟨kb, 0, none⟩ = some (.int .i64 k)) (hf1 : w0.cell? ⟨nb, 0, none⟩ = some (.int .i64 n)) :
 IterS Tryz.prog 222 #[.pointer (some ⟨kb, 0, none⟩), .pointer (some ⟨nb, 0, none⟩)] SetV (comb n k 0) (fun q => q = kb ∨ q = nb) w0 := by
 rcases Nat.eq_zero_or_pos k with rfl | h1
 ·intro l J Jx W hb hJx hJ hY h0
  have hxs : comb n 0 0 = [[]] := by unfold comb; rfl
  rw [hxs] at hY ⊢
  have hg0 : W.cell? ⟨kb, 0, none⟩ = some (.int .i64 0) := (hb.cell (p := ⟨kb, 0, none⟩) hkb).trans hf0
  have hg1 : W.cell? ⟨nb, 0, none⟩ = some (.int .i64 n) := (hb.cell (p := ⟨nb, 0, none⟩) hnb).trans hf1
  have hkW : kb < W.heap.size := Nat.lt_of_lt_of_le hkb hb.size
  have hnW : nb < W.heap.size := Nat.lt_of_lt_of_le hnb hb.size
  have HJ := hid hJ
  have HY := hid hY
  have H0 := hid h0
  have HALL := hid (all_c W 0 (by decide))
  clear hJ hJx hY h0 hf0 hf1 hb hxs
  refine callsIn_of_wp Tryz.func222 rfl trivial ?_ rfl
  simp only [Tryz.ntmps222, List.size_toArray, List.length_cons, List.length_nil, Nat.reduceAdd, Nat.reduceSub, Array.replicate_succ, Array.replicate_zero, List.push_toArray, List.append_toArray, List.nil_append, List.cons_append]
  gi_wp2_with (refine ⟨trivial, rfl, ?_⟩; gi_at_call 194; refine (callsIn_wide.2 HALL.out).mono ?_; rintro e w1 ⟨v, rfl, ho1, hb1⟩; refine Stop.of ?_)
  refine Stop.go ?_
  obtain ⟨va, vc, rfl⟩ := zAC ho1
  have hVB := zMB ho1
  have hJ1 : J (fun _ => False) [] w1 := HJ.out _ _ _ _ _ H0.out (fun _ h => h) (fun _ h => h.elim) (Keep.of_below hb1)
  have hc0 : w1.cell? ⟨kb, 0, none⟩ = some (.int .i64 0) := (hb1.cell (p := ⟨kb, 0, none⟩) hkW).trans hg0
  have hc1 : w1.cell? ⟨nb, 0, none⟩ = some (.int .i64 n) := (hb1.cell (p := ⟨nb, 0, none⟩) hnW).trans hg1
  have hyk := HY.out (fun _ => False) [] [] (.slice va 0 vc) w1 (List.prefix_refl _) (fun _ h => h.elim) hb1.size hJ1 ⟨va, vc, rfl, fun j hj => by simp at hj, fun b o e => (hVB b o e).1⟩
  have hn0 : (0 : Int) <= (n : Int) := by omega
  have HB1 := hid hb1
  clear ho1 hVB hJ1 HALL hb1
  gi_wp2
  refine wpIn_loop_once ?_
  obtain ⟨fn, tmps, assign, body, hy, hR⟩ := hyk
  gi_wp2
  refine ⟨rfl, hR.mono ?_⟩
  clear hR hy
  rintro e W3 ⟨⟨hs3, hk3⟩, ⟨rfl, hJ3⟩ | ⟨rfl, hJx⟩⟩
  ·have hg30 : W3.cell? ⟨kb, 0, none⟩ = some (.int .i64 0) := (World.cell?_of_block (a := ⟨kb, 0, none⟩) (hk3 kb (Or.inl (Or.inl rfl)))).trans hc0
   have HJ3 := hid hJ3
   clear hJ3 hk3 hc0 hc1
   gi_wp2
   refine wpIn_loop_once ?_
   gi_wp2
   gi_quiet (fail)
   gi_wp2
   refine bodyPost_ret (results_none rfl _ _ _) rfl ?_
   exact ⟨⟨_, rfl⟩, .inl ⟨fun _ => False, fun _ h => h.elim, HJ.out _ _ _ _ _ HJ3.out (fun _ h => h) (fun _ h => h.elim) ((Keep.refl _ _).drewN _)⟩⟩
  ·gi_wp2
   refine bodyPost_ret (results_none rfl _ _ _) rfl ?_
   exact ⟨⟨_, rfl⟩, .inr ⟨fun _ => False, [[]], List.prefix_refl _, hJx⟩⟩
 ·intro l J Jx W hb hJx hJ hY h0
  refine (iter_sets w0 n k kb nb hn hk h1 hkb hnb hf0 hf1 l (fun it pre X => (pre = [] ∧ Keep (fun q => q ≠ it) W X) ∨ (J (fun q => q = it) pre X ∧ it < X.heap.size)) (fun pre X => ∃ S, Jx S pre X) W hb ?_ ?_ ?_).mono ?_
  ·rintro it s A B _ (⟨e, hj⟩ | ⟨hj, hl⟩) hab
   ·exact .inl ⟨e, hj.trans hab⟩
   ·exact .inr ⟨hJ _ _ _ _ _ hj (fun _ h => h) (fun _ h => .inl h) hab, Nat.lt_of_lt_of_le hl hab.size⟩
  ·intro it pre x cap sp W1 hpre hit hit1 hj hrow
   have hj : J (fun q => q = it) pre W1 := by
    rcases hj with ⟨e, hj⟩ | ⟨hj, _⟩
    ·rw [e]
     exact hJ _ _ _ _ _ h0 (fun _ h => h.elim) (fun q hq => .inr (by rw [hq]; exact hit)) hj
    ·exact hj
   have hsz : W.heap.size <= W1.heap.size := by omega
   have := hY (fun q => q = it) pre x (.slice (some ⟨it, 0, none⟩) x.length cap) W1 hpre (fun q hq => by subst hq; exact ⟨hit, hit1⟩) hsz hj ⟨_, _, rfl, ints_row hrow, fun b o e => by simp only [Option.some.injEq, Addr.mk.injEq] at e; rw [<- e.1]; exact hit⟩
   obtain ⟨fn, tmps, assign, body, hy, hR⟩ := this
   refine ⟨fn, tmps, assign, body, hy, hR.mono ?_⟩
   rintro e W3 ⟨⟨h2, h3⟩, ⟨he, h1⟩ | ⟨he, h⟩⟩
   ·exact .inl ⟨he, .inr ⟨h1, Nat.lt_of_lt_of_le hit1 h2⟩, h2, h3⟩
   ·exact .inr ⟨he, _, h⟩
  ·intro it hit
   exact .inl ⟨rfl, Keep.refl _ _⟩
  ·rintro e W' ⟨hv, ⟨it, hit, ⟨e, hj⟩ | ⟨hj, hl⟩⟩ | ⟨pre, hpre, S, hj⟩⟩
   ·rw [e]
    refine ⟨hv, .inl ⟨fun q => q = it ∧ q < W'.heap.size, fun q hq => by rw [hq.1]; exact ⟨hit, by have := hq.2; rwa [hq.1] at this⟩, hJ _ _ _ _ _ h0 (fun _ h => h.elim) (fun q hq => .inr (by rw [hq.1]; exact hit)) ?_⟩⟩
    exact ⟨hj.os, hj.tape, hj.output, hj.size, fun i hi _ => hj.block i hi (fun e => by omega)⟩
   ·exact ⟨hv, .inl ⟨_, fun q hq => by rw [hq]; exact ⟨hit, hl⟩, hj⟩⟩
   ·exact ⟨hv, .inr ⟨_, _, hpre, hj⟩⟩
end
end Go.Proofs.YtlffndehhhpgjaaGreat
