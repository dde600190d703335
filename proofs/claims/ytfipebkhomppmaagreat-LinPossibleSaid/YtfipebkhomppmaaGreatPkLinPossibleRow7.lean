/- Walks and plain laws for LinPossibleRow, part 7. -/
import Derived.Maps.AppendAt
import Derived.Laws.MakeOwn
import Derived.BigQuiet
import Derived.Test.YtfipebkhomppmaaGreatPkLinPossibleRow6
namespace Go.Proofs.YtfipebkhomppmaaGreat
section
open Go.RowKit
set_option linter.unusedVariables false

abbrev Rt := Int × Int
def ratV (r : Rt) : Value := .agg #[.int .i64 r.1, .int .i64 r.2]
def ratCells (r : Rt) : List Value := [.int .i64 r.1, .int .i64 r.2]
def ratVals (l : List Rt) : List Value := l.flatMap ratCells
theorem ratVals_snoc (l : List Rt) (f : Rt) : ratVals (l ++ [f]) = ratVals l ++ ratCells f := by simp [ratVals]
theorem ratVals_length (l : List Rt) : (ratVals l).length = l.length * 2 := by
  induction l with
  | nil => rfl
  | cons f l ih => show (ratCells f ++ ratVals l).length = _; rw [List.length_append, ih]; simp [ratCells]; omega
theorem ratVals_at (l : List Rt) : ∀ (j i : Nat) (hj : j < l.length), i < 2 → (ratVals l)[j * 2 + i]? = (ratCells l[j])[i]? := by
  induction l with
  | nil => intro j i hj; simp at hj
  | cons f l ih =>
    intro j i hj hi
    show (ratCells f ++ ratVals l)[j * 2 + i]? = _
    cases j with
    | zero => rw [List.getElem?_append_left (by simp [ratCells]; omega)]; simp
    | succ j =>
      rw [List.getElem?_append_right (by simp [ratCells]; omega)]
      have := ih j i (by simpa using hj) hi
      rw [show (j + 1) * 2 + i - (ratCells f).length = j * 2 + i by simp [ratCells]; omega, this]
      simp

def RatsAt (w : World) (a : Option Addr) (l : List Rt) : Prop :=
  ∀ j (hj : j < l.length), ∃ b off, a = some ⟨b, off, none⟩ ∧ b < w.heap.size ∧ w.cell? ⟨b, off + j * 2, none⟩ = some (.int .i64 l[j].1) ∧ w.cell? ⟨b, off + j * 2 + 1, none⟩ = some (.int .i64 l[j].2)
theorem RatsAt.below {w w' : World} {a : Option Addr} {l : List Rt} (h : RatsAt w a l) (hb : Below w.heap.size w w') : RatsAt w' a l := by
  intro j hj
  obtain ⟨b, off, e, hlt, h0, h1⟩ := h j hj
  exact ⟨b, off, e, Nat.lt_of_lt_of_le hlt hb.size, (hb.cell (p := ⟨b, _, none⟩) hlt).trans h0, (hb.cell (p := ⟨b, _, none⟩) hlt).trans h1⟩

def RatsO (W : World) (base : Nat) (v : Value) (l : List Rt) : Prop := W.ownsRow base 57 2 v l.length (ratVals l)
theorem RatsO.nil (W : World) (base : Nat) : RatsO W base (.slice none 0 0) [] := World.ownsRow_nil _ _ _ _
theorem RatsO.below {W W' : World} {base : Nat} {v : Value} {l : List Rt} (h : RatsO W base v l) (hb : Below W.heap.size W W') : RatsO W' base v l := own_below h hb
theorem RatsO.reads {W : World} {base : Nat} {v : Value} {l : List Rt} (h : RatsO W base v l) : ∃ a cap, v = .slice a l.length cap ∧ l.length ≤ maxLen ∧ RatsAt W a l := by
  rcases h.2 with ⟨rfl, h0⟩ | ⟨g, cap, cur, rfl, hbg, hgg, hnc, hcm, hsz, htk⟩
  · exact ⟨none, 0, by rw [h0], by rw [h0]; decide, fun j hj => by omega⟩
  · refine ⟨_, cap, rfl, by omega, fun j hj => ⟨g, 0, rfl, (Array.getElem?_eq_some_iff.1 hgg).1, ?_⟩⟩
    have hc : ∀ i, i < l.length * 2 → W.cell? ⟨g, i, none⟩ = (ratVals l)[i]? := fun i hi =>
      World.ownsRow.cellAt (w := W) (base := base) (e := 57) (size := 2) (g := g) (n := l.length) (cap := cap) (xs := ratVals l) ⟨h.1, .inr ⟨g, cap, cur, rfl, hbg, hgg, hnc, hcm, hsz, htk⟩⟩ i hi
    refine ⟨?_, ?_⟩
    · rw [Nat.zero_add, hc _ (by omega)]; exact ratVals_at l j 0 hj (by omega)
    · rw [Nat.zero_add, hc _ (by omega)]; exact ratVals_at l j 1 hj (by omega)
theorem info_ratio : (Tryz.prog.info? 57).map (fun i => (i.zero, i.size, i.bytes)) = some (some (.agg #[.int .i64 0, .int .i64 0]), 2, 16) := by kernel_rfl
theorem rat_one (f : Rt) : ∀ u ∈ ratCells f, u.oneCell' = true := by
  intro u hu
  simp only [ratCells, List.mem_cons, List.not_mem_nil, or_false] at hu
  rcases hu with rfl | rfl <;> rfl
theorem rat_news (w : World) (f : Rt) (T : TypeId) : ∀ ad, (some ⟨w.heap.size, 0, none⟩ : Option Addr) = some ad → ∀ j u, (ratCells f)[j]? = some u → (w.alloc (.cells (ratCells f).toArray T)).cell? (ad.add j) = some u := by
  intro ad e j u hu
  cases e
  rw [Addr.add_lit, World.cell?_alloc_at _ _ _ _ rfl]
  simpa using hu

theorem tdiv_bndR {x g : Int} (hx : -4611686018427387904 ≤ x ∧ x ≤ 4611686018427387904) : -4611686018427387904 ≤ x.tdiv g ∧ x.tdiv g ≤ 4611686018427387904 := by
  have h := Int.natAbs_tdiv x g
  have h2 : (x.tdiv g).natAbs ≤ x.natAbs := by rw [Int.natAbs_tdiv]; exact Nat.div_le_self _ _
  omega

set_option maxRecDepth 100000 in
set_option maxHeartbeats 1000000 in
theorem of_c (w : World) (n d : Int) (hn : -4611686018427387904 ≤ n ∧ n ≤ 4611686018427387904) (hd : -4611686018427387904 ≤ d ∧ d ≤ 4611686018427387904) (h0 : d ≠ 0) :
    Calls Tryz.prog 55 #[.int .i64 n, .int .i64 d] w fun e w' => e = .returned (ratV (ofF n d)) ∧ Below w.heap.size w w' := by
  have HD := hid (fun (X : World) => divisor_c X n d hn hd)
  have hg0 : 0 < Int.gcd n d := Nat.pos_of_ne_zero (fun h => h0 (Int.gcd_eq_zero_iff.1 h).2)
  have hgl : Int.gcd n d ≤ 4611686018427387904 := by
    have := Int.gcd_le_natAbs_right n h0
    omega
  obtain ⟨G, hG⟩ : ∃ G : Int, G = ((Int.gcd n d : Nat) : Int) := ⟨_, rfl⟩
  unfold ofF
  simp only []
  rw [← hG] at HD ⊢
  have hG1 : 1 ≤ G := by omega
  have hG2 : G ≤ 4611686018427387904 := by omega
  clear hG hg0 hgl
  have b1 := tdiv_bndR (g := G) hn
  have b2 := tdiv_bndR (g := G) hd
  by_cases hs : d < 0
  · rw [if_pos hs]
    obtain ⟨m, hm⟩ : ∃ m : Int, m = -G := ⟨_, rfl⟩
    rw [← hm]
    have b3 := tdiv_bndR (g := m) hn
    have b4 := tdiv_bndR (g := m) hd
    have hw1 : IntKind.i64.wrap (n.tdiv m) = n.tdiv m := IntWalk.i64_in _ (by omega)
    have hw2 : IntKind.i64.wrap (d.tdiv m) = d.tdiv m := IntWalk.i64_in _ (by omega)
    have hw00 : wrap64 (-G) = m := by unfold wrap64; omega
    have hne : ¬ (m = 0) := by omega
    clear b1 b2 b3 b4 h0 hm hG1 hG2 hn hd
    go_enter Tryz.func55, Tryz.ntmps55
    go_wp2_with (go_at_call 78; refine (HD.out _).mono ?_; rintro e w1 ⟨rfl, k1, rfl⟩; refine Stop.of ?_)
    refine Stop.go ?_
    have hb1 : Below w.heap.size w ((w.alloc (.cells #[.int .i64 0, .int .i64 0] 57)).drewN k1) := below_drewN ((Below.refl _ w).alloc (Nat.le_refl _) _) k1
    have hq1 : ((w.alloc (.cells #[.int .i64 0, .int .i64 0] 57)).drewN k1).heap[w.heap.size]? = some (.cells #[.int .i64 0, .int .i64 0] 57 (0, 0)) := World.alloc_heap_new w _
    generalize (w.alloc (.cells #[.int .i64 0, .int .i64 0] 57)).drewN k1 = w2 at hb1 hq1 ⊢
    go_wp2
    go_still_tail 7, (by kernel_rfl)
    change wpList _ _ _ _ _ w2.drew
    have hb2 := hb1.drew
    have hq2 : w2.drew.heap[w.heap.size]? = some (.cells #[.int .i64 0, .int .i64 0] 57 (0, 0)) := hq1
    generalize w2.drew = w3 at hb2 hq2 ⊢
    have c0 : w3.cell? ⟨w.heap.size, 0, none⟩ = some (.int .i64 0) := by simp [World.cell?, hq2]
    have c1 : w3.cell? ⟨w.heap.size, 1, none⟩ = some (.int .i64 0) := by simp [World.cell?, hq2]
    have f0 : w3.frozen? ⟨w.heap.size, 0, none⟩ = false := by simp [World.frozen?, hq2]
    have f1 : w3.frozen? ⟨w.heap.size, 1, none⟩ = false := by simp [World.frozen?, hq2]
    have hlt3 : w.heap.size < w3.heap.size := (Array.getElem?_eq_some_iff.1 hq2).1
    go_wp2
    simp [bodyPost, results, Tryz.results55, go_sem, c0, c1, f0, f1, hlt3]
    exact ⟨rfl, below_set (below_set hb2 (Nat.le_refl _) 0 _) (Nat.le_refl _) 1 _⟩
  · rw [if_neg hs]
    have hw1 : IntKind.i64.wrap (n.tdiv G) = n.tdiv G := IntWalk.i64_in _ (by omega)
    have hw2 : IntKind.i64.wrap (d.tdiv G) = d.tdiv G := IntWalk.i64_in _ (by omega)
    have hne : ¬ (G = 0) := by omega
    clear b1 b2 h0 hG1 hG2 hn hd
    go_enter Tryz.func55, Tryz.ntmps55
    go_wp2_with (go_at_call 78; refine (HD.out _).mono ?_; rintro e w1 ⟨rfl, k1, rfl⟩; refine Stop.of ?_)
    refine Stop.go ?_
    have hb1 : Below w.heap.size w ((w.alloc (.cells #[.int .i64 0, .int .i64 0] 57)).drewN k1) := below_drewN ((Below.refl _ w).alloc (Nat.le_refl _) _) k1
    have hq1 : ((w.alloc (.cells #[.int .i64 0, .int .i64 0] 57)).drewN k1).heap[w.heap.size]? = some (.cells #[.int .i64 0, .int .i64 0] 57 (0, 0)) := World.alloc_heap_new w _
    generalize (w.alloc (.cells #[.int .i64 0, .int .i64 0] 57)).drewN k1 = w2 at hb1 hq1 ⊢
    go_wp2
    go_still_tail 7, (by kernel_rfl)
    change wpList _ _ _ _ _ w2.drew
    have hb2 := hb1.drew
    have hq2 : w2.drew.heap[w.heap.size]? = some (.cells #[.int .i64 0, .int .i64 0] 57 (0, 0)) := hq1
    generalize w2.drew = w3 at hb2 hq2 ⊢
    have c0 : w3.cell? ⟨w.heap.size, 0, none⟩ = some (.int .i64 0) := by simp [World.cell?, hq2]
    have c1 : w3.cell? ⟨w.heap.size, 1, none⟩ = some (.int .i64 0) := by simp [World.cell?, hq2]
    have f0 : w3.frozen? ⟨w.heap.size, 0, none⟩ = false := by simp [World.frozen?, hq2]
    have f1 : w3.frozen? ⟨w.heap.size, 1, none⟩ = false := by simp [World.frozen?, hq2]
    have hlt3 : w.heap.size < w3.heap.size := (Array.getElem?_eq_some_iff.1 hq2).1
    go_wp2
    simp [bodyPost, results, Tryz.results55, go_sem, c0, c1, f0, f1, hlt3]
    exact ⟨rfl, below_set (below_set hb2 (Nat.le_refl _) 0 _) (Nat.le_refl _) 1 _⟩

set_option maxRecDepth 100000 in
set_option maxHeartbeats 1000000 in
theorem r3ratio_c (w : World) (n d : Int) (hn : -4611686018427387904 ≤ n ∧ n ≤ 4611686018427387904) (hd : -4611686018427387904 ≤ d ∧ d ≤ 4611686018427387904) (h0 : d ≠ 0) :
    Calls Tryz.prog 61 #[.int .i64 n, .int .i64 d] w fun e w' => e = .returned (ratV (ratioF n d)) ∧ Below w.heap.size w w' := by
  have HD := hid (fun (X : World) => r3divisor_c X n d hn hd)
  have hg0 : 0 < Int.gcd n d := Nat.pos_of_ne_zero (fun h => h0 (Int.gcd_eq_zero_iff.1 h).2)
  have hgl : Int.gcd n d ≤ 4611686018427387904 := by
    have := Int.gcd_le_natAbs_right n h0
    omega
  obtain ⟨G, hG⟩ : ∃ G : Int, G = ((Int.gcd n d : Nat) : Int) := ⟨_, rfl⟩
  unfold ratioF
  rw [← hG] at HD ⊢
  have hG1 : 1 ≤ G := by omega
  have hG2 : G ≤ 4611686018427387904 := by omega
  clear hG hg0 hgl
  have b1 := tdiv_bndR (g := G) hn
  have b2 := tdiv_bndR (g := G) hd
  have hw1 : IntKind.i64.wrap (n.tdiv G) = n.tdiv G := IntWalk.i64_in _ (by omega)
  have hw2 : IntKind.i64.wrap (d.tdiv G) = d.tdiv G := IntWalk.i64_in _ (by omega)
  have hne : ¬ (G = 0) := by omega
  clear b1 b2 h0 hG1 hG2 hn hd
  go_enter Tryz.func61, Tryz.ntmps61
  go_wp2_with (go_at_call 94; refine (HD.out _).mono ?_; rintro e w1 ⟨rfl, k1, rfl⟩; refine Stop.of ?_)
  refine Stop.go ?_
  have hb1 : Below w.heap.size w ((w.alloc (.cells #[.int .i64 0, .int .i64 0] 57)).drewN k1) := below_drewN ((Below.refl _ w).alloc (Nat.le_refl _) _) k1
  have hq1 : ((w.alloc (.cells #[.int .i64 0, .int .i64 0] 57)).drewN k1).heap[w.heap.size]? = some (.cells #[.int .i64 0, .int .i64 0] 57 (0, 0)) := World.alloc_heap_new w _
  generalize (w.alloc (.cells #[.int .i64 0, .int .i64 0] 57)).drewN k1 = w2 at hb1 hq1 ⊢
  go_wp2
  go_still_tail 7, (by kernel_rfl)
  change wpList _ _ _ _ _ w2.drew
  have hb2 := hb1.drew
  have hq2 : w2.drew.heap[w.heap.size]? = some (.cells #[.int .i64 0, .int .i64 0] 57 (0, 0)) := hq1
  generalize w2.drew = w3 at hb2 hq2 ⊢
  have c0 : w3.cell? ⟨w.heap.size, 0, none⟩ = some (.int .i64 0) := by simp [World.cell?, hq2]
  have c1 : w3.cell? ⟨w.heap.size, 1, none⟩ = some (.int .i64 0) := by simp [World.cell?, hq2]
  have f0 : w3.frozen? ⟨w.heap.size, 0, none⟩ = false := by simp [World.frozen?, hq2]
  have f1 : w3.frozen? ⟨w.heap.size, 1, none⟩ = false := by simp [World.frozen?, hq2]
  have hlt3 : w.heap.size < w3.heap.size := (Array.getElem?_eq_some_iff.1 hq2).1
  go_wp2
  simp [bodyPost, results, Tryz.results61, go_sem, c0, c1, f0, f1, hlt3]
  exact ⟨rfl, below_set (below_set hb2 (Nat.le_refl _) 0 _) (Nat.le_refl _) 1 _⟩
end

section
open Go.RowKit
set_option linter.unusedVariables false

def readE (M : Mask) (y : List Int) : Int := if y.length = M.length then (if milB y = true then 0 else 7) else 9
def checkE (M : Mask) (y l : List Int) : Int := if okM M = true then (if y.length = M.length then (if milB y = true then pixE M l else 7) else 9) else 1

set_option maxHeartbeats 1000000 in
theorem check_c (w : World) (a a2 a3 : Option Addr) (n cap n2 cap2 n3 cap3 : Nat) (M : Mask) (y l : List Int) (hn : M.length = n) (hn2 : y.length = n2) (hn3 : l.length = n3) (hm : n ≤ maxLen) (hm2 : n2 ≤ maxLen) (hm3 : n3 ≤ maxLen) (H : RowsAt w a M) (H2 : IntsAt w a2 y) (H3 : IntsAt w a3 l) :
    Calls Tryz.prog 20 #[.slice a n cap, .slice a2 n2 cap2, .slice a3 n3 cap3] w fun e w' => e = .returned (.int .i64 (checkE M y l)) ∧ Below w.heap.size w w' := by
  have HV := hid (maskValid_c w a n cap M hn hm H)
  cases hok : okM M
  · rw [hok] at HV
    have hp : checkE M y l = 1 := by unfold checkE; rw [hok]; rfl
    rw [hp]
    clear hn hn2 hn3 H H2 H3 hok hp
    go_enter Tryz.func20, Tryz.ntmps20
    go_wp2_with (go_at_call 43; refine HV.out.mono ?_; rintro e w1 ⟨rfl, hb1⟩)
    go_ret
    exact ⟨rfl, hb1⟩
  · rw [hok] at HV
    by_cases hl : n2 = n
    · subst hl
      have HII := hid (fun (X : World) (hX : Below w.heap.size w X) => H2.below hX)
      have HN2 := hid hn2
      have HPX := hid (fun (X : World) (hX : Below w.heap.size w X) => pixels_c X a a3 n2 cap n3 cap3 M l hn hn3 hm hm3 (H.below hX) (H3.below hX))
      have hdl : ((n2 : Int) != (n2 : Int)) = false := by simp
      have hpre : checkE M y l = if milB y = true then pixE M l else 7 := by unfold checkE; rw [if_pos hok, if_pos (by omega)]
      rw [hpre]
      obtain ⟨E, hE⟩ : ∃ E, E = pixE M l := ⟨_, rfl⟩
      rw [← hE] at HPX ⊢
      obtain ⟨mz, hmz⟩ : ∃ b, b = milB y := ⟨_, rfl⟩
      have HMZ := hid hmz
      rw [← hmz]
      clear hn H H2 H3 hok hn2 hn3 hpre hE hmz
      cases mz
      all_goals
        simp only [if_true, if_false, Bool.false_eq_true]
        go_enter Tryz.func20, Tryz.ntmps20
        go_wp2_with (go_at_call 43; refine HV.out.mono ?_; rintro e w1 ⟨rfl, hb1⟩; refine Stop.of ?_)
        refine Stop.go ?_
        have HBW1 := hid hb1
        clear hb1 HV
        go_wp2_with (go_at_call 48; refine (beyond_c _ 1000000).mono ?_; rintro e w2 ⟨q, rfl, hq, hqs, hb2⟩; refine Stop.of ?_)
        refine Stop.go ?_
        have HB2 := hid (chain HBW1.out hb2)
        have HCF := hid (containsI w2 a2 n2 cap2 y HN2.out hm2 (HII.out w2 HB2.out) 81 #[.pointer (some ⟨q, 0, none⟩)] (fun n => !(inB n (-1000000) 1000000)) (enters_of Tryz.func81 (by kernel_rfl) rfl) (beyond1 w2 q 1000000 (by decide) hq hqs))
        rw [any_mil, ← HMZ.out] at HCF
        clear hq hqs hb2
      · go_wp2_with (go_at_call 40; refine HCF.out.mono ?_; rintro e w3 ⟨rfl, hb3⟩)
        go_ret
        exact ⟨rfl, chain HB2.out hb3⟩
      · go_wp2_with (go_at_call 40; refine HCF.out.mono ?_; rintro e w3 ⟨rfl, hb3⟩; refine Stop.of ?_)
        refine Stop.go ?_
        have HB3 := hid (chain HB2.out hb3)
        clear HCF hb3
        go_wp2_with (go_at_call 49; refine (HPX.out w3 HB3.out).mono ?_; rintro e w4 ⟨rfl, hb4⟩)
        go_ret
        exact ⟨rfl, chain HB3.out hb4⟩
    · have hdl : ((n2 : Int) != (n : Int)) = true := by simp; omega
      have hpre : checkE M y l = 9 := by unfold checkE; rw [if_pos hok, if_neg (by omega)]
      rw [hpre]
      clear hn hn2 hn3 H H2 H3 hok hpre hl
      go_enter Tryz.func20, Tryz.ntmps20
      go_wp2_with (go_at_call 43; refine HV.out.mono ?_; rintro e w1 ⟨rfl, hb1⟩)
      go_ret
      exact ⟨rfl, hb1⟩

theorem r3reading_c (w : World) (a : Option Addr) (n cap n2 cap2 : Nat) (M : Mask) (l : List Int) (V0 : Option Addr) (hn : M.length = n) (hn2 : l.length = n2) (hm2 : n2 ≤ maxLen) (H : IntsAt w a l) :
    Calls Tryz.prog 58 #[.slice V0 n cap, .slice a n2 cap2] w fun e w' => e = .returned (.int .i64 (readE M l)) ∧ w = w' := by
  by_cases hl : n2 = n
  · subst hl
    have he : readE M l = if milB l = true then 0 else 7 := by unfold readE; rw [if_pos (by omega)]
    rw [he]
    have HN := hid hn2
    have HH := hid H
    obtain ⟨E, hE⟩ : ∃ E : Int, E = if milB l = true then 0 else 7 := ⟨_, rfl⟩
    rw [← hE]
    have HE := hid hE
    have hdl : ((n2 : Int) != (n2 : Int)) = false := by simp
    clear hn hn2 H he hE
    unfold maxLen at hm2
    go_enter Tryz.func58, Tryz.ntmps58
    go_wp2
    go_loop [14] (fun i => ∃ k : Nat, k ≤ n2 ∧ i = .int .i64 k ∧ Hid (∀ j (hj : j < l.length), j < k → inB l[j] (-1000000) 1000000 = true)) (fun i => n2 - (intOf i).toNat)
    case atStart => exact ⟨0, Nat.zero_le _, rfl, hid (fun j _ h => by omega)⟩
    case round =>
      obtain ⟨k, hk, rfl, HNO⟩ := hrel
      by_cases hlt : k < n2
      · have hkl : k < l.length := by rw [HN.out]; exact hlt
        obtain ⟨b, off, rfl, hbs, hc⟩ := HH.out k hkl
        have hg : l[k]?.getD 0 = l[k] := by rw [List.getElem?_eq_getElem hkl]; rfl
        rw [hg] at hc
        have HST := hid (fun (h : inB l[k] (-1000000) 1000000 = false) => (all_stop (p := fun n : Int => inB n (-1000000) 1000000) hkl h : milB l = false))
        have HNX := hid (fun (h : inB l[k] (-1000000) 1000000 = true) => (show ∀ j (hj : j < l.length), j < k + 1 → inB l[j] (-1000000) 1000000 = true from fun j hj hlt => by
          rcases Nat.lt_or_ge j k with h1 | h1
          · exact HNO.out j hj h1
          · have : j = k := by omega
            subst this; exact h))
        obtain ⟨x, hx⟩ : ∃ x, x = l[k] := ⟨_, rfl⟩
        rw [← hx] at hc HST HNX
        obtain ⟨B, hB⟩ : ∃ B, B = inB x (-1000000) 1000000 := ⟨_, rfl⟩
        have HW := hid (fun (W : World) => r3within_c x (-1000000) 1000000 W)
        rw [← hB] at HW HST HNX
        clear hg hx hkl hB
        cases B
        · have HX := hid (HST.out rfl)
          obtain rfl : E = 7 := by rw [HE.out, if_neg (by rw [show milB l = false from HX.out]; decide)]
          clear HST HNX
          go_wp2_with (go_at_call 67; refine (HW.out _).mono ?_; rintro e w1 ⟨rfl, rfl⟩)
          go_ret
          exact ⟨rfl, rfl⟩
        · have HX := hid (HNX.out rfl)
          clear HST HNX
          go_wp2_with (go_at_call 67; refine (HW.out _).mono ?_; rintro e w1 ⟨rfl, rfl⟩)
          go_round
          case rel => exact ⟨k + 1, by omega, by go_num, HX⟩
          case measure => simp [intOf]; omega
      · have hall : milB l = true := all_done (p := fun n : Int => inB n (-1000000) 1000000) (fun j hj => HNO.out j hj (by have := HN.out; omega))
        obtain rfl : E = 0 := by rw [HE.out, if_pos hall]
        go_wp2
        go_ret
        exact ⟨rfl, rfl⟩
  · have he : readE M l = 9 := by unfold readE; rw [if_neg (by omega)]
    rw [he]
    have hdl : ((n2 : Int) != (n : Int)) = true := by simp; omega
    clear hn hn2 H he hl
    go_enter Tryz.func58, Tryz.ntmps58
    go_wp2
    go_ret
    exact ⟨rfl, rfl⟩
end

section
open Go.RowKit
set_option linter.unusedVariables false

theorem solve1 (w : World) (b : Nat) (a : Option Addr) (n cap N : Nat) (y : List Int) (hn : y.length = n) (hN : N ≤ n) (hm : n ≤ maxLen) (hc : w.cell? ⟨b, 0, none⟩ = some (.slice a n cap)) (hb : b < w.heap.size) (H : IntsAt w a y) :
    MoreP Tryz.prog 54 #[.pointer (some ⟨b, 0, none⟩)] w N (fun i => [y[i]?.getD 0]) := by
  intro i W hi hW
  have hc' : W.cell? ⟨b, 0, none⟩ = some (.slice a n cap) := (hW.cell (p := ⟨b, 0, none⟩) hb).trans hc
  obtain ⟨b2, o2, rfl, hb2, hc2⟩ := (H.below hW) i (by omega)
  show Calls Tryz.prog 54 #[.int .i64 i, .pointer (some ⟨b, 0, none⟩)] W fun e W' => ∃ a c, e = .returned (.slice a 1 c) ∧ IntsAt W' a [y[i]?.getD 0] ∧ Below W.heap.size W W'
  obtain ⟨x, hx⟩ : ∃ x, x = y[i]?.getD 0 := ⟨_, rfl⟩
  rw [← hx] at hc2 ⊢
  have hin : (i : Int) < (n : Int) := by omega
  unfold maxLen at hm
  clear hn H hc hx
  go_enter Tryz.func54, Tryz.ntmps54
  go_wp2
  go_ret
  refine ⟨some ⟨W.heap.size, 0, none⟩, 1, rfl, fun j hj => ⟨W.heap.size, 0, rfl, by simp, ?_⟩, (Below.refl _ _).alloc (Nat.le_refl _) _⟩
  obtain rfl : j = 0 := by simpa using hj
  rw [World.cell?_alloc_at _ _ _ _ rfl]; rfl

theorem chosenF_y {M : List (List Int)} {S y : List Int} (h : y.length = M.length) : chosenF M S (fun i => [y[i]?.getD 0]) = withY (colsF M S) y := by
  unfold chosenF withY colsF
  refine List.ext_getElem (by simp [h]) fun i h1 h2 => ?_
  have hi : i < M.length := by simpa using h1
  simp [List.getElem?_eq_getElem (show i < y.length by omega)]

def solveV (M : Mask) (l y : List Int) : List Rt × Int := if checkE M y l = 0 then solveP (withY (colsF M l) y) l.length else ([], checkE M y l)
theorem check_ok {M : Mask} {y l : List Int} (h : checkE M y l = 0) : okM M = true ∧ y.length = M.length ∧ milB y = true ∧ SetOk (colsM M) l := by
  unfold checkE at h
  by_cases h1 : okM M = true
  · rw [if_pos h1] at h
    by_cases h2 : y.length = M.length
    · rw [if_pos h2] at h
      by_cases h3 : milB y = true
      · rw [if_pos h3] at h
        exact ⟨h1, h2, h3, (pix_ok h).2⟩
      · rw [if_neg h3] at h; omega
    · rw [if_neg h2] at h; omega
  · rw [if_neg h1] at h; omega
theorem mil_bnd6 {y : List Int} (h : milB y = true) : ∀ v ∈ y, -((1000000 : Nat) : Int) ≤ v ∧ v ≤ ((1000000 : Nat) : Int) := by
  intro v hv
  have := List.all_eq_true.1 h v hv
  unfold inB at this
  simp only [Bool.and_eq_true, decide_eq_true_eq] at this
  omega
def ofTo (R : List (List Int)) (J : List Nat) (n k : Nat) : List Rt := (List.range k).map fun i => ofF (vec (R[i]?.getD []) n) (vec (R[i]?.getD []) (jf J i))
theorem ofTo_len (R : List (List Int)) (J : List Nat) (n k : Nat) : (ofTo R J n k).length = k := by simp [ofTo]
theorem ofTo_succ (R : List (List Int)) (J : List Nat) (n k : Nat) : ofTo R J n (k + 1) = ofTo R J n k ++ [ofF (vec (R[k]?.getD []) n) (vec (R[k]?.getD []) (jf J k))] := by
  unfold ofTo; rw [List.range_succ, List.map_append]; rfl

def SolveSt (wr : World) (base : Nat) (v : Value) (R : List (List Int)) (J : List Nat) (n k : Nat) : Prop := RatsO wr base v (ofTo R J n (min k J.length)) ∧ ∀ q, J.length ≤ q → q < k → vec (R[q]?.getD []) n = 0
theorem solve_end {C : List (List Int)} {n : Nat} (hK : (pRed C n).2.length ≤ n) (h0 : ∀ q, (pRed C n).2.length ≤ q → q < (pRed C n).1.length → vec ((pRed C n).1[q]?.getD []) n = 0) :
    solveP C n = if (pRed C n).2.length < n then ([], 11) else (ofTo (pRed C n).1 (pRed C n).2 n (pRed C n).2.length, 0) := by
  unfold solveP
  simp only []
  have h1 : ((pRed C n).1.drop (pRed C n).2.length).any (nz n) = false := by
    rw [Bool.eq_false_iff]
    intro hc
    obtain ⟨r, hr, hz⟩ := List.any_eq_true.1 hc
    obtain ⟨i, hi, rfl⟩ := List.mem_iff_getElem.1 hr
    rw [List.getElem_drop] at hz
    have := h0 ((pRed C n).2.length + i) (by omega) (by rw [List.length_drop] at hi; omega)
    rw [List.getElem?_eq_getElem (by rw [List.length_drop] at hi; omega)] at this
    simp only [nz, decide_eq_true_eq] at hz
    exact hz this
  rw [h1]
  simp only [Bool.false_eq_true, if_false]
  by_cases c : (pRed C n).2.length < n
  · rw [if_pos c, if_pos c]
  · rw [if_neg c, if_neg c]
    have : (pRed C n).2.length = n := by omega
    rw [this]; rfl
theorem solve_none {C : List (List Int)} {n q : Nat} (h1 : (pRed C n).2.length ≤ q) (h2 : q < (pRed C n).1.length) (h3 : vec ((pRed C n).1[q]?.getD []) n ≠ 0) : solveP C n = ([], 8) := by
  unfold solveP
  simp only []
  rw [if_pos]
  refine List.any_eq_true.2 ⟨(pRed C n).1[q], ?_, ?_⟩
  · rw [List.mem_drop_iff_getElem]; exact ⟨q - (pRed C n).2.length, by omega, by congr 1; omega⟩
  · rw [List.getElem?_eq_getElem h2] at h3
    simpa [nz] using h3

set_option maxRecDepth 100000 in
set_option maxHeartbeats 4000000 in
theorem solve_c (w : World) (a a2 a3 : Option Addr) (n cap n2 cap2 n3 cap3 : Nat) (M : Mask) (l y : List Int) (hn : M.length = n) (hn2 : l.length = n2) (hn3 : y.length = n3) (hm : n ≤ maxLen) (hm2 : n2 ≤ maxLen) (hm3 : n3 ≤ maxLen) (H : RowsAt w a M) (H2 : IntsAt w a2 l) (H3 : IntsAt w a3 y) :
    Calls Tryz.prog 23 #[.slice a n cap, .slice a2 n2 cap2, .slice a3 n3 cap3] w fun e w' => ∃ v base, e = .returned (.tuple #[v, .int .i64 (solveV M l y).2]) ∧ w.heap.size ≤ base ∧ RatsO w' base v (solveV M l y).1 ∧ Below w.heap.size w w' := by
  have hmf : ∀ (fn : Fn) (first cap : Array Value) (w : World), (Instr.makeFunc fn first cap).run Tryz.prog w = .ok (.func fn first cap) w := fun _ _ _ _ => rfl
  obtain ⟨s, hs⟩ : ∃ s, s = w.heap.size := ⟨_, rfl⟩
  obtain ⟨wf, hwf⟩ : ∃ wf, wf = w.alloc (.cells #[.slice a3 n3 cap3] 24) := ⟨_, rfl⟩
  have hb0 : Below w.heap.size w wf := by rw [hwf]; exact (Below.refl _ _).alloc (Nat.le_refl _) _
  have hcb : wf.cell? ⟨s, 0, none⟩ = some (.slice a3 n3 cap3) := by rw [hwf, hs, World.cell?_alloc_at _ _ _ _ rfl]; rfl
  have hsf : s < wf.heap.size := by rw [hwf, hs]; simp
  have HCK := hid (check_c wf a a3 a2 n cap n3 cap3 n2 cap2 M y l hn hn3 hn2 hm hm3 hm2 (H.below hb0) (H3.below hb0) (H2.below hb0))
  have HBF := hid hb0
  by_cases hck : checkE M y l = 0
  · rw [hck] at HCK
    have hv : solveV M l y = solveP (withY (colsF M l) y) n2 := by unfold solveV; rw [if_pos hck, hn2]
    rw [hv]
    obtain ⟨hok, hyl, hmil, hso⟩ := check_ok hck
    obtain ⟨hM, h1, h6, hc1, hc10⟩ := okM_ok hok
    have hl10 := set_le hso
    have hn6 : n ≤ 6 := by omega
    have hn1 : 1 ≤ n := by omega
    have hn210 : n2 ≤ 10 := by omega
    have hS : ∀ r ∈ M, ∀ j ∈ l, 0 ≤ j ∧ j < r.length := fun r hr j hj => by rw [hM.wid r hr]; exact hso.2 j hj
    have HCh := hid (fun (X : World) (hX : Below wf.heap.size wf X) =>
      have hX0 := chain hb0 hX
      chosen_c X a n cap M hn (by omega) (H.below hX0) a2 n2 cap2 l hn2 (by omega) (H2.below hX0) hS 54 #[.pointer (some ⟨s, 0, none⟩)] (enters_of Tryz.func54 (by kernel_rfl) rfl) (fun i => [y[i]?.getD 0])
        (solve1 X s a3 n3 cap3 n y hn3 (by omega) hm3 ((hX.cell (p := ⟨s, 0, none⟩) hsf).trans hcb) (Nat.lt_of_lt_of_le hsf hX.size) (H3.below hX0)) (fun i _ => ⟨by simp, by simp⟩))
    rw [chosenF_y (by omega)] at HCh
    have hMC : MaskOk (colsF M l) n2 := by rw [← hn2]; exact hM.cols l
    have hY := hMC.addY (y := y) (by rw [colsF_len]; omega) (Y := 1000000) (by omega) (mil_bnd6 hmil)
    have hCl : (withY (colsF M l) y).length = n := by rw [withY_len (by rw [colsF_len]; omega), colsF_len, hn]
    obtain ⟨C, hC⟩ : ∃ C, C = withY (colsF M l) y := ⟨_, rfl⟩
    rw [← hC] at HCh hY hCl ⊢
    have hle : ∀ t, t ≤ n2 → ∀ r ∈ (pRed C t).1, r.length = n2 + 1 ∧ BndL 1073741824 r := fun t ht r hr => by
      have h := pRed_le hY.wid hY.le6 hY.one hY.all ht r hr
      exact ⟨h.1, fun x hx => by have := h.2 x hx; omega⟩
    have HRd := hid (fun (W1 : World) (base : Nat) (v0 : Value) (hO : OwnT W1 base W1.heap.size v0 C) (hb : base ≤ W1.heap.size) => reduce_c W1 base v0 C (n2 + 1) hO hb hY.wid (by omega) (by omega) (by omega) n2 (by omega) hle)
    have hinv := pRed_inv C hY.wid n2 (fun j hj q => rowv_le (by decide) (fun r hr => hY.one r hr j hj) q)
    have hRl : (pRed C n2).1.length = n := by rw [pRed_len, hCl]
    have hRw : ∀ r ∈ (pRed C n2).1, r.length = n2 + 1 := fun r hr => (hle n2 (Nat.le_refl _) r hr).1
    have hRb : ∀ r ∈ (pRed C n2).1, BndL 1073741824 r := fun r hr => (hle n2 (Nat.le_refl _) r hr).2
    have hJn : (pRed C n2).2.length ≤ n := by have := hinv.K_le; omega
    have hJ2 : (pRed C n2).2.length ≤ n2 := by
      have := asc_le (a := 0) (b := n2) hinv.asc (fun x hx => ⟨Nat.zero_le _, hinv.lt x hx⟩)
      omega
    have hJlt : ∀ k, k < (pRed C n2).2.length → jf (pRed C n2).2 k < n2 := fun k hk => by
      unfold jf; rw [List.getElem?_eq_getElem hk]; exact hinv.lt _ (List.getElem_mem hk)
    have hJpos : ∀ k, k < (pRed C n2).2.length → 0 < vec ((pRed C n2).1[k]?.getD []) (jf (pRed C n2).2 k) := fun k hk => (hinv.pp k hk).2
    have HEND := hid (solve_end (C := C) (n := n2) hJ2)
    have HNO := hid (fun q => solve_none (C := C) (n := n2) (q := q))
    obtain ⟨SV, hSV⟩ : ∃ SV, SV = solveP C n2 := ⟨_, rfl⟩
    rw [← hSV] at HEND HNO ⊢
    obtain ⟨R, hR⟩ : ∃ R, R = (pRed C n2).1 := ⟨_, rfl⟩
    obtain ⟨J, hJ⟩ : ∃ R, R = (pRed C n2).2 := ⟨_, rfl⟩
    have e1 : (pRed C n2).1 = R := hR.symm
    have e2 : (pRed C n2).2 = J := hJ.symm
    rw [e1] at HRd hRl hRw hRb hJpos HEND HNO
    rw [e2] at HRd hJn hJ2 hJlt hJpos HEND HNO
    obtain ⟨K, hK⟩ : ∃ K, K = J.length := ⟨_, rfl⟩
    rw [← hK] at HRd hJn hJ2 hJlt hJpos HEND HNO
    have HKJ := hid hK
    have HRL := hid hRl
    have HRW := hid hRw
    have HRB := hid hRb
    have HJLT := hid hJlt
    have HJPOS := hid hJpos
    have HSS := hid hs
    clear e1 e2 hR hJ hK hRl hRw hRb hJlt hJpos hSV hinv hle hC hCl hY hMC hS hso hmil hyl hok hM h1 h6 hc1 hc10 hl10 hck hv hn hn2 hn3 H H2 H3 hb0
    go_enter Tryz.func23, Tryz.ntmps23
    go_wp2_with fail
    rw [← hwf, ← hs]
    clear hwf hs
    go_wp2_with (go_at_call 20; refine HCK.out.mono ?_; rintro e w1 ⟨rfl, hb1⟩; refine Stop.of ?_)
    refine Stop.go ?_
    go_wp2_with (go_at_call 51; refine (HCh.out w1 hb1).mono ?_; rintro e w2 ⟨v0, rfl, hO2, hb2⟩; refine Stop.of ?_)
    refine Stop.go ?_
    have HRd1 := hid (HRd.out w2 w1.heap.size v0 (OwnT.of hO2) hb2.size)
    clear hO2 HRd HCh
    go_wp2_with (go_at_call 53; refine HRd1.out.mono ?_; rintro e w3 ⟨vJ, rfl, hJo, hT3, hb3⟩; refine Stop.of ?_)
    refine Stop.go ?_
    rw [intsJ_vals] at hJo
    obtain ⟨ja, jc, rfl, hJI, hJm⟩ := ints_of_own hJo (by rw [intsJ_len, HKJ.out])
    have hv0 : ∃ g0 c0, v0 = .slice (some ⟨g0, 0, none⟩) n c0 := by
      obtain ⟨g0, c0, _, _, e, _⟩ := hT3.at 0 (by rw [HRL.out]; omega)
      exact ⟨g0, c0, by rw [e, HRL.out]⟩
    obtain ⟨g0, c0, rfl⟩ := hv0
    have hRA := hT3.rowsAt HRL.out (fun r hr => by rw [HRW.out r hr]; unfold maxLen; omega)
    have HJI := hid hJI
    have HRA := hid hRA
    have HBW := hid (show Below w.heap.size w w3 from chain HBF.out (hb1.trans ((hb2.trans hb3).mono hb1.size)))
    have hsz : s ≤ w3.heap.size := by rw [HSS.out]; exact HBW.out.size
    clear hJI hRA hJo hT3 hb1 hb2 hb3 HRd1 HCK HBF hcb hsf
    go_wp2
    go_loopw [12, 33] (fun v i wr => ∃ k : Nat, k ≤ n ∧ i = .int .i64 k ∧ SolveSt wr w3.heap.size v R J n2 k ∧ Below w3.heap.size w3 wr) (fun _ i _ => n - (intOf i).toNat)
    case atStart => exact ⟨0, Nat.zero_le _, rfl, ⟨by rw [Nat.zero_min]; exact RatsO.nil _ _, fun q _ h => by omega⟩, Below.refl _ _⟩
    case round =>
      obtain ⟨k, hk, rfl, hst, hbk⟩ := hrel
      by_cases hlt : k < n
      · obtain ⟨b, off, ra, rn, rc, e, hbs, hc, hrn, hrm, hri⟩ := HRA.out k (by rw [HRL.out]; exact hlt)
        cases e
        rw [Nat.zero_add] at hc
        have hrw : rn = n2 + 1 := by rw [← hrn]; exact HRW.out _ (List.getElem_mem _)
        have hcw : wr.cell? ⟨g0, k, none⟩ = some (.slice ra rn rc) := (hbk.cell (p := ⟨g0, k, none⟩) hbs).trans hc
        clear hc
        obtain ⟨b', off', rfl, hbs', hcx⟩ := hri n2 (by omega)
        have hkR : k < R.length := by rw [HRL.out]; exact hlt
        have hvx : ∀ c, (R[k])[c]?.getD 0 = vec (R[k]?.getD []) c := fun c => by rw [List.getElem?_eq_getElem hkR]; rfl
        rw [hvx] at hcx
        have hnx : (n2 : Int) < (rn : Int) := by omega
        by_cases hkK : k < K
        · obtain ⟨p, hp⟩ : ∃ p, p = jf J k := ⟨_, rfl⟩
          have hp2 : p < n2 := by rw [hp]; exact HJLT.out k hkK
          obtain ⟨jb, jo, rfl, hjs, hcj⟩ := HJI.out k (by rw [intsJ_len, ← HKJ.out]; exact hkK)
          have hjv : (intsJ J)[k]?.getD 0 = (p : Int) := by
            have hkl : k < J.length := by rw [← HKJ.out]; exact hkK
            unfold intsJ; rw [hp]; unfold jf; simp [hkl]
          rw [hjv] at hcj
          obtain ⟨b2, off2, e2, _, hcz⟩ := hri p (by omega)
          cases e2
          rw [hvx] at hcz
          have hzp : 0 < vec (R[k]?.getD []) p := by rw [hp]; exact HJPOS.out k hkK
          have hbx := vec_mem (P := fun x => -((1073741824 : Nat) : Int) ≤ x ∧ x ≤ ((1073741824 : Nat) : Int)) (by omega) (HRB.out _ (List.getElem_mem hkR))
          have hbx1 := hbx n2
          have hbx2 := hbx p
          have hRk : R[k]?.getD [] = R[k] := by rw [List.getElem?_eq_getElem hkR]; rfl
          rw [← hRk] at hbx1 hbx2
          have hsnoc : ofTo R J n2 (k + 1) = ofTo R J n2 k ++ [ofF (vec (R[k]?.getD []) n2) (vec (R[k]?.getD []) p)] := by rw [hp]; exact ofTo_succ R J n2 k
          have HOf := hid (fun (X : World) => of_c X (vec (R[k]?.getD []) n2) (vec (R[k]?.getD []) p) (by omega) (by omega) (by omega))
          obtain ⟨x, hx⟩ : ∃ x, x = vec (R[k]?.getD []) n2 := ⟨_, rfl⟩
          obtain ⟨z, hz⟩ : ∃ x, x = vec (R[k]?.getD []) p := ⟨_, rfl⟩
          rw [← hx] at hcx HOf hsnoc
          rw [← hz] at hcz HOf hsnoc
          obtain ⟨Q, hQ⟩ : ∃ Q, Q = ofF x z := ⟨_, rfl⟩
          rw [← hQ] at HOf hsnoc
          obtain ⟨q1, q2⟩ := Q
          have HSN := hid hsnoc
          obtain ⟨hst1, hst2⟩ := hst
          rw [← HKJ.out, show min k K = k by omega] at hst1
          have HST2 := hid (show ∀ q, J.length ≤ q → q < k + 1 → vec (R[q]?.getD []) n2 = 0 from fun q h1 h2 => by have := HKJ.out; omega)
          obtain ⟨T, hT⟩ : ∃ T, T = ofTo R J n2 k := ⟨_, rfl⟩
          rw [← hT] at hst1 hsnoc
          have hTl : T.length = k := by rw [hT]; exact ofTo_len R J n2 k
          have HO := hid hst1
          unfold RatsO at hst1
          rw [hTl] at hst1
          have HO1 := hid hst1
          obtain ⟨va, vc, rfl⟩ := ownsRow_slice hst1
          have HSN2 := hid (show ratVals (ofTo R J n2 (k + 1)) = ratVals T ++ ratCells (q1, q2) by rw [hsnoc, ratVals_snoc])
          have HS := hid (fun (X : World) (hX : Below w3.heap.size w3 X) => show X.cell? ⟨b', off' + n2, none⟩ = some (.int .i64 x) ∧ X.cell? ⟨jb, jo + k, none⟩ = some (.int .i64 p) ∧ X.cell? ⟨b', off' + p, none⟩ = some (.int .i64 z) from
            ⟨(hX.cell (p := ⟨b', off' + n2, none⟩) hbs').trans hcx, (hX.cell (p := ⟨jb, jo + k, none⟩) hjs).trans hcj, (hX.cell (p := ⟨b', off' + p, none⟩) hbs').trans hcz⟩)
          have M1 := hid (show k + 1 ≤ maxLen by unfold maxLen; omega)
          have M2 := hid (show (k + 1) * 16 ≤ 140737488355328 by omega)
          have HBK := hid hbk
          have i1 : (k : Int) < (K : Int) := by omega
          have i2 : (p : Int) < (rn : Int) := by omega
          clear hst1 hst2 hcx hcj hcz hsnoc hx hz hQ hT hTl hRk hbx hbx1 hbx2 hzp hvx hri hrn hrw hjv hp hbk HO HSN
          simp only [ratV] at HOf
          go_wp2
          refine plain_region (fun j' X => wAll j' = true → X.cell? ⟨b', off' + n2, none⟩ = some (.int .i64 x) ∧ X.cell? ⟨jb, jo + k, none⟩ = some (.int .i64 p) ∧ X.cell? ⟨b', off' + p, none⟩ = some (.int .i64 z)) (by kernel_rfl) ?_
          have hbd : Below w3.heap.size w3 wr.drew := HBK.out.drew
          have HO2 := hid (own_below HO1.out ((Below.refl _ wr).drew))
          have HB3 := hid hbd
          generalize wr.drew = wd at hbd HO2 HB3 ⊢
          refine AnyT.takeD (i := 0) (v := .slice va k vc) rfl rfl (by kernel_rfl) (by kernel_rfl) (by kernel_rfl) (by first | exact (fun _ _ _ h => h) | exact (fun _ _ _ h => absurd h.1 (by simp))) (by kernel_rfl) (by rfl) (by rintro w' ⟨y1, y2, y3⟩; go_simp) (HS.out _ hbd) ?_; go_frame
          refine AnyT.takeD (i := 1) (v := .slice (some ⟨b', off', none⟩) rn rc) rfl rfl (by kernel_rfl) (by kernel_rfl) (by kernel_rfl) (by first | exact (fun _ _ _ h => h) | exact (fun _ _ _ h => absurd h.1 (by simp))) (by kernel_rfl) (by rfl) (by rintro w' ⟨y1, y2, y3⟩; go_simp) (HS.out _ hbd) ?_; go_frame
          refine AnyT.takeD (i := 2) (v := .int .i64 n2) rfl rfl (by kernel_rfl) (by kernel_rfl) (by kernel_rfl) (by first | exact (fun _ _ _ h => h) | exact (fun _ _ _ h => absurd h.1 (by simp))) (by kernel_rfl) (by rfl) (by rintro w' ⟨y1, y2, y3⟩; go_simp) (HS.out _ hbd) ?_; go_frame
          refine AnyT.takeD (i := 3) (v := .pointer (some ⟨b', off' + n2, none⟩)) rfl rfl (by kernel_rfl) (by kernel_rfl) (by kernel_rfl) (by first | exact (fun _ _ _ h => h) | exact (fun _ _ _ h => absurd h.1 (by simp))) (by kernel_rfl) (by rfl) (by rintro w' ⟨y1, y2, y3⟩; go_simp) (HS.out _ hbd) ?_; go_frame
          refine AnyT.takeD (i := 4) (v := .int .i64 x) rfl rfl (by kernel_rfl) (by kernel_rfl) (by kernel_rfl) (by first | exact (fun _ _ _ h => h) | exact (fun _ _ _ h => absurd h.1 (by simp))) (by kernel_rfl) (by rfl) (by rintro w' ⟨y1, y2, y3⟩; go_simp) (HS.out _ hbd) ?_; go_frame
          refine AnyT.takeD (i := 5) (v := .slice (some ⟨b', off', none⟩) rn rc) rfl rfl (by kernel_rfl) (by kernel_rfl) (by kernel_rfl) (by first | exact (fun _ _ _ h => h) | exact (fun _ _ _ h => absurd h.1 (by simp))) (by kernel_rfl) (by rfl) (by rintro w' ⟨y1, y2, y3⟩; go_simp) (HS.out _ hbd) ?_; go_frame
          refine AnyT.takeD (i := 6) (v := .slice (some ⟨jb, jo, none⟩) K jc) rfl rfl (by kernel_rfl) (by kernel_rfl) (by kernel_rfl) (by first | exact (fun _ _ _ h => h) | exact (fun _ _ _ h => absurd h.1 (by simp))) (by kernel_rfl) (by rfl) (by rintro w' ⟨y1, y2, y3⟩; go_simp) (HS.out _ hbd) ?_; go_frame
          refine AnyT.takeD (i := 7) (v := .int .i64 k) rfl rfl (by kernel_rfl) (by kernel_rfl) (by kernel_rfl) (by first | exact (fun _ _ _ h => h) | exact (fun _ _ _ h => absurd h.1 (by simp))) (by kernel_rfl) (by rfl) (by rintro w' ⟨y1, y2, y3⟩; go_simp) (HS.out _ hbd) ?_; go_frame
          refine AnyT.takeD (i := 8) (v := .pointer (some ⟨jb, jo + k, none⟩)) rfl rfl (by kernel_rfl) (by kernel_rfl) (by kernel_rfl) (by first | exact (fun _ _ _ h => h) | exact (fun _ _ _ h => absurd h.1 (by simp))) (by kernel_rfl) (by rfl) (by rintro w' ⟨y1, y2, y3⟩; go_simp) (HS.out _ hbd) ?_; go_frame
          refine AnyT.takeD (i := 9) (v := .int .i64 p) rfl rfl (by kernel_rfl) (by kernel_rfl) (by kernel_rfl) (by first | exact (fun _ _ _ h => h) | exact (fun _ _ _ h => absurd h.1 (by simp))) (by kernel_rfl) (by rfl) (by rintro w' ⟨y1, y2, y3⟩; go_simp) (HS.out _ hbd) ?_; go_frame
          refine AnyT.takeD (i := 10) (v := .pointer (some ⟨b', off' + p, none⟩)) rfl rfl (by kernel_rfl) (by kernel_rfl) (by kernel_rfl) (by first | exact (fun _ _ _ h => h) | exact (fun _ _ _ h => absurd h.1 (by simp))) (by kernel_rfl) (by rfl) (by rintro w' ⟨y1, y2, y3⟩; go_simp) (HS.out _ hbd) ?_; go_frame
          refine AnyT.takeD (i := 11) (v := .int .i64 z) rfl rfl (by kernel_rfl) (by kernel_rfl) (by kernel_rfl) (by first | exact (fun _ _ _ h => h) | exact (fun _ _ _ h => absurd h.1 (by simp))) (by kernel_rfl) (by rfl) (by rintro w' ⟨y1, y2, y3⟩; go_simp) (HS.out _ hbd) ?_; go_frame
          refine AnyT.next (i := 12) (by kernel_rfl) rfl (wpOp_of_list rfl ?_)
          go_wp2_with (go_at_call 55; refine (HOf.out _).mono ?_; rintro e w4 ⟨rfl, hbl4⟩; refine Stop.of ?_)
          refine Stop.go ?_
          have HB4 := hid (chain hbd hbl4)
          have HO4 := hid (own_below HO2.out hbl4)
          have M3 := hid (Nat.le_trans HB4.out.size (le_alloc w4 (.cells (ratCells (q1, q2)).toArray 57)))
          clear hbd hbl4
          go_wp2
          refine ⟨fun _ => HS.out _ HB4.out, ?_⟩
          refine AnyT.next (i := 13) (by kernel_rfl) rfl (wpOp_of_list rfl ?_)
          go_wp2
          have hbA : Below w3.heap.size w3 (w4.alloc (.cells (ratCells (q1, q2)).toArray 57)) := HB4.out.alloc HB4.out.size _
          refine ⟨fun _ => HS.out _ hbA, ?_⟩
          refine AnyT.next (i := 14) (by kernel_rfl) rfl (wpOp_of_list rfl ?_)
          refine wpList_app _ rfl (.tmp 43) (.tmp 56) 31 rfl w3.heap.size 57 (.agg #[.int .i64 0, .int .i64 0]) 2 16 Tryz.underlying31 info_ratio rfl (by decide) (.slice va k vc) k _ rfl (HO4.out.alloc _) (some ⟨w4.heap.size, 0, none⟩) 1 1 (ratCells (q1, q2)) rfl rfl no_none (rat_news w4 (q1, q2) _) (rat_one _) M1.out M2.out M3.out ?_
          intro a5 c5 w5 own5 g5
          have hb5 : Below w3.heap.size w3 w5 := hbA.grown g5 M3.out (fun q hq => (HO4.out.lt q hq).1)
          refine ⟨fun _ => HS.out _ hb5, ?_⟩
          refine AnyT.takeD (i := 15) (v := .slice a5 (k + 1) c5) rfl rfl (by kernel_rfl) (by kernel_rfl) (by kernel_rfl) (by first | exact (fun _ _ _ h => h) | exact (fun _ _ _ h => absurd h.1 (by simp))) (by kernel_rfl) (by rfl) (by rintro w' ⟨y1, y2, y3⟩; go_simp) (HS.out _ hb5) ?_; go_frame
          refine AnyT.done (by kernel_rfl) ?_ _
          go_wp2
          refine ⟨⟨k + 1, by omega, by go_num, ⟨?_, HST2.out⟩, hb5⟩, by simp [intOf]; omega⟩
          rw [← HKJ.out, show min (k + 1) K = k + 1 by omega]
          unfold RatsO
          rw [ofTo_len, HSN2.out]
          exact own5
        · have HX8 := hid (fun (h : vec (R[k]?.getD []) n2 ≠ 0) => HNO.out k (by omega) (by rw [HRL.out]; exact hlt) h)
          have HX0 := hid (fun (h : vec (R[k]?.getD []) n2 = 0) => show SolveSt wr w3.heap.size u12 R J n2 (k + 1) from ⟨by have h1 := hst.1; rw [← HKJ.out, show min k K = min (k + 1) K by omega] at h1; rw [← HKJ.out]; exact h1, fun q h1 h2 => by
            rcases Nat.lt_or_ge q k with h3 | h3
            · exact hst.2 q h1 h3
            · obtain rfl : q = k := by omega
              exact h⟩)
          obtain ⟨x, hx⟩ : ∃ x, x = vec (R[k]?.getD []) n2 := ⟨_, rfl⟩
          rw [← hx] at hcx HX8 HX0
          have i1 : ¬ ((k : Int) < (K : Int)) := by omega
          have HBK := hid hbk
          have hcx' : wr.cell? ⟨b', off' + n2, none⟩ = some (.int .i64 x) := (hbk.cell (p := ⟨b', off' + n2, none⟩) hbs').trans hcx
          clear hx hst hbk hcx hvx hri hrn hrw
          by_cases h0 : x = 0
          · subst h0
            have HX := hid (HX0.out rfl)
            clear HX0 HX8
            go_wp2
            exact ⟨⟨k + 1, by omega, by go_num, HX.out, HBK.out⟩, by simp [intOf]; omega⟩
          · have hxb : (x != 0) = true := by simpa using h0
            obtain rfl : SV = ([], 8) := HX8.out h0
            clear HX0 HX8
            go_wp2
            go_ret2
            exact ⟨.slice none 0 0, rfl, w.heap.size, Nat.le_refl _, RatsO.nil _ _, chain HBW.out HBK.out⟩
      · obtain rfl : k = n := by omega
        have hSV : SV = if K < n2 then ([], 11) else (ofTo R J n2 K, 0) := HEND.out fun q h1 h2 => hst.2 q (by rw [← HKJ.out]; exact h1) (by rw [HRL.out] at h2; exact h2)
        have hst1 := hst.1
        rw [← HKJ.out, show min k K = K by omega] at hst1
        have HO := hid hst1
        have HBK := hid hbk
        obtain ⟨va, vc, hve⟩ := ownsRow_slice hst1
        rw [ofTo_len] at hve
        subst hve
        clear hst1 hst hbk
        by_cases hKn : K < n2
        · rw [if_pos hKn] at hSV
          subst hSV
          have i2 : (K : Int) < (n2 : Int) := by omega
          go_wp2
          go_ret2
          exact ⟨.slice none 0 0, rfl, w.heap.size, Nat.le_refl _, RatsO.nil _ _, chain HBW.out HBK.out⟩
        · rw [if_neg hKn] at hSV
          subst hSV
          have i2 : ¬ ((K : Int) < (n2 : Int)) := by omega
          go_wp2
          go_ret2
          exact ⟨_, rfl, w3.heap.size, HBW.out.size, HO.out, chain HBW.out HBK.out⟩
  · have hv : solveV M l y = ([], checkE M y l) := by unfold solveV; rw [if_neg hck]
    rw [hv]
    obtain ⟨E, hE⟩ : ∃ E, E = checkE M y l := ⟨_, rfl⟩
    rw [← hE] at HCK hck ⊢
    have hpb : (E != 0) = true := by simpa using hck
    have HSS := hid hs
    clear hn hn2 hn3 H H2 H3 hv hE hb0
    go_enter Tryz.func23, Tryz.ntmps23
    go_wp2_with fail
    rw [← hwf, ← hs]
    clear hwf hs
    go_wp2_with (go_at_call 20; refine HCK.out.mono ?_; rintro e w1 ⟨rfl, hb1⟩)
    go_ret2
    exact ⟨.slice none 0 0, w.heap.size, rfl, Nat.le_refl _, RatsO.nil _ _, chain HBF.out hb1⟩
end
end Go.Proofs.YtfipebkhomppmaaGreat

namespace Go.Proofs.YtfipebkhomppmaaGreat
section
section
set_option linter.unusedVariables false

theorem rRed_le1 {n B : Nat} {L : List (List Int)} (hw : ∀ r ∈ L, r.length = n + 1) (h : ∀ r ∈ (rRed L n).done ++ (rRed L n).left, ∀ x ∈ r, -(B : Int) ≤ x ∧ x ≤ (B : Int)) :
    ∀ r ∈ (rRed L (n + 1)).done ++ (rRed L (n + 1)).left, ∀ x ∈ r, -(B : Int) ≤ x ∧ x ≤ (B : Int) := by
  obtain ⟨hi, hd⟩ := rRed_inv L hw n
  have hwid := hi.wid
  rw [rRed_succ]
  obtain ⟨s, hs⟩ : ∃ s, s = rRed L n := ⟨_, rfl⟩
  rw [← hs] at h hi hd hwid ⊢
  unfold rStep
  cases hl : lastIx (nz n) s.left with
  | none => exact h
  | some a =>
    simp only []
    obtain ⟨ha, hnz⟩ := lastIx_some hl
    have hnz' : vec s.left[a] n ≠ 0 := by simpa [nz] using hnz
    have hlen := hi.len
    rw [List.length_append] at hlen
    have hrow : rowv (s.done ++ s.left) (s.piv.length + a) = vec s.left[a] := by
      unfold rowv
      rw [List.getElem?_append_right (by omega), show s.piv.length + a - s.done.length = a by omega, List.getElem?_eq_getElem ha]; rfl
    have hz : ∀ c, c < n → vec s.left[a] c = 0 := fun c hc => by rw [← hrow]; exact hi.zero _ (by omega) (by omega) c hc
    have hz2 : ∀ c, n < c → vec s.left[a] c = 0 := fun c hc => vec_ge (by rw [hwid _ (List.mem_append_right _ (List.getElem_mem ha))]; omega)
    have hpr : Prim (vec s.left[a]) := by
      rw [← hrow]
      rcases hi.pr (s.piv.length + a) (by omega) with h1 | h1 | ⟨q0, h1⟩
      · exact h1
      · rw [hrow] at h1; exact absurd (h1 n) hnz'
      · rcases rowv_prim L q0 with h2 | h2
        · have : rowv (s.done ++ s.left) (s.piv.length + a) = rowv (L.map primF) q0 := funext h1
          rw [this]; exact h2
        · have := h1 n
          rw [h2 n, hrow] at this
          exact absurd this hnz'
    obtain ⟨z, hzz, hpz⟩ := posF_mul (s.left[a]) n
    have hpp := posF_pos hnz'
    rw [List.getElem?_eq_getElem ha]
    simp only [Option.getD_some]
    obtain ⟨p, hp⟩ : ∃ p, p = posF s.left[a] n := ⟨_, rfl⟩
    rw [← hp] at hpz hpp ⊢
    have hpl : p.length = n + 1 := by rw [hp, posF_len]; exact hwid _ (List.mem_append_right _ (List.getElem_mem ha))
    have hpc : ∀ c, c < n → vec p c = 0 := fun c hc => by rw [hpz c, hz c hc]; simp
    have hone : vec p n = 1 := by
      have h1 : vec s.left[a] n ∣ 1 := hpr _ (fun c => by
        rcases Nat.lt_trichotomy c n with h1 | h1 | h1
        · rw [hz c h1]; exact Int.dvd_zero _
        · rw [h1]; exact Int.dvd_refl _
        · rw [hz2 c h1]; exact Int.dvd_zero _)
      have h2 : (vec s.left[a] n).natAbs = 1 := by
        have := Int.natAbs_dvd_natAbs.2 h1
        exact Nat.dvd_one.1 (by simpa using this)
      have h3 := hpz n
      rcases hzz with rfl | rfl <;> omega
    have hpB : ∀ x ∈ p, -(B : Int) ≤ x ∧ x ≤ (B : Int) := by
      refine mem_vec (P := fun x => -(B : Int) ≤ x ∧ x ≤ (B : Int)) fun c => ?_
      have := vec_mem (P := fun x => -(B : Int) ≤ x ∧ x ≤ (B : Int)) (by omega) (h _ (List.mem_append_right _ (List.getElem_mem ha))) c
      rw [hpz c]
      rcases hzz with rfl | rfl <;> omega
    have hwo : ∀ r ∈ s.done ++ s.left, ∀ x ∈ withoutF p n r, -(B : Int) ≤ x ∧ x ≤ (B : Int) := by
      intro r hr
      refine mem_vec (P := fun x => -(B : Int) ≤ x ∧ x ≤ (B : Int)) fun c => ?_
      unfold withoutF
      refine primF_le ?_
      rw [vec_zip (by simp) (by rw [hwid r hr, hpl])]
      have := vec_mem (P := fun x => -(B : Int) ≤ x ∧ x ≤ (B : Int)) (by omega) (h r hr) c
      rw [hone]
      rcases Nat.lt_trichotomy c n with h1 | h1 | h1
      · rw [hpc c h1]; omega
      · subst h1; rw [hone]; omega
      · rw [vec_ge (l := p) (by omega), vec_ge (l := r) (by rw [hwid r hr]; omega)]; omega
    intro r hr
    rcases List.mem_append.1 hr with hr | hr
    · rcases List.mem_append.1 hr with hr | hr
      · obtain ⟨r', h1, rfl⟩ := List.mem_map.1 hr
        exact hwo r' (List.mem_append_left _ h1)
      · obtain rfl : r = p := by simpa using hr
        exact hpB
    · obtain ⟨r', h1, rfl⟩ := List.mem_map.1 hr
      exact hwo r' (List.mem_append_right _ (List.mem_of_mem_eraseIdx h1))
end

section
open Go.RowKit
set_option linter.unusedVariables false

def OwnR (W : World) (base : Nat) (u : Value) (l : List Int) : Prop := W.ownsRow base 3 1 u l.length (l.map (Value.int .i64))
theorem OwnR.type {W : World} {base k : Nat} {u : Value} {l : List Int} (h : OwnR W base u l) (hk : u.ownBlock = some k) : base ≤ k ∧ k < W.heap.size ∧ ∃ c, W.heap[k]? = some (.cells c 3 (0, 0)) := by
  rcases h.2 with ⟨rfl, _⟩ | ⟨g, cap, cur, rfl, hbg, hgg, _⟩
  · simp [Value.ownBlock] at hk
  · obtain rfl : g = k := by simpa [Value.ownBlock] using hk
    exact ⟨hbg, (Array.getElem?_eq_some_iff.1 hgg).1, cur, hgg⟩
theorem OwnR.moved {W W' : World} {base : Nat} {u : Value} {l : List Int} (h : OwnR W base u l) (hm : ∀ k, u.ownBlock = some k → W'.heap[k]? = W.heap[k]?) : OwnR W' base u l := by
  refine ⟨h.1, ?_⟩
  rcases h.2 with hn | ⟨g, cap, cur, rfl, hbg, hgg, rest⟩
  · exact .inl hn
  · exact .inr ⟨g, cap, cur, rfl, hbg, (hm g rfl).trans hgg, rest⟩
theorem OwnR.low {W : World} {base b0 : Nat} {u : Value} {l : List Int} (h : OwnR W base u l) (hb : b0 ≤ base) : OwnR W b0 u l := by
  refine ⟨h.1, ?_⟩
  rcases h.2 with hn | ⟨g, cap, cur, rfl, hbg, rest⟩
  · exact .inl hn
  · exact .inr ⟨g, cap, cur, rfl, by omega, rest⟩
theorem OwnR.below {W W' : World} {base : Nat} {u : Value} {l : List Int} (h : OwnR W base u l) (hb : Below W.heap.size W W') : OwnR W' base u l := h.moved fun k hk => hb.block k (h.type hk).2.1
theorem OwnR.rowS {W : World} {base : Nat} {u : Value} {l : List Int} (h : OwnR W base u l) : RowS W u l := rowS_own h rfl

def TabD (W : World) (base : Nat) (v : Value) (L : List (List Int)) : Prop :=
  ∃ vs, W.ownsRow base 24 1 v L.length vs ∧ (∀ j (hj : j < L.length), ∃ u, vs[j]? = some u ∧ OwnR W base u L[j]) ∧
    ∀ (i j : Nat) (u u' : Value) (k : Nat), vs[i]? = some u → vs[j]? = some u' → u.ownBlock = some k → u'.ownBlock = some k → i = j
theorem TabD.nil (W : World) (base : Nat) : TabD W base (.slice none 0 0) [] := ⟨[], World.ownsRow_nil _ _ _ _, fun j hj => by simp at hj, fun i j u u' k h => by simp at h⟩
theorem TabD.tab {W : World} {base : Nat} {v : Value} {L : List (List Int)} (h : TabD W base v L) : TabS W base v L := by
  obtain ⟨vs, h1, h2, _⟩ := h
  exact ⟨vs, h1, fun j hj => by obtain ⟨u, e, h⟩ := h2 j hj; exact ⟨u, e, h.rowS⟩⟩
theorem TabD.below {W W' : World} {base : Nat} {v : Value} {L : List (List Int)} (h : TabD W base v L) (hb : Below W.heap.size W W') : TabD W' base v L := by
  obtain ⟨vs, h1, h2, h3⟩ := h
  refine ⟨vs, own_below h1 hb, fun j hj => ?_, h3⟩
  obtain ⟨u, hu, hr⟩ := h2 j hj
  exact ⟨u, hu, hr.below hb⟩
theorem own_typeL {W : World} {base k n : Nat} {v : Value} {vs : List Value} (h : W.ownsRow base 24 1 v n vs) (hk : v.ownBlock = some k) : base ≤ k ∧ k < W.heap.size ∧ ∃ c, W.heap[k]? = some (.cells c 24 (0, 0)) := by
  rcases h.2 with ⟨rfl, _⟩ | ⟨g, cap, cur, rfl, hbg, hgg, _⟩
  · simp [Value.ownBlock] at hk
  · obtain rfl : g = k := by simpa [Value.ownBlock] using hk
    exact ⟨hbg, (Array.getElem?_eq_some_iff.1 hgg).1, cur, hgg⟩
theorem TabD.snoc {W w1 w3 : World} {base : Nat} {v v' u : Value} {L : List (List Int)} {r : List Int} {vs : List Value} (h1 : W.ownsRow base 24 1 v L.length vs)
    (h2 : ∀ j (hj : j < L.length), ∃ u, vs[j]? = some u ∧ OwnR W base u L[j]) (h3 : ∀ (i j : Nat) (u u' : Value) (k : Nat), vs[i]? = some u → vs[j]? = some u' → u.ownBlock = some k → u'.ownBlock = some k → i = j)
    (hb : Below W.heap.size W w1) (hbase : base ≤ W.heap.size) (hr : OwnR w1 W.heap.size u r) (hg : w1.grownBy w3 v.ownBlock)
    (ho' : w3.ownsRow base 24 1 v' (L.length + 1) (vs ++ [u])) : TabD w3 base v' (L ++ [r]) := by
  have hlen : vs.length = L.length := by have := h1.1; omega
  have hup : ∀ b u l, OwnR w1 b u l → OwnR w3 b u l := by
    intro b u l hu
    refine hu.moved fun k hk => ?_
    obtain ⟨_, hlt, c, hc⟩ := hu.type hk
    refine hg.block k hlt ?_
    intro e
    obtain ⟨_, h4, c2, hc2⟩ := own_typeL h1 e.symm
    have := (hb.block k h4).trans hc2
    rw [hc] at this; cases this
  have hold : ∀ j q k, j < L.length → vs[j]? = some q → q.ownBlock = some k → k < W.heap.size := by
    intro j q k hj hq hk
    obtain ⟨u', hu', hr'⟩ := h2 j hj
    rw [hq] at hu'; cases hu'
    exact (hr'.type hk).2.1
  refine ⟨vs ++ [u], by simpa using ho', fun j hj => ?_, ?_⟩
  · simp only [List.length_append, List.length_cons, List.length_nil, Nat.zero_add] at hj
    by_cases hjl : j < L.length
    · obtain ⟨u', hu', hr'⟩ := h2 j hjl
      rw [List.getElem_append_left hjl]
      exact ⟨u', by rw [List.getElem?_append_left (by omega)]; exact hu', hup _ _ _ (hr'.below hb)⟩
    · obtain rfl : j = L.length := by omega
      rw [List.getElem_append_right (Nat.le_refl _)]
      simp only [Nat.sub_self, List.getElem_cons_zero]
      exact ⟨u, by rw [List.getElem?_append_right (by omega), hlen]; simp, hup _ _ _ (hr.low hbase)⟩
  · intro i j q q' k hi hj hk hk'
    have hin : ∀ {i : Nat} {q : Value}, (vs ++ [u])[i]? = some q → (i < L.length ∧ vs[i]? = some q) ∨ (i = L.length ∧ q = u) := by
      intro i q h
      rcases Nat.lt_or_ge i L.length with h4 | h4
      · rw [List.getElem?_append_left (by omega)] at h; exact .inl ⟨h4, h⟩
      · rw [List.getElem?_append_right (by omega), hlen] at h
        rcases Nat.eq_or_lt_of_le h4 with h5 | h5
        · rw [← h5, Nat.sub_self] at h; exact .inr ⟨h5.symm, by simpa using h.symm⟩
        · rw [List.getElem?_eq_none (by simp; omega)] at h; cases h
    rcases hin hi with ⟨h4, h5⟩ | ⟨h4, rfl⟩ <;> rcases hin hj with ⟨h6, h7⟩ | ⟨h6, h8⟩
    · exact h3 i j q q' k h5 h7 hk hk'
    · subst h8
      have := hold i q k h4 h5 hk
      have := (hr.type hk').1
      omega
    · have := hold j q' k h6 h7 hk'
      have := (hr.type hk).1
      omega
    · omega
theorem TabD.at {W : World} {base n : Nat} {v : Value} {L : List (List Int)} (h : TabD W base v L) (hl : L.length = n) {i : Nat} (hi : i < n) :
    ∃ g0 cap u, v = .slice (some ⟨g0, 0, none⟩) n cap ∧ base ≤ g0 ∧ g0 < W.heap.size ∧ W.cell? ⟨g0, i, none⟩ = some u ∧ OwnR W base u (L[i]?.getD []) ∧ W.frozen? ⟨g0, i, none⟩ = false ∧ (∀ k, u.ownBlock = some k → k ≠ g0) ∧
      ∀ w1 w3 u' r, Below W.heap.size W w1 → w1.grownBy w3 u.ownBlock → OwnR w3 base u' r → (u'.ownBlock = u.ownBlock ∨ u'.ownBlock = some w1.heap.size) → TabD (w3.setCell ⟨g0, i, none⟩ u') base v (L.set i r) := by
  subst hl
  obtain ⟨vs, h1, h2, h3⟩ := h
  obtain ⟨u, hu, hr⟩ := h2 i hi
  rcases h1.2 with ⟨rfl, h0⟩ | ⟨g0, cap, cur, rfl, hbg, hgg, hnc, hcm, hsz, htk⟩
  · omega
  have hcell := World.ownsRow.cellAt (w := W) (base := base) (e := 24) (size := 1) (g := g0) (n := L.length) (cap := cap) (xs := vs) h1 i (by omega)
  have hvl : vs.length = L.length := by have := h1.1; omega
  have hg0 : g0 < W.heap.size := (Array.getElem?_eq_some_iff.1 hgg).1
  have hne : ∀ (j : Nat) (q : Value) (k : Nat), j < L.length → vs[j]? = some q → q.ownBlock = some k → k < W.heap.size ∧ k ≠ g0 := by
    intro j q k hj hq hk
    obtain ⟨u', hu', hr'⟩ := h2 j hj
    rw [hq] at hu'; cases hu'
    obtain ⟨_, h4, c, hc⟩ := hr'.type hk
    refine ⟨h4, ?_⟩
    rintro rfl
    rw [hgg] at hc; cases hc
  refine ⟨g0, cap, u, rfl, hbg, hg0, by rw [hcell]; exact hu, by rw [List.getElem?_eq_getElem hi]; exact hr, by simp [World.frozen?, hgg], fun k hk => (hne i u k hi hu hk).2, ?_⟩
  intro w1 w3 u' r hb hg hr' hat
  have hkeep : ∀ k, k ≠ g0 → (w3.setCell ⟨g0, i, none⟩ u').heap[k]? = w3.heap[k]? := fun k hk => Below.heap_setCell _ _ _ _ hk
  have hold : ∀ k, k < W.heap.size → u.ownBlock ≠ some k → w3.heap[k]? = W.heap[k]? := fun k hk hn => (hg.block k (Nat.lt_of_lt_of_le hk hb.size) (fun e => hn e.symm)).trans (hb.block k hk)
  have hg3 : w3.heap[g0]? = some (.cells cur 24 (0, 0)) := (hold g0 hg0 (fun e => (hne i u g0 hi hu e).2 rfl)).trans hgg
  have hb2 : (w3.setCell ⟨g0, i, none⟩ u').heap[g0]? = some (.cells (cur.setIfInBounds i u') 24 (0, 0)) := cells_set hg3 i u'
  have hnew : ∀ k, u'.ownBlock = some k → k ≠ g0 := by
    intro k hk
    obtain ⟨_, _, c, hc⟩ := hr'.type hk
    rintro rfl
    rw [hg3] at hc; cases hc
  refine ⟨vs.set i u', ⟨by simpa using h1.1, .inr ⟨g0, cap, cur.setIfInBounds i u', by simp, hbg, hb2, by simpa using hnc, hcm, by simpa using hsz, ?_⟩⟩, fun j hj => ?_, ?_⟩
  · rw [← htk]
    simp only [Array.toList_setIfInBounds, List.length_set, Nat.mul_one]
    rw [List.take_set]
  · have hj' : j < L.length := by simpa using hj
    by_cases e : i = j
    · subst e
      exact ⟨u', by simp [hvl, hj'], by simpa using hr'.moved fun k hk => hkeep k (hnew k hk)⟩
    · obtain ⟨u2, hu2, hr2⟩ := h2 j hj'
      refine ⟨u2, by rw [List.getElem?_set_ne e]; exact hu2, ?_⟩
      rw [List.getElem_set_ne e]
      refine hr2.moved fun k hk => (hkeep k (hne j u2 k hj' hu2 hk).2).trans (hold k (hne j u2 k hj' hu2 hk).1 fun e2 => e (h3 i j u u2 k hu hu2 e2 hk))
  · intro p q x y k hp hq hx hy
    have hin : ∀ {p : Nat} {x : Value}, (vs.set i u')[p]? = some x → (p = i ∧ x = u') ∨ (p ≠ i ∧ p < L.length ∧ vs[p]? = some x) := by
      intro p x h
      by_cases e : i = p
      · subst e
        rw [List.getElem?_set_self (by omega)] at h
        exact .inl ⟨rfl, (Option.some.inj h).symm⟩
      · rw [List.getElem?_set_ne e] at h
        exact .inr ⟨fun h => e h.symm, by have := (List.getElem?_eq_some_iff.1 h).1; omega, h⟩
    have hdif : ∀ {p : Nat} {x : Value}, p ≠ i → p < L.length → vs[p]? = some x → x.ownBlock = some k → u'.ownBlock = some k → False := by
      intro p x h4 h5 h6 h7 h8
      rcases hat with h9 | h9
      · rw [h9] at h8
        exact h4 (h3 p i x u k h6 hu h7 h8)
      · rw [h9] at h8
        have := (hne p x k h5 h6 h7).1
        have := hb.size
        cases h8; omega
    rcases hin hp with ⟨h4, h5⟩ | ⟨h4, h5, h6⟩ <;> rcases hin hq with ⟨h7, h8⟩ | ⟨h7, h8, h9⟩
    · omega
    · subst h5; exact (hdif h7 h8 h9 hy hx).elim
    · subst h8; exact (hdif h4 h5 h6 hx hy).elim
    · exact h3 p q x y k h6 h9 hx hy

set_option maxRecDepth 100000 in
set_option maxHeartbeats 4000000 in
theorem r3columnsD_c (w : World) (a : Option Addr) (n cap : Nat) (M : List (List Int)) (hn : M.length = n) (hn6 : n ≤ 1000) (H : RowsAt w a M) (a2 : Option Addr) (k2 cap2 : Nat) (S : List Int) (hk2 : S.length = k2) (hk21 : k2 ≤ 1000) (H2 : IntsAt w a2 S)
    (hS : ∀ r ∈ M, ∀ j ∈ S, 0 ≤ j ∧ j < r.length) :
    Calls Tryz.prog 59 #[.slice a n cap, .slice a2 k2 cap2] w fun e w' => ∃ v, e = .returned v ∧ TabD w' w.heap.size v (colsF M S) ∧ Below w.heap.size w w' := by
  have HN := hid hn
  have HH := hid H
  have HK2 := hid hk2
  have HH2 := hid H2
  have HS := hid hS
  have HCT := hid (fun (k : Nat) (hk : k < M.length) => colsF_take (M := M) (S := S) hk)
  have HCL := hid (colsF_len M S)
  obtain ⟨C, hC⟩ : ∃ C, C = colsF M S := ⟨_, rfl⟩
  rw [← hC] at HCT HCL ⊢
  clear hn H hk2 H2 hS hC
  go_enter Tryz.func59, Tryz.ntmps59
  go_wp2
  go_loopw [5, 13] (fun v i wr => ∃ k : Nat, k ≤ n ∧ i = .int .i64 k ∧ TabD wr w.heap.size v (C.take k) ∧ Below w.heap.size w wr) (fun _ i _ => n - (intOf i).toNat)
  case atStart => exact ⟨0, Nat.zero_le _, rfl, TabD.nil _ _, Below.refl _ _⟩
  case round =>
    obtain ⟨k, hk, rfl, ho, hbk⟩ := hrel
    obtain ⟨wo, hwo⟩ : ∃ wo, wo = wr := ⟨_, rfl⟩
    subst hwo
    by_cases hlt : k < n
    · have hkM : k < M.length := by rw [HN.out]; exact hlt
      obtain ⟨b, off, ra, rn, rc, rfl, hbs, hq0, hrn, hrm, hri⟩ := (HH.out.below hbk) k hkM
      have htk := HCT.out k hkM
      have hsr := HS.out M[k] (List.getElem_mem hkM)
      obtain ⟨r, hr⟩ : ∃ r, r = M[k] := ⟨_, rfl⟩
      rw [← hr] at htk hsr hrn hri
      have hlen : (C.take k).length = k := by rw [List.length_take, HCL.out]; omega
      have HL := hid hlen
      have HTK := hid htk
      have HSR := hid hsr
      have HRN := hid hrn
      have HRI := hid hri
      have HO := hid ho
      have HBK := hid hbk
      obtain ⟨va, vc, hv⟩ : ∃ va vc, u5 = .slice va k vc := by
        obtain ⟨_, ho1, _⟩ := ho
        obtain ⟨a', c', e⟩ := ownsRow_slice ho1
        exact ⟨a', c', by rw [e, hlen]⟩
      subst hv
      have M0 := World.ownsRow_made (base := wo.heap.size) (e := 3) (size := 1) wo #[] 0 (Nat.le_refl _) (Nat.zero_le _) rfl
      have HM0 := hid M0
      clear hr htk hsr hrn hri hkM ho hlen M0
      go_wp2
      go_loopw [8, 20] (fun v i wr => ∃ t : Nat, t ≤ k2 ∧ i = .int .i64 t ∧ wr.ownsRow wo.heap.size 3 1 v t (((S.take t).map (fun j => vec r j.toNat)).map (Value.int .i64)) ∧ Below wo.heap.size wo wr) (fun _ i _ => k2 - (intOf i).toNat)
      case atStart => exact ⟨0, Nat.zero_le _, rfl, HM0.out, (Below.refl _ _).alloc (Nat.le_refl _) _⟩
      case round =>
        obtain ⟨t, ht, rfl, hown, hbt⟩ := hrel
        by_cases hlt2 : t < k2
        · have htS : t < S.length := by rw [HK2.out]; exact hlt2
          obtain ⟨b2, off2, rfl, hbs2, hc2⟩ := (HH2.out.below (chain HBK.out hbt)) t htS
          have hpp := HSR.out S[t] (List.getElem_mem htS)
          have hg2 : S[t]?.getD 0 = S[t] := by rw [List.getElem?_eq_getElem htS]; rfl
          rw [hg2] at hc2
          have htk2 : (S.take (t + 1)).map (fun j => vec r j.toNat) = (S.take t).map (fun j => vec r j.toNat) ++ [vec r (S[t]).toNat] := by
            rw [List.take_succ_eq_append_getElem htS, List.map_append]; rfl
          obtain ⟨q, hq⟩ : ∃ q : Nat, S[t] = q := ⟨(S[t]).toNat, by omega⟩
          rw [hq] at hc2 hpp htk2
          rw [show ((q : Int)).toNat = q by omega] at htk2
          have hqr : q < r.length := by omega
          obtain ⟨b3, off3, rfl, hbs3, hc3⟩ := (HRI.out.below hbt) q hqr
          have hqn : (q : Int) < (rn : Int) := by have := HRN.out; omega
          have hq0' : (0 : Int) ≤ (q : Int) := by omega
          obtain ⟨x, hx⟩ : ∃ x, x = r[q]?.getD 0 := ⟨_, rfl⟩
          have hxv : vec r q = x := hx.symm
          rw [← hx] at hc3
          rw [hxv] at htk2
          obtain ⟨la, lc, rfl⟩ := ownsRow_slice hown
          have HTK2 := hid htk2
          have HOW := hid hown
          have M1 := hid (show t + 1 ≤ maxLen by unfold maxLen; omega)
          have M2 := hid (show (t + 1) * 8 ≤ 140737488355328 by omega)
          have M3 := hid (Nat.le_trans hbt.size (le_alloc wr (.cells #[.int .i64 x] 3)))
          clear hpp hg2 htk2 hq hx hxv hown htS hqr
          go_wp2_with (at_builtin; refine wpList_app _ rfl (.tmp 24) (.tmp 29) 24 rfl wo.heap.size 3 (.int .i64 0) 1 8 Tryz.underlying24 li_int rfl Nat.one_pos (.slice la t lc) t _ rfl (HOW.out.alloc _) (some ⟨wr.heap.size, 0, none⟩) 1 1 [.int .i64 x] rfl rfl no_none (one_news wr _ _) (li_one _) M1.out M2.out M3.out ?_; refine Stop.of ?_)
          refine Stop.go ?_
          intro a3 c3 w3 own3 g3
          have hB3 : Below wo.heap.size wo w3 := (hbt.alloc hbt.size _).grown g3 M3.out (fun k hk => (HOW.out.lt k hk).1)
          go_wp2
          refine ⟨⟨t + 1, by omega, by go_num, ?_, hB3⟩, by simp [intOf]; omega⟩
          rw [HTK2.out]
          simpa using own3
        · obtain rfl : t = k2 := by omega
          rw [List.take_of_length_le (by rw [HK2.out]; exact Nat.le_refl _)] at hown
          obtain ⟨X, hX⟩ : ∃ X, X = S.map (fun j => vec r j.toNat) := ⟨_, rfl⟩
          rw [← hX] at hown HTK
          have hXl : X.length = t := by rw [hX, List.length_map, HK2.out]
          obtain ⟨la, lc, rfl⟩ := ownsRow_slice hown
          have hrs : OwnR wr wo.heap.size (.slice la t lc) X := by unfold OwnR; rw [hXl]; exact hown
          obtain ⟨vs, ho1, ho2, ho3⟩ := HO.out
          have ho1' := ho1
          rw [HL.out] at ho1'
          have hb2a : Below wo.heap.size wo (wr.alloc (.cells #[.slice la t lc] 24)) := hbt.alloc hbt.size _
          have M1 := hid (show k + 1 ≤ maxLen by unfold maxLen; omega)
          have M2 := hid (show (k + 1) * 24 ≤ 140737488355328 by omega)
          have M3 := hid (Nat.le_trans HBK.out.size hb2a.size)
          have HO2' := hid (own_below ho1' hb2a)
          have HO1 := hid ho1
          have HO2 := hid ho2
          have HO3 := hid ho3
          have HRS := hid (hrs.below ((Below.refl _ wr).alloc (Nat.le_refl _) (.cells #[.slice la t lc] 24)))
          have HB2' := hid hb2a
          clear hX hXl hown hrs ho1 ho1' ho2 ho3 hb2a hbt
          go_wp2_with (at_builtin; refine wpList_app _ rfl (.tmp 32) (.tmp 34) 22 rfl w.heap.size 24 (.slice none 0 0) 1 24 Tryz.underlying22 li_ints rfl Nat.one_pos (.slice va k vc) k vs rfl HO2'.out (some ⟨wr.heap.size, 0, none⟩) 1 1 [.slice la t lc] rfl rfl no_none (one_news wr _ _) (slice_oneCell _ _ _) M1.out M2.out M3.out ?_; refine Stop.of ?_)
          refine Stop.go ?_
          intro a5 c5 w5 own5 g5
          have hsn : TabD w5 w.heap.size (.slice a5 (k + 1) c5) (C.take k ++ [X]) := TabD.snoc HO1.out HO2.out HO3.out HB2'.out HBK.out.size HRS.out g5 (by rw [HL.out]; exact own5)
          have hB5 : Below w.heap.size w w5 := (HBK.out.trans (HB2'.out.mono HBK.out.size)).grown g5 M3.out (fun q hq => (HO2'.out.lt q hq).1)
          rw [← HTK.out] at hsn
          go_wp2
          exact ⟨⟨k + 1, by omega, by go_num, hsn, hB5⟩, by simp [intOf]; omega⟩
    · obtain rfl : k = n := by omega
      rw [List.take_of_length_le (by rw [HCL.out, HN.out]; exact Nat.le_refl _)] at ho
      go_wp2
      go_ret
      exact ⟨_, rfl, ho, hbk⟩
end

section
open Go.RowKit
set_option linter.unusedVariables false

def RatBlk (w : World) (g : Nat) (l : List Rt) : Prop := w.heap[g]? = some (.cells (ratVals l).toArray 57 (0, 0))
theorem RatBlk.lt {w : World} {g : Nat} {l : List Rt} (h : RatBlk w g l) : g < w.heap.size := (Array.getElem?_eq_some_iff.1 h).1
theorem RatBlk.keep {w w' : World} {g : Nat} {l : List Rt} (h : RatBlk w g l) (hk : w'.heap[g]? = w.heap[g]?) : RatBlk w' g l := hk.trans h
theorem RatBlk.cells {w : World} {g : Nat} {l : List Rt} (h : RatBlk w g l) {k : Nat} (hk : k < l.length) : w.cell? ⟨g, k * 2, none⟩ = some (.int .i64 l[k].1) ∧ w.cell? ⟨g, k * 2 + 1, none⟩ = some (.int .i64 l[k].2) ∧ ∀ o, w.frozen? ⟨g, o, none⟩ = false := by
  unfold RatBlk at h
  refine ⟨?_, ?_, fun o => by simp [World.frozen?, h]⟩
  · have := ratVals_at l k 0 hk (by omega)
    simp [World.cell?, h]; rw [Nat.add_zero] at this; rw [this]; rfl
  · have := ratVals_at l k 1 hk (by omega)
    simp [World.cell?, h]; rw [this]; rfl
theorem ratVals_set : ∀ (l : List Rt) (k : Nat) (p q : Int), k < l.length → ((ratVals l).set (k * 2) (.int .i64 p)).set (k * 2 + 1) (.int .i64 q) = ratVals (l.set k (p, q))
  | x :: l, 0, p, q, _ => by simp [ratVals, ratCells]
  | x :: l, k + 1, p, q, h => by
    have ih := ratVals_set l k p q (by simpa using h)
    have e : ratVals (x :: l) = .int .i64 x.1 :: .int .i64 x.2 :: ratVals l := rfl
    rw [e, show (k + 1) * 2 = (k * 2 + 1) + 1 by omega]
    simp only [List.set_cons_succ]
    rw [ih]; rfl
theorem RatBlk.set {w : World} {g : Nat} {l : List Rt} (h : RatBlk w g l) {k : Nat} (hk : k < l.length) (p q : Int) : RatBlk ((w.setCell ⟨g, k * 2, none⟩ (.int .i64 p)).setCell ⟨g, k * 2 + 1, none⟩ (.int .i64 q)) g (l.set k (p, q)) := by
  unfold RatBlk
  rw [cells_set (cells_set h (k * 2) (.int .i64 p)) (k * 2 + 1) (.int .i64 q), ← ratVals_set l k p q hk]
  congr 2
  apply Array.toList_inj.1
  simp
theorem RatBlk.own {w : World} {base g n : Nat} {l : List Rt} (h : RatBlk w g l) (hl : l.length = n) (hn : n ≤ maxLen) (hb : base ≤ g) : RatsO w base (.slice (some ⟨g, 0, none⟩) n n) l := by
  subst hl
  refine ⟨ratVals_length l, .inr ⟨g, _, _, rfl, hb, h, Nat.le_refl _, hn, by simp [ratVals_length], ?_⟩⟩
  rw [← ratVals_length l]; simp
theorem ratVals_rep (n : Nat) : ratVals (List.replicate n (0, 0)) = List.replicate (n * 2) (.int .i64 0) := by
  induction n with
  | zero => rfl
  | succ n ih =>
    rw [List.replicate_succ, show (n + 1) * 2 = n * 2 + 1 + 1 by omega, List.replicate_succ, List.replicate_succ, ← ih]; rfl
theorem made_rat (w : World) (n : Nat) : RatBlk (w.alloc (.cells (madeCells #[.int .i64 0, .int .i64 0] (n * 2)) 57)) w.heap.size (List.replicate n (0, 0)) := by
  have e : madeCells #[Value.int .i64 0, .int .i64 0] (n * 2) = (ratVals (List.replicate n (0, 0))).toArray := by
    rw [ratVals_rep]
    apply Array.ext
    · simp [size_madeCells]
    · intro i h1 h2
      have : i % 2 = 0 ∨ i % 2 = 1 := by omega
      rcases this with h | h <;> simp [madeCells, h]
  unfold RatBlk
  rw [World.alloc_heap_new, e]
theorem run_make_rat (n : Nat) (hn : n ≤ 1000) (w : World) : (Instr.makeSlice 31 (.int .i64 (n : Int)) (.int .i64 (n : Int))).run Tryz.prog w = .ok (.slice (some ⟨w.heap.size, 0, none⟩) n n) (w.alloc (.cells (madeCells #[.int .i64 0, .int .i64 0] (n * 2)) 57)) := by
  obtain ⟨i, hi, hz0, hz1, hz2⟩ := info_parts info_ratio
  have := run_makeSlice w 31 57 i _ Tryz.underlying31 hi hz0 .i64 .i64 (n : Int) (n : Int) (by omega) (by omega) (by rw [hz1]; omega) (by rw [hz2]; omega) (by omega)
  rw [this, hz1]; rfl

def addY (L : List (List Int)) (y : List Int) (k : Nat) : List (List Int) := withY (L.take k) (y.take k) ++ L.drop k
theorem addY_zero (L : List (List Int)) (y : List Int) : addY L y 0 = L := by simp [addY, withY]
theorem addY_all {L : List (List Int)} {y : List Int} {n : Nat} (h1 : L.length = n) (h2 : y.length = n) : addY L y n = withY L y := by
  unfold addY; rw [List.take_of_length_le (by omega), List.take_of_length_le (by omega), List.drop_of_length_le (by omega), List.append_nil]
theorem addY_len {L : List (List Int)} {y : List Int} {n k : Nat} (h1 : L.length = n) (h2 : y.length = n) (hk : k ≤ n) : (addY L y k).length = n := by
  unfold addY withY; simp; omega
theorem addY_get {L : List (List Int)} {y : List Int} {n k : Nat} (h1 : L.length = n) (h2 : y.length = n) (hk : k < n) : (addY L y k)[k]?.getD [] = L[k]?.getD [] := by
  unfold addY withY
  rw [List.getElem?_append_right (by simp; omega)]
  simp
  rw [show k - min k (min L.length (min k y.length)) = 0 by omega, Nat.add_zero]
theorem addY_succ {L : List (List Int)} {y : List Int} {n k : Nat} (h1 : L.length = n) (h2 : y.length = n) (hk : k < n) : addY L y (k + 1) = (addY L y k).set k (L[k]?.getD [] ++ [y[k]?.getD 0]) := by
  have hkL : k < L.length := by omega
  have hky : k < y.length := by omega
  unfold addY withY
  rw [List.take_succ_eq_append_getElem hkL, List.take_succ_eq_append_getElem hky, List.zipWith_append (by simp; omega)]
  rw [List.set_append_right _ _ (by simp; omega), List.drop_eq_getElem_cons hkL]
  simp [hkL, hky]
  rw [show k - min k (min L.length (min k y.length)) = 0 by omega, List.drop_eq_getElem_cons hkL]
  rfl
end
end

section
section
open Go.RowKit
set_option linter.unusedVariables false

set_option maxRecDepth 100000 in
set_option maxHeartbeats 4000000 in
theorem r3solved_c (w : World) (a a2 a3 : Option Addr) (n cap n2 cap2 cap3 : Nat) (M : Mask) (l y : List Int) (hn : M.length = n) (hn2 : l.length = n2) (hn3 : y.length = n) (H : RowsAt w a M) (H2 : IntsAt w a2 l) (H3 : IntsAt w a3 y)
    (hok : okM M = true) (hmil : milB y = true) (hso : SetOk (colsM M) l) :
    Calls Tryz.prog 26 #[.slice a n cap, .slice a2 n2 cap2, .slice a3 n cap3] w fun e w' => ∃ v base, e = .returned (.tuple #[v, .int .i64 (solvedR (withY (colsF M l) y) n2).2.1, .bool (solvedR (withY (colsF M l) y) n2).2.2]) ∧ w.heap.size ≤ base ∧ RatsO w' base v (solvedR (withY (colsF M l) y) n2).1 ∧ Below w.heap.size w w' := by
  obtain ⟨hM, h1, h6, hc1, hc10⟩ := okM_ok hok
  have hl10 := set_le hso
  have hn6 : n ≤ 6 := by omega
  have hn1 : 1 ≤ n := by omega
  have hn210 : n2 ≤ 10 := by omega
  have hS : ∀ r ∈ M, ∀ j ∈ l, 0 ≤ j ∧ j < r.length := fun r hr j hj => by rw [hM.wid r hr]; exact hso.2 j hj
  have HCl := hid (r3columnsD_c w a n cap M hn (by omega) H a2 n2 cap2 l hn2 (by omega) H2 hS)
  have hMC : MaskOk (colsF M l) n2 := by rw [← hn2]; exact hM.cols l
  have hB6 := mil_bnd6 hmil
  have hY := hMC.addY (y := y) (by rw [colsF_len]; omega) (Y := 1000000) (by omega) hB6
  have hCl : (colsF M l).length = n := by rw [colsF_len, hn]
  have hClw := hMC.wid
  obtain ⟨L0, hL0⟩ : ∃ L0, L0 = colsF M l := ⟨_, rfl⟩
  rw [← hL0] at HCl hY hCl hClw ⊢
  have hAll := addY_all hCl hn3
  have hCn : (withY L0 y).length = n := by rw [withY_len (by omega), hCl]
  have HAG := hid (fun k (hk : k < n) => addY_get (k := k) hCl hn3 hk)
  have HAS := hid (fun k (hk : k < n) => addY_succ (k := k) hCl hn3 hk)
  have HAL := hid (fun k (hk : k ≤ n) => addY_len (k := k) hCl hn3 hk)
  have HA0 := hid (addY_zero L0 y)
  obtain ⟨C, hC⟩ : ∃ C, C = withY L0 y := ⟨_, rfl⟩
  rw [← hC] at hY hAll hCn ⊢
  have hle : ∀ t, t ≤ n2 + 1 → ∀ r ∈ (rRed C t).done ++ (rRed C t).left, r.length = n2 + 1 ∧ BndL 1073741824 r := fun t ht r hr => by
    have h0 : ∀ t, t ≤ n2 → ∀ r ∈ (rRed C t).done ++ (rRed C t).left, ∀ x ∈ r, -((720 * 1000000 : Nat) : Int) ≤ x ∧ x ≤ ((720 * 1000000 : Nat) : Int) := fun t ht r hr => (rRed_le hY.wid hY.le6 hY.one hY.all ht r hr).2
    refine ⟨(rRed_inv C hY.wid t).1.wid r hr, ?_⟩
    rcases Nat.lt_or_ge n2 t with h | h
    · obtain rfl : t = n2 + 1 := by omega
      intro x hx
      have := rRed_le1 hY.wid (h0 n2 (Nat.le_refl _)) r hr x hx
      omega
    · intro x hx
      have := h0 t h r hr x hx
      omega
  have HRd := hid (fun (X : World) (a5 : Option Addr) (c5 : Nat) (hR : RowsAt X a5 C) => r3reduced_c X a5 n c5 C (n2 + 1) hCn (by omega) hR hY.wid (by omega) (fun r hr x hx => by have := hY.all r hr x hx; omega)
    hle (fun t => by rw [(ref_lens hY.wid t).1, hCn]) (fun t => (ref_lens hY.wid t).2))
  have hinv := (rRed_inv C hY.wid (n2 + 1)).1
  have hdp : (rRed C (n2 + 1)).piv.length = (rRed C (n2 + 1)).done.length := (ref_lens hY.wid (n2 + 1)).2
  have hDw : ∀ r ∈ (rRed C (n2 + 1)).done, r.length = n2 + 1 := fun r hr => (hle _ (Nat.le_refl _) r (List.mem_append_left _ hr)).1
  have hDb : ∀ r ∈ (rRed C (n2 + 1)).done, BndL 1073741824 r := fun r hr => (hle _ (Nat.le_refl _) r (List.mem_append_left _ hr)).2
  have hKn : (rRed C (n2 + 1)).piv.length ≤ n := by have := (ref_lens hY.wid (n2 + 1)).1; omega
  have hJlt : ∀ k, k < (rRed C (n2 + 1)).piv.length → jf (rRed C (n2 + 1)).piv k < n2 + 1 := fun k hk => by
    unfold jf; rw [List.getElem?_eq_getElem hk]; exact hinv.lt _ (List.getElem_mem hk)
  have hJpos : ∀ k, k < (rRed C (n2 + 1)).piv.length → 0 < vec ((rRed C (n2 + 1)).done[k]?.getD []) (jf (rRed C (n2 + 1)).piv k) := fun k hk => by
    have := (hinv.pp k hk).2
    unfold rowv at this
    rw [List.getElem?_append_left (by omega)] at this
    exact this
  have HSV := hid (show solvedR C n2 = if n2 ∈ (rRed C (n2 + 1)).piv then ([], 0, false) else ((List.range (rRed C (n2 + 1)).piv.length).foldl (fun out i => out.set (jf (rRed C (n2 + 1)).piv i) (ratioF (vec ((rRed C (n2 + 1)).done[i]?.getD []) n2) (vec ((rRed C (n2 + 1)).done[i]?.getD []) (jf (rRed C (n2 + 1)).piv i)))) (List.replicate n2 (0, 1)), (n2 : Int) - (rRed C (n2 + 1)).piv.length, true) from rfl)
  obtain ⟨SV, hSV⟩ : ∃ SV, SV = solvedR C n2 := ⟨_, rfl⟩
  rw [← hSV] at HSV ⊢
  obtain ⟨D, hD⟩ : ∃ D, D = (rRed C (n2 + 1)).done := ⟨_, rfl⟩
  obtain ⟨J, hJ⟩ : ∃ J, J = (rRed C (n2 + 1)).piv := ⟨_, rfl⟩
  rw [← hD] at HRd hdp hDw hDb hJpos HSV
  rw [← hJ] at HRd hdp hJpos HSV hKn hJlt
  obtain ⟨K, hK⟩ : ∃ K, K = J.length := ⟨_, rfl⟩
  rw [← hK] at HRd hdp hJpos HSV hKn hJlt
  have HKJ := hid hK
  have HDL := hid (show D.length = K from hdp.symm)
  have HDW := hid hDw
  have HDB := hid hDb
  have HJLT := hid hJlt
  have HJPOS := hid hJpos
  have HALL := hid hAll
  have HN3 := hid hn3
  have HH3 := hid H3
  have HCW := hid hClw
  have HCL := hid hCl
  have HYW := hid hY.wid
  clear hSV hD hJ hK hdp hDw hDb hJlt hJpos hAll hn3 H3 hClw hle hinv hC hL0 hY hMC hB6 hS hCn hCl H H2 hn hn2 hso hmil hok hM h1 h6 hc1 hc10 hl10
  go_enter Tryz.func26, Tryz.ntmps26
  go_wp2_with (go_at_call 59; refine HCl.out.mono ?_; rintro e w1 ⟨v1, rfl, hT1, hb1⟩; refine Stop.of ?_)
  refine Stop.go ?_
  have hv1 : ∃ g1 c1, v1 = .slice (some ⟨g1, 0, none⟩) n c1 := by
    obtain ⟨g1, c1, _, e, _⟩ := hT1.at HCL.out (i := 0) (by omega)
    exact ⟨g1, c1, e⟩
  obtain ⟨g1, c1, rfl⟩ := hv1
  have HT1 := hid hT1
  have HB1 := hid hb1
  clear hT1 hb1 HCl
  go_wp2
  go_loopw [22] (fun i wr => ∃ k : Nat, k ≤ n ∧ i = .int .i64 k ∧ TabD wr w.heap.size (.slice (some ⟨g1, 0, none⟩) n c1) (addY L0 y k) ∧ Below w.heap.size w wr) (fun i _ => n - (intOf i).toNat)
  case atStart => exact ⟨0, Nat.zero_le _, rfl, by rw [HA0.out]; exact HT1.out, HB1.out⟩
  case round =>
    obtain ⟨k, hk, rfl, hT, hbk⟩ := hrel
    by_cases hlt : k < n
    · obtain ⟨g0, cap0, u, e, hbg, hg0, hcu, hou, hfu, hune, hset⟩ := hT.at (HAL.out k hk) hlt
      cases e
      rw [HAG.out k hlt] at hou
      obtain ⟨yb, yo, rfl, hys, hyc⟩ := HH3.out k (by rw [HN3.out]; exact hlt)
      have hasu := HAS.out k hlt
      obtain ⟨x, hx⟩ : ∃ x, x = y[k]?.getD 0 := ⟨_, rfl⟩
      rw [← hx] at hyc hasu
      have hrl : (L0[k]?.getD []).length = n2 := by
        rw [List.getElem?_eq_getElem (by rw [HCL.out]; exact hlt)]; exact HCW.out _ (List.getElem_mem _)
      obtain ⟨r, hr⟩ : ∃ r, r = L0[k]?.getD [] := ⟨_, rfl⟩
      rw [← hr] at hou hasu hrl
      unfold OwnR at hou
      rw [hrl] at hou
      obtain ⟨ua, uc, rfl⟩ := ownsRow_slice hou
      have HOU := hid hou
      have HUN := hid hune
      have HSET := hid hset
      have HAU := hid hasu
      have HBK := hid hbk
      have HRL := hid hrl
      have hg0 := hg0
      have HSU := hid (hou.lt)
      have HS := hid (fun (X : World) (hX : Below wr.heap.size wr X) => show X.cell? ⟨g1, k, none⟩ = some (.slice ua n2 uc) ∧ X.cell? ⟨yb, yo + k, none⟩ = some (.int .i64 x) from
        ⟨(hX.cell (p := ⟨g1, k, none⟩) hg0).trans hcu, (hX.cell (p := ⟨yb, yo + k, none⟩) (Nat.lt_of_lt_of_le hys hbk.size)).trans ((hbk.cell (p := ⟨yb, yo + k, none⟩) hys).trans hyc)⟩)
      have i1 : (k : Int) < (n : Int) := by omega
      have M1 := hid (show n2 + 1 ≤ maxLen by unfold maxLen; omega)
      have M2 := hid (show (n2 + 1) * 8 ≤ 140737488355328 by omega)
      clear hou hune hset hasu hbk hrl hx hr hyc hcu hT
      go_wp2
      refine plain_region (fun j' X => decide (j' ≤ 11) = true → X.cell? ⟨g1, k, none⟩ = some (.slice ua n2 uc) ∧ X.cell? ⟨yb, yo + k, none⟩ = some (.int .i64 x)) (by kernel_rfl) ?_
      have hbd : Below wr.heap.size wr wr.drew := (Below.refl _ _).drew
      have HO2 := hid (own_below HOU.out ((Below.refl _ wr).drew))
      have HB3 := hid hbd
      generalize wr.drew = wd at hbd HO2 HB3 ⊢
      refine AnyT.takeD (i := 0) (v := .slice (some ⟨g1, 0, none⟩) n c1) rfl rfl (by kernel_rfl) (by kernel_rfl) (by kernel_rfl) (by first | exact (fun _ _ _ h => h) | exact (fun _ _ _ h => absurd h.1 (by simp))) (by kernel_rfl) (by rfl) (by rintro w' ⟨y1, y2⟩; go_simp) (HS.out _ hbd) ?_; go_frame
      refine AnyT.takeD (i := 1) (v := .int .i64 k) rfl rfl (by kernel_rfl) (by kernel_rfl) (by kernel_rfl) (by first | exact (fun _ _ _ h => h) | exact (fun _ _ _ h => absurd h.1 (by simp))) (by kernel_rfl) (by rfl) (by rintro w' ⟨y1, y2⟩; go_simp) (HS.out _ hbd) ?_; go_frame
      refine AnyT.takeD (i := 2) (v := .slice (some ⟨g1, 0, none⟩) n c1) rfl rfl (by kernel_rfl) (by kernel_rfl) (by kernel_rfl) (by first | exact (fun _ _ _ h => h) | exact (fun _ _ _ h => absurd h.1 (by simp))) (by kernel_rfl) (by rfl) (by rintro w' ⟨y1, y2⟩; go_simp) (HS.out _ hbd) ?_; go_frame
      refine AnyT.takeD (i := 3) (v := .int .i64 k) rfl rfl (by kernel_rfl) (by kernel_rfl) (by kernel_rfl) (by first | exact (fun _ _ _ h => h) | exact (fun _ _ _ h => absurd h.1 (by simp))) (by kernel_rfl) (by rfl) (by rintro w' ⟨y1, y2⟩; go_simp) (HS.out _ hbd) ?_; go_frame
      refine AnyT.takeD (i := 4) (v := .pointer (some ⟨g1, k, none⟩)) rfl rfl (by kernel_rfl) (by kernel_rfl) (by kernel_rfl) (by first | exact (fun _ _ _ h => h) | exact (fun _ _ _ h => absurd h.1 (by simp))) (by kernel_rfl) (by rfl) (by rintro w' ⟨y1, y2⟩; go_simp) (HS.out _ hbd) ?_; go_frame
      refine AnyT.takeD (i := 5) (v := .slice ua n2 uc) rfl rfl (by kernel_rfl) (by kernel_rfl) (by kernel_rfl) (by first | exact (fun _ _ _ h => h) | exact (fun _ _ _ h => absurd h.1 (by simp))) (by kernel_rfl) (by rfl) (by rintro w' ⟨y1, y2⟩; go_simp) (HS.out _ hbd) ?_; go_frame
      refine AnyT.takeD (i := 6) (v := .slice (some ⟨yb, yo, none⟩) n cap3) rfl rfl (by kernel_rfl) (by kernel_rfl) (by kernel_rfl) (by first | exact (fun _ _ _ h => h) | exact (fun _ _ _ h => absurd h.1 (by simp))) (by kernel_rfl) (by rfl) (by rintro w' ⟨y1, y2⟩; go_simp) (HS.out _ hbd) ?_; go_frame
      refine AnyT.takeD (i := 7) (v := .int .i64 k) rfl rfl (by kernel_rfl) (by kernel_rfl) (by kernel_rfl) (by first | exact (fun _ _ _ h => h) | exact (fun _ _ _ h => absurd h.1 (by simp))) (by kernel_rfl) (by rfl) (by rintro w' ⟨y1, y2⟩; go_simp) (HS.out _ hbd) ?_; go_frame
      refine AnyT.takeD (i := 8) (v := .pointer (some ⟨yb, yo + k, none⟩)) rfl rfl (by kernel_rfl) (by kernel_rfl) (by kernel_rfl) (by first | exact (fun _ _ _ h => h) | exact (fun _ _ _ h => absurd h.1 (by simp))) (by kernel_rfl) (by rfl) (by rintro w' ⟨y1, y2⟩; go_simp) (HS.out _ hbd) ?_; go_frame
      refine AnyT.takeD (i := 9) (v := .int .i64 x) rfl rfl (by kernel_rfl) (by kernel_rfl) (by kernel_rfl) (by first | exact (fun _ _ _ h => h) | exact (fun _ _ _ h => absurd h.1 (by simp))) (by kernel_rfl) (by rfl) (by rintro w' ⟨y1, y2⟩; go_simp) (HS.out _ hbd) ?_; go_frame
      have hbA : Below wr.heap.size wr (wd.alloc (.cells #[.int .i64 x] 3)) := HB3.out.alloc HB3.out.size _
      have M3 := hid (Nat.le_trans HBK.out.size hbA.size)
      refine AnyT.next (i := 10) (by kernel_rfl) rfl (wpOp_of_list rfl ?_)
      go_wp2
      refine ⟨fun _ => HS.out _ hbA, ?_⟩
      refine AnyT.next (i := 11) (by kernel_rfl) rfl (wpOp_of_list rfl ?_)
      refine wpList_app_at _ rfl (.tmp 30) (.tmp 35) 24 rfl w.heap.size 3 (.int .i64 0) 1 8 Tryz.underlying24 li_int rfl Nat.one_pos (.slice ua n2 uc) n2 _ rfl (HO2.out.alloc _) ⟨wd.heap.size, 0, none⟩ 1 1 [.int .i64 x] rfl rfl (one_news wd _ _ _ rfl) (li_one _) M1.out M2.out M3.out ?_
      intro a5 c5 w5 own5 g5 hat
      have hD5 : TabD (w5.setCell ⟨g1, k, none⟩ (.slice a5 (n2 + 1) c5)) w.heap.size (.slice (some ⟨g1, 0, none⟩) n c1) (addY L0 y (k + 1)) := by
        rw [HAU.out]
        exact HSET.out _ w5 _ (r ++ [x]) hbA g5 (by unfold OwnR; simpa [HRL.out] using own5) hat
      have hb5 : Below w.heap.size w w5 := (HBK.out.trans (hbA.mono HBK.out.size)).grown g5 M3.out (fun q hq => (HSU.out q hq).1)
      have hg5 : w5.heap[g1]? = (wd.alloc (.cells #[.int .i64 x] 3)).heap[g1]? := g5.block g1 (Nat.lt_of_lt_of_le hg0 hbA.size) (fun e => HUN.out g1 e.symm rfl)
      have hy5 : w5.heap[yb]? = (wd.alloc (.cells #[.int .i64 x] 3)).heap[yb]? := g5.block yb (Nat.lt_of_lt_of_le hys M3.out) (fun e => by have := (HSU.out yb e.symm).1; omega)
      have q1 : w5.cell? ⟨g1, k, none⟩ = some (.slice ua n2 uc) := (World.cell?_of_block (a := ⟨g1, k, none⟩) hg5).trans (HS.out _ hbA).1
      have q2 : w5.cell? ⟨yb, yo + k, none⟩ = some (.int .i64 x) := (World.cell?_of_block (a := ⟨yb, yo + k, none⟩) hy5).trans (HS.out _ hbA).2
      have q3 : w5.frozen? ⟨g1, k, none⟩ = false := by
        have h5 : w5.heap[g1]? = wr.heap[g1]? := hg5.trans (hbA.block g1 hg0)
        rw [← hfu]; simp [World.frozen?, h5]
      have q4 : g1 < w5.heap.size := by
        rcases Nat.lt_or_ge g1 w5.heap.size with h | h
        · exact h
        · rw [World.cell?, Array.getElem?_eq_none h] at q1; cases q1
      have hbe : Below w.heap.size w (w5.setCell ⟨g1, k, none⟩ (.slice a5 (n2 + 1) c5)) := below_set hb5 hbg k _
      refine ⟨fun _ => ⟨q1, q2⟩, ?_⟩
      have HD5 := hid hD5
      have HBE := hid hbe
      clear own5 g5 hat hD5 hb5 hg5 hy5 hbe hbA
      refine AnyT.next (i := 12) (by kernel_rfl) rfl (wpOp_of_list rfl ?_)
      go_wp2
      refine ⟨fun h => absurd h (by decide), ?_⟩
      refine AnyT.next (i := 13) (by kernel_rfl) rfl (wpOp_of_list rfl ?_)
      go_wp2
      refine ⟨fun h => absurd h (by decide), ?_⟩
      refine AnyT.done (by kernel_rfl) ?_ _
      go_wp2
      exact ⟨⟨k + 1, by omega, by go_num, HD5.out, HBE.out⟩, by simp [intOf]; omega⟩
    · obtain rfl : k = n := by omega
      rw [HALL.out] at hT
      have hRA := hT.tab.rows (by rw [← HALL.out]; exact HAL.out k (Nat.le_refl _)) (fun r hr => by rw [HYW.out r hr]; unfold maxLen; omega)
      have HR1 := hid (HRd.out wr (some ⟨g1, 0, none⟩) c1 hRA)
      have HBK := hid hbk
      clear hT hRA hbk HRd
      go_wp2_with (go_at_call 60; refine HR1.out.mono ?_; rintro e w3 ⟨vD, vP, rfl, hTD, hTP, hb3⟩; refine Stop.of ?_)
      refine Stop.go ?_
      obtain ⟨dA, dc, rfl⟩ : ∃ a c, vD = .slice a K c := by
        obtain ⟨_, ho, _⟩ := hTD
        obtain ⟨a', c', e⟩ := ownsRow_slice ho
        exact ⟨a', c', by rw [e, HDL.out]⟩
      have HDA := hid (hTD.rows HDL.out (fun r hr => by rw [HDW.out r hr]; unfold maxLen; omega))
      obtain ⟨ja, jc, rfl, hJI, hJm⟩ := ints_of_own hTP (by unfold castL; rw [List.length_map, HKJ.out])
      have HJI := hid hJI
      have HBW := hid (show Below w.heap.size w w3 from HBK.out.trans (hb3.mono HBK.out.size))
      clear hTD hTP hJI hb3 HR1 HBK
      have hmk := run_make_rat n2 (by omega)
      obtain ⟨w7, hw7⟩ : ∃ w7, w7 = w3.alloc (.cells (madeCells #[.int .i64 0, .int .i64 0] (n2 * 2)) 57) := ⟨_, rfl⟩
      obtain ⟨g, hg⟩ : ∃ g, g = w3.heap.size := ⟨_, rfl⟩
      have HRB0 := hid (show RatBlk w7 g (List.replicate n2 (0, 0)) by rw [hw7, hg]; exact made_rat w3 n2)
      have HB7 := hid (show Below g w3 w7 by rw [hw7, hg]; exact (Below.refl _ _).alloc (Nat.le_refl _) _)
      go_wp2_with fail
      rw [← hg, ← hw7]
      have HG := hid hg
      clear hg hw7 hmk
      go_wp2
      go_loopw [49] (fun i wr => ∃ t : Nat, t ≤ n2 ∧ i = .int .i64 t ∧ RatBlk wr g (List.replicate t (0, 1) ++ List.replicate (n2 - t) (0, 0)) ∧ Below w3.heap.size w3 wr) (fun i _ => n2 - (intOf i).toNat)
      case atStart => exact ⟨0, Nat.zero_le _, rfl, by simpa using HRB0.out, by rw [← HG.out]; exact HB7.out⟩
      case round =>
        obtain ⟨t, ht, rfl, hr, hbk⟩ := hrel
        by_cases hlt : t < n2
        · have hlen : (List.replicate t ((0, 1) : Rt) ++ List.replicate (n2 - t) (0, 0)).length = n2 := by simp; omega
          obtain ⟨⟨z0, q0⟩, ⟨z1, q1⟩, f0, f1⟩ : (∃ z, wr.cell? ⟨g, t * 2, none⟩ = some (.int .i64 z)) ∧ (∃ z, wr.cell? ⟨g, t * 2 + 1, none⟩ = some (.int .i64 z)) ∧ wr.frozen? ⟨g, t * 2, none⟩ = false ∧ wr.frozen? ⟨g, t * 2 + 1, none⟩ = false := by
            obtain ⟨q0, q1, q2⟩ := hr.cells (k := t) (by rw [hlen]; exact hlt)
            exact ⟨⟨_, q0⟩, ⟨_, q1⟩, q2 _, q2 _⟩
          have hst := hr.set (k := t) (by rw [hlen]; exact hlt) 0 1
          have e1 : (List.replicate t ((0, 1) : Rt) ++ List.replicate (n2 - t) (0, 0)).set t (0, 1) = List.replicate (t + 1) (0, 1) ++ List.replicate (n2 - (t + 1)) (0, 0) := by
            rw [List.set_append_right _ _ (by simp), show n2 - t = n2 - (t + 1) + 1 by omega, List.replicate_succ (n := n2 - (t + 1)), List.replicate_succ' (n := t)]
            simp
          rw [e1] at hst
          have hbe : Below w3.heap.size w3 ((wr.setCell ⟨g, t * 2, none⟩ (.int .i64 0)).setCell ⟨g, t * 2 + 1, none⟩ (.int .i64 1)) := below_set (below_set hbk (by rw [HG.out]; exact Nat.le_refl _) _ _) (by rw [HG.out]; exact Nat.le_refl _) _ _
          have hgl := hr.lt
          have HST := hid hst
          have HBE := hid hbe
          have i1 : (t : Int) < (n2 : Int) := by omega
          clear hst hbe e1 hlen hr hbk
          go_wp2
          exact ⟨⟨t + 1, by omega, by go_num, HST.out, HBE.out⟩, by simp [intOf]; omega⟩
        · obtain rfl : t = n2 := by omega
          rw [Nat.sub_self, List.replicate_zero, List.append_nil] at hr
          have HR := hid hr
          have HBK := hid hbk
          clear hr hbk
          go_wp2
          obtain ⟨outTo, hOT⟩ : ∃ f : Nat → List Rt, f = fun k => (List.range k).foldl (fun out i => out.set (jf J i) (ratioF (vec (D[i]?.getD []) t) (vec (D[i]?.getD []) (jf J i)))) (List.replicate t (0, 1)) := ⟨_, rfl⟩
          have HO0 := hid (show outTo 0 = List.replicate t (0, 1) by rw [hOT]; rfl)
          have HOS := hid (fun k => show outTo (k + 1) = (outTo k).set (jf J k) (ratioF (vec (D[k]?.getD []) t) (vec (D[k]?.getD []) (jf J k))) by rw [hOT]; simp only []; rw [List.range_succ, List.foldl_append]; rfl)
          have HOE := hid (show SV = if t ∈ J then ([], 0, false) else (outTo K, (t : Int) - K, true) by rw [HSV.out, hOT])
          have HOL := hid (fun k => show (outTo k).length = t by
            induction k with
            | zero => rw [HO0.out]; simp
            | succ k ih => rw [HOS.out k]; simpa using ih)
          clear hOT
          go_loopw [59] (fun i wr => ∃ k : Nat, k ≤ K ∧ i = .int .i64 k ∧ RatBlk wr g (outTo k) ∧ Below w3.heap.size w3 wr ∧ Hid (∀ i, i < k → jf J i ≠ t)) (fun i _ => K - (intOf i).toNat)
          case atStart => exact ⟨0, Nat.zero_le _, rfl, by rw [HO0.out]; exact HR.out, HBK.out, hid (fun i h => by omega)⟩
          case round =>
            obtain ⟨k, hk, rfl, hr, hbk, HNE⟩ := hrel
            by_cases hlt : k < K
            · have hkJ : k < J.length := by rw [← HKJ.out]; exact hlt
              obtain ⟨jb, jo, rfl, hjs, hcj⟩ := HJI.out k (by unfold castL; rw [List.length_map]; exact hkJ)
              have hJk : jf J k = J[k] := by unfold jf; rw [List.getElem?_eq_getElem hkJ]; rfl
              have hcv : (castL J)[k]?.getD 0 = ((jf J k : Nat) : Int) := by rw [hJk]; unfold castL; simp [hkJ]
              rw [hcv] at hcj
              have hjw : wr.cell? ⟨jb, jo + k, none⟩ = some (.int .i64 ((jf J k : Nat) : Int)) := (hbk.cell (p := ⟨jb, jo + k, none⟩) hjs).trans hcj
              have hpl := HJLT.out k hlt
              have hzp := HJPOS.out k hlt
              have hos := HOS.out k
              have hmem : jf J k = t → t ∈ J := fun h => by rw [hJk] at h; rw [← h]; exact List.getElem_mem hkJ
              obtain ⟨p, hp⟩ : ∃ p, p = jf J k := ⟨_, rfl⟩
              rw [← hp] at hjw hpl hzp hos hmem
              have HP := hid hp
              clear hcj hcv hJk hp hkJ
              by_cases hpt : p = t
              · have hse := HOE.out
                rw [if_pos (hmem hpt)] at hse
                subst hse
                subst hpt
                have HBK := hid hbk
                clear hr hbk hpl hzp hos hmem
                have i3 : ((p : Int) == (p : Int)) = true := by simp
                go_wp2
                go_ret3
                exact ⟨.slice none 0 0, rfl, w.heap.size, Nat.le_refl _, RatsO.nil _ _, chain HBW.out HBK.out⟩
              · have hp2 : p < t := by omega
                obtain ⟨db, doff, ra, rn, rc, rfl, hds, hdc, hrn, hrm, hri⟩ := HDA.out k (by rw [HDL.out]; exact hlt)
                have hkD : k < D.length := by rw [HDL.out]; exact hlt
                have hrw : rn = t + 1 := by rw [← hrn]; exact HDW.out _ (List.getElem_mem _)
                have hvx : ∀ c, (D[k])[c]?.getD 0 = vec (D[k]?.getD []) c := fun c => by rw [List.getElem?_eq_getElem hkD]; rfl
                obtain ⟨rb, ro, rfl, hrs, hcx⟩ := hri t (by omega)
                obtain ⟨_, _, e2, _, hcz⟩ := hri p (by omega)
                cases e2
                rw [hvx] at hcx hcz
                have hbx := vec_mem (P := fun x => -((1073741824 : Nat) : Int) ≤ x ∧ x ≤ ((1073741824 : Nat) : Int)) (by omega) (HDB.out _ (List.getElem_mem hkD))
                have hbx1 := hbx t
                have hbx2 := hbx p
                have hRk : D[k]?.getD [] = D[k] := by rw [List.getElem?_eq_getElem hkD]; rfl
                rw [← hRk] at hbx1 hbx2
                have HOf := hid (fun (X : World) => r3ratio_c X (vec (D[k]?.getD []) t) (vec (D[k]?.getD []) p) (by omega) (by omega) (by omega))
                obtain ⟨x, hx⟩ : ∃ x, x = vec (D[k]?.getD []) t := ⟨_, rfl⟩
                obtain ⟨z, hz⟩ : ∃ x, x = vec (D[k]?.getD []) p := ⟨_, rfl⟩
                rw [← hx] at hcx HOf hos
                rw [← hz] at hcz HOf hos
                obtain ⟨Q, hQ⟩ : ∃ Q, Q = ratioF x z := ⟨_, rfl⟩
                rw [← hQ] at HOf hos
                obtain ⟨q1, q2⟩ := Q
                have HOSK := hid hos
                have HOLK := hid (HOL.out k)
                have HNE2 := hid (show ∀ i, i < k + 1 → jf J i ≠ t from fun i hi => by
                  rcases Nat.lt_or_ge i k with h | h
                  · exact HNE.out i h
                  · obtain rfl : i = k := by omega
                    rw [← HP.out]; exact hpt)
                have HR := hid hr
                have HBK := hid hbk
                have HS := hid (fun (X : World) (hX : Below w3.heap.size w3 X) => show X.cell? ⟨db, doff + k, none⟩ = some (.slice (some ⟨rb, ro, none⟩) rn rc) ∧ X.cell? ⟨rb, ro + t, none⟩ = some (.int .i64 x) ∧ X.cell? ⟨rb, ro + p, none⟩ = some (.int .i64 z) from
                  ⟨(hX.cell (p := ⟨db, doff + k, none⟩) hds).trans hdc, (hX.cell (p := ⟨rb, ro + t, none⟩) hrs).trans hcx, (hX.cell (p := ⟨rb, ro + p, none⟩) hrs).trans hcz⟩)
                have i1 : (k : Int) < (K : Int) := by omega
                have i2 : (p : Int) < (rn : Int) := by omega
                have i4 : (t : Int) < (rn : Int) := by omega
                have i5 : (p : Int) < (t : Int) := by omega
                have i3 : ((p : Int) == (t : Int)) = false := by simp; omega
                simp only [ratV] at HOf
                clear hr hbk hzp hos hmem hbx hbx1 hbx2 hRk hx hz hQ hcx hcz hvx hri hrn hrw hdc hpl hpt
                go_wp2
                refine plain_region (fun j' X => wAll j' = true → X.cell? ⟨db, doff + k, none⟩ = some (.slice (some ⟨rb, ro, none⟩) rn rc) ∧ X.cell? ⟨rb, ro + t, none⟩ = some (.int .i64 x) ∧ X.cell? ⟨rb, ro + p, none⟩ = some (.int .i64 z)) (by kernel_rfl) ?_
                have hbd : Below w3.heap.size w3 wr.drew := HBK.out.drew
                have HR2 := hid (HR.out.keep (w' := wr.drew) rfl)
                generalize wr.drew = wd at hbd HR2 ⊢
                refine AnyT.takeD (i := 0) (v := .slice (some ⟨g, 0, none⟩) t t) rfl rfl (by kernel_rfl) (by kernel_rfl) (by kernel_rfl) (by first | exact (fun _ _ _ h => h) | exact (fun _ _ _ h => absurd h.1 (by simp))) (by kernel_rfl) (by rfl) (by rintro w' ⟨y1, y2, y3⟩; go_simp) (HS.out _ hbd) ?_; go_frame
                refine AnyT.takeD (i := 1) (v := .int .i64 p) rfl rfl (by kernel_rfl) (by kernel_rfl) (by kernel_rfl) (by first | exact (fun _ _ _ h => h) | exact (fun _ _ _ h => absurd h.1 (by simp))) (by kernel_rfl) (by rfl) (by rintro w' ⟨y1, y2, y3⟩; go_simp) (HS.out _ hbd) ?_; go_frame
                refine AnyT.takeD (i := 2) (v := .slice (some ⟨db, doff, none⟩) K dc) rfl rfl (by kernel_rfl) (by kernel_rfl) (by kernel_rfl) (by first | exact (fun _ _ _ h => h) | exact (fun _ _ _ h => absurd h.1 (by simp))) (by kernel_rfl) (by rfl) (by rintro w' ⟨y1, y2, y3⟩; go_simp) (HS.out _ hbd) ?_; go_frame
                refine AnyT.takeD (i := 3) (v := .int .i64 k) rfl rfl (by kernel_rfl) (by kernel_rfl) (by kernel_rfl) (by first | exact (fun _ _ _ h => h) | exact (fun _ _ _ h => absurd h.1 (by simp))) (by kernel_rfl) (by rfl) (by rintro w' ⟨y1, y2, y3⟩; go_simp) (HS.out _ hbd) ?_; go_frame
                refine AnyT.takeD (i := 4) (v := .pointer (some ⟨db, doff + k, none⟩)) rfl rfl (by kernel_rfl) (by kernel_rfl) (by kernel_rfl) (by first | exact (fun _ _ _ h => h) | exact (fun _ _ _ h => absurd h.1 (by simp))) (by kernel_rfl) (by rfl) (by rintro w' ⟨y1, y2, y3⟩; go_simp) (HS.out _ hbd) ?_; go_frame
                refine AnyT.takeD (i := 5) (v := .slice (some ⟨rb, ro, none⟩) rn rc) rfl rfl (by kernel_rfl) (by kernel_rfl) (by kernel_rfl) (by first | exact (fun _ _ _ h => h) | exact (fun _ _ _ h => absurd h.1 (by simp))) (by kernel_rfl) (by rfl) (by rintro w' ⟨y1, y2, y3⟩; go_simp) (HS.out _ hbd) ?_; go_frame
                refine AnyT.takeD (i := 6) (v := .slice a2 t cap2) rfl rfl (by kernel_rfl) (by kernel_rfl) (by kernel_rfl) (by first | exact (fun _ _ _ h => h) | exact (fun _ _ _ h => absurd h.1 (by simp))) (by kernel_rfl) (by rfl) (by rintro w' ⟨y1, y2, y3⟩; go_simp) (HS.out _ hbd) ?_; go_frame
                refine AnyT.takeD (i := 7) (v := .int .i64 t) rfl rfl (by kernel_rfl) (by kernel_rfl) (by kernel_rfl) (by first | exact (fun _ _ _ h => h) | exact (fun _ _ _ h => absurd h.1 (by simp))) (by kernel_rfl) (by rfl) (by rintro w' ⟨y1, y2, y3⟩; go_simp) (HS.out _ hbd) ?_; go_frame
                refine AnyT.takeD (i := 8) (v := .pointer (some ⟨rb, ro + t, none⟩)) rfl rfl (by kernel_rfl) (by kernel_rfl) (by kernel_rfl) (by first | exact (fun _ _ _ h => h) | exact (fun _ _ _ h => absurd h.1 (by simp))) (by kernel_rfl) (by rfl) (by rintro w' ⟨y1, y2, y3⟩; go_simp) (HS.out _ hbd) ?_; go_frame
                refine AnyT.takeD (i := 9) (v := .int .i64 x) rfl rfl (by kernel_rfl) (by kernel_rfl) (by kernel_rfl) (by first | exact (fun _ _ _ h => h) | exact (fun _ _ _ h => absurd h.1 (by simp))) (by kernel_rfl) (by rfl) (by rintro w' ⟨y1, y2, y3⟩; go_simp) (HS.out _ hbd) ?_; go_frame
                refine AnyT.takeD (i := 10) (v := .slice (some ⟨db, doff, none⟩) K dc) rfl rfl (by kernel_rfl) (by kernel_rfl) (by kernel_rfl) (by first | exact (fun _ _ _ h => h) | exact (fun _ _ _ h => absurd h.1 (by simp))) (by kernel_rfl) (by rfl) (by rintro w' ⟨y1, y2, y3⟩; go_simp) (HS.out _ hbd) ?_; go_frame
                refine AnyT.takeD (i := 11) (v := .int .i64 k) rfl rfl (by kernel_rfl) (by kernel_rfl) (by kernel_rfl) (by first | exact (fun _ _ _ h => h) | exact (fun _ _ _ h => absurd h.1 (by simp))) (by kernel_rfl) (by rfl) (by rintro w' ⟨y1, y2, y3⟩; go_simp) (HS.out _ hbd) ?_; go_frame
                refine AnyT.takeD (i := 12) (v := .pointer (some ⟨db, doff + k, none⟩)) rfl rfl (by kernel_rfl) (by kernel_rfl) (by kernel_rfl) (by first | exact (fun _ _ _ h => h) | exact (fun _ _ _ h => absurd h.1 (by simp))) (by kernel_rfl) (by rfl) (by rintro w' ⟨y1, y2, y3⟩; go_simp) (HS.out _ hbd) ?_; go_frame
                refine AnyT.takeD (i := 13) (v := .slice (some ⟨rb, ro, none⟩) rn rc) rfl rfl (by kernel_rfl) (by kernel_rfl) (by kernel_rfl) (by first | exact (fun _ _ _ h => h) | exact (fun _ _ _ h => absurd h.1 (by simp))) (by kernel_rfl) (by rfl) (by rintro w' ⟨y1, y2, y3⟩; go_simp) (HS.out _ hbd) ?_; go_frame
                refine AnyT.takeD (i := 14) (v := .int .i64 p) rfl rfl (by kernel_rfl) (by kernel_rfl) (by kernel_rfl) (by first | exact (fun _ _ _ h => h) | exact (fun _ _ _ h => absurd h.1 (by simp))) (by kernel_rfl) (by rfl) (by rintro w' ⟨y1, y2, y3⟩; go_simp) (HS.out _ hbd) ?_; go_frame
                refine AnyT.takeD (i := 15) (v := .pointer (some ⟨rb, ro + p, none⟩)) rfl rfl (by kernel_rfl) (by kernel_rfl) (by kernel_rfl) (by first | exact (fun _ _ _ h => h) | exact (fun _ _ _ h => absurd h.1 (by simp))) (by kernel_rfl) (by rfl) (by rintro w' ⟨y1, y2, y3⟩; go_simp) (HS.out _ hbd) ?_; go_frame
                refine AnyT.takeD (i := 16) (v := .int .i64 z) rfl rfl (by kernel_rfl) (by kernel_rfl) (by kernel_rfl) (by first | exact (fun _ _ _ h => h) | exact (fun _ _ _ h => absurd h.1 (by simp))) (by kernel_rfl) (by rfl) (by rintro w' ⟨y1, y2, y3⟩; go_simp) (HS.out _ hbd) ?_; go_frame
                refine AnyT.next (i := 17) (by kernel_rfl) rfl (wpOp_of_list rfl ?_)
                go_wp2_with (go_at_call 61; refine (HOf.out _).mono ?_; rintro e w4 ⟨rfl, hbl4⟩; refine Stop.of ?_)
                refine Stop.go ?_
                have HB4 := hid (chain hbd hbl4)
                have hr4 := HR2.out.keep (hbl4.block g HR2.out.lt)
                obtain ⟨⟨z0, p0⟩, ⟨z1, p1⟩, f0, f1⟩ : (∃ z, w4.cell? ⟨g, p * 2, none⟩ = some (.int .i64 z)) ∧ (∃ z, w4.cell? ⟨g, p * 2 + 1, none⟩ = some (.int .i64 z)) ∧ w4.frozen? ⟨g, p * 2, none⟩ = false ∧ w4.frozen? ⟨g, p * 2 + 1, none⟩ = false := by
                  obtain ⟨q0, q1, q2⟩ := hr4.cells (k := p) (by rw [HOLK.out]; exact hp2)
                  exact ⟨⟨_, q0⟩, ⟨_, q1⟩, q2 _, q2 _⟩
                have hst := hr4.set (k := p) (by rw [HOLK.out]; exact hp2) q1 q2
                have hbe : Below w3.heap.size w3 ((w4.setCell ⟨g, p * 2, none⟩ (.int .i64 q1)).setCell ⟨g, p * 2 + 1, none⟩ (.int .i64 q2)) := below_set (below_set HB4.out (by rw [HG.out]; exact Nat.le_refl _) _ _) (by rw [HG.out]; exact Nat.le_refl _) _ _
                have hgl := hr4.lt
                rw [← HOSK.out] at hst
                have HST := hid hst
                have HBE := hid hbe
                clear hbd hbl4 hst hbe hr4
                go_wp2
                refine ⟨fun _ => HS.out _ HB4.out, ?_⟩
                refine AnyT.next (i := 18) (by kernel_rfl) rfl (wpOp_of_list rfl ?_)
                go_wp2
                refine ⟨fun _ => HS.out _ HB4.out, ?_⟩
                refine AnyT.next (i := 19) (by kernel_rfl) rfl (wpOp_of_list rfl ?_)
                go_wp2
                refine ⟨fun _ => HS.out _ HBE.out, ?_⟩
                refine AnyT.done (by kernel_rfl) ?_ _
                go_wp2
                exact ⟨⟨k + 1, by omega, by go_num, HST.out, HBE.out, HNE2⟩, by simp [intOf]; omega⟩
            · obtain rfl : k = K := by omega
              have htJ : t ∉ J := fun h => by
                obtain ⟨i, hi, e⟩ := List.mem_iff_getElem.1 h
                refine HNE.out i (by rw [HKJ.out]; exact hi) ?_
                unfold jf; rw [List.getElem?_eq_getElem hi]; exact e
              have hse := HOE.out
              rw [if_neg htJ] at hse
              subst hse
              have HRO := hid (hr.own (base := g) (HOL.out k) (by unfold maxLen; omega) (Nat.le_refl _))
              have HBK := hid hbk
              have hsub : IntKind.i64.wrap ((t : Int) - (k : Int)) = (t : Int) - (k : Int) := IntWalk.i64_in _ (by omega)
              clear hr hbk htJ
              go_wp2
              go_ret3
              exact ⟨_, rfl, g, by rw [HG.out]; exact HBW.out.size, HRO.out, chain HBW.out HBK.out⟩
end

section
open Go.RowKit
set_option linter.unusedVariables false

theorem sameRatios_c (w : World) (a a2 : Option Addr) (n cap n2 cap2 : Nat) (l l2 : List Rt) (hn : l.length = n) (hn2 : l2.length = n2) (hm : n ≤ maxLen) (hm2 : n2 ≤ maxLen) (H : RatsAt w a l) (H2 : RatsAt w a2 l2) :
    Calls Tryz.prog 11 #[.slice a n cap, .slice a2 n2 cap2] w fun e w' => e = .returned (.bool (decide (l = l2))) ∧ ∃ k, w' = w.drewN k := by
  have HN := hid hn
  have HN2 := hid hn2
  have HH := hid H
  have HH2 := hid H2
  clear hn hn2 H H2
  unfold maxLen at hm hm2
  by_cases hl : n = n2
  · have hd : ((n : Int) != (n2 : Int)) = false := by simp [hl]
    have HL := hid hl
    clear hl
    go_enter Tryz.func11, Tryz.ntmps11
    go_wp2
    go_loopw [13] (fun i wr => ∃ k : Nat, k ≤ n ∧ i = .int .i64 k ∧ (∃ q, wr = w.drewN q) ∧ ∀ j (hj : j < l.length) (hj2 : j < l2.length), j < k → l[j] = l2[j]) (fun i _ => n - (intOf i).toNat)
    case atStart => exact ⟨0, Nat.zero_le _, rfl, ⟨0, rfl⟩, fun i _ _ h => by omega⟩
    case round =>
      obtain ⟨k, hk, rfl, ⟨q, rfl⟩, hno⟩ := hrel
      have HNO := hid hno
      clear hno
      by_cases hlt : k < n
      · have hkl : k < l.length := by rw [HN.out]; exact hlt
        have hkl2 : k < l2.length := by rw [HN2.out, ← HL.out]; exact hlt
        obtain ⟨b, off, rfl, hbs, hc0, hc1⟩ := HH.out k hkl
        obtain ⟨b2, off2, rfl, hbs2, hd0, hd1⟩ := HH2.out k hkl2
        have hlt2 : k < n2 := by have := HL.out; omega
        have HKL := hid hkl
        have HKL2 := hid hkl2
        by_cases he : l[k] = l2[k]
        · have HE := hid he
          obtain ⟨x, hx⟩ : ∃ x, x = l[k]'hkl := ⟨_, rfl⟩
          obtain ⟨y, hy⟩ : ∃ y, y = l2[k]'hkl2 := ⟨_, rfl⟩
          have hxy : x = y := hx.trans (he.trans hy.symm)
          rw [← hx] at hc0 hc1
          rw [← hy] at hd0 hd1
          rw [← hxy] at hd0 hd1
          clear he hx hy hxy
          obtain ⟨x1, x2⟩ := x
          simp only [] at hc0 hc1 hd0 hd1
          go_wp2
          go_quiet (fail)
          go_wp2
          refine ⟨⟨k + 1, by omega, by go_num, ⟨_, rfl⟩, fun j hj hj2 hjk => ?_⟩, by simp [intOf]; omega⟩
          by_cases e : j = k
          · subst e; exact HE.out
          · exact HNO.out j hj hj2 (by omega)
        · have HE := hid he
          obtain ⟨x, hx⟩ : ∃ x, x = l[k]'hkl := ⟨_, rfl⟩
          obtain ⟨y, hy⟩ : ∃ y, y = l2[k]'hkl2 := ⟨_, rfl⟩
          have hxy : x ≠ y := fun e => he (hx.symm.trans (e.trans hy))
          rw [← hx] at hc0 hc1
          rw [← hy] at hd0 hd1
          clear he hx hy
          obtain ⟨x1, x2⟩ := x
          obtain ⟨y1, y2⟩ := y
          simp only [] at hc0 hc1 hd0 hd1
          have hcase : ((x1 == y1) = false) ∨ (x1 = y1 ∧ (x2 == y2) = false) := by
            by_cases e1 : x1 = y1
            · by_cases e2 : x2 = y2
              · exact absurd (by rw [e1, e2]) hxy
              · exact .inr ⟨e1, by simpa using e2⟩
            · exact .inl (by simpa using e1)
          clear hxy
          rcases hcase with h | ⟨rfl, h⟩
          all_goals
            go_wp2
            go_quiet (fail)
            go_wp2
            go_ret
            refine ⟨ret_bool ?_, q + nq, drewN_add _ _ _⟩
            symm
            rw [decide_eq_false_iff_not]
            rintro rfl
            exact HE.out rfl
      · go_wp2
        go_ret
        refine ⟨ret_bool ?_, _, rfl⟩
        symm
        rw [decide_eq_true_iff]
        have h1 := HN.out
        have h2 := HN2.out
        have h3 := HL.out
        exact List.ext_getElem (by omega) fun i g1 g2 => HNO.out i g1 g2 (by omega)
  · have hd : ((n : Int) != (n2 : Int)) = true := by simp; omega
    have HL := hid hl
    clear hl
    go_enter Tryz.func11, Tryz.ntmps11
    go_wp2
    go_ret
    refine ⟨ret_bool ?_, 0, rfl⟩
    symm
    rw [decide_eq_false_iff_not]
    rintro rfl
    exact HL.out (HN.out.symm.trans HN2.out)
end
end
end Go.Proofs.YtfipebkhomppmaaGreat

namespace Go.Proofs.YtfipebkhomppmaaGreat
open Go.RowKit
set_option linter.unusedVariables false

open Classical in
noncomputable def lift (W X : World) : World := if Below W.heap.size W X then X else W
theorem lift_below (W X : World) : Below W.heap.size W (lift W X) := by
  unfold lift; split
  · assumption
  · exact Below.refl _ _
theorem lift_of {W X : World} (h : Below W.heap.size W X) : X = lift W X := by unfold lift; rw [if_pos h]
theorem lift_cell {W : World} {b o : Nat} {v : Value} (hb : b < W.heap.size) (h : W.cell? ⟨b, o, none⟩ = some v) : ∀ X, (lift W X).cell? ⟨b, o, none⟩ = some v := fun X => ((lift_below W X).cell (p := ⟨b, o, none⟩) hb).trans h

theorem lift_calls {P : Program} {f : FuncId} {args : Array Value} {W X : World} {v : Value} (h : Calls P f args (lift W X) fun e w' => e = .returned v ∧ Below (lift W X).heap.size (lift W X) w') :
    Calls P f args (lift W X) fun e w'' => e = .returned v ∧ ∃ Y, w'' = lift W Y :=
  h.mono fun e w' ⟨he, hb⟩ => ⟨he, w', lift_of (chain (lift_below W X) hb)⟩

theorem region_lift {P : Program} {id : Nat} {Q : Exit → Act → World → Prop} {a : Act} {w : World} {l : List Oper} (hm : P.follows .mixedOrders = true) (hB : Region.lexB .any l.toArray = true)
    (h : wpQuiet P l.toArray (fun w' => ∃ X, w' = lift w X) (fun a' => ∀ w', (∃ X, w' = lift w X) → Q .normal a' w') l a) : (Code.region id l.toArray true).wp P Q a w :=
  wp_region_quiet (C := fun w' => ∃ X, w' = lift w X) hm hB ⟨_, lift_of (⟨rfl, rfl, rfl, Nat.le_refl _, fun _ _ => rfl⟩ : Below w.heap.size w { w with drawn := w.drawn + 1 })⟩ (by simpa using h)
end Go.Proofs.YtfipebkhomppmaaGreat
