/- Plain lists: the faults of a mask in their order, those that are not one with an earlier one, and texts that tell masks and readings. No program in sight. -/
import Derived.Test.YthaampmdponhbaaGreatDoorFltK
namespace Go.Proofs.YthaampmdponhbaaGreatDoor
open Go.RowKit Go.Shelf
set_option linter.unusedVariables false

/-! texts -/
def undec (l : List UInt8) : Nat := l.foldl (fun a d => a * 10 + (d.toNat - 48)) 0
theorem dig8 {k : Nat} (h : k < 10) : (UInt8.ofNat (48 + k)).toNat = 48 + k := by
  rw [UInt8.toNat_ofNat_of_lt']; show 48 + k < 256; omega
theorem undec_dec (u : Nat) : undec (Lib.decDigits u) = u := by
  induction u using Nat.strongRecOn with
  | _ u ih =>
    rw [Lib.decDigits]
    split
    · rename_i h
      simp only [undec, List.foldl_cons, List.foldl_nil, dig8 h]; omega
    · rename_i h
      have h1 := ih (u / 10) (by omega)
      unfold undec at h1 ⊢
      rw [List.foldl_append, h1]
      simp only [List.foldl_cons, List.foldl_nil, dig8 (Nat.mod_lt u (show 10 > 0 by omega))]; omega
theorem dec_mem (u : Nat) : ∀ d ∈ Lib.decDigits u, 48 ≤ d.toNat ∧ d.toNat ≤ 57 := by
  induction u using Nat.strongRecOn with
  | _ u ih =>
    rw [Lib.decDigits]
    split
    · rename_i h
      intro d hd
      simp only [List.mem_singleton] at hd
      subst hd
      rw [dig8 h]; omega
    · rename_i h
      intro d hd
      rcases List.mem_append.1 hd with hd | hd
      · exact ih (u / 10) (by omega) d hd
      · simp only [List.mem_singleton] at hd
        subst hd
        have := Nat.mod_lt u (show 10 > 0 by omega)
        rw [dig8 this]; omega
theorem dec_ne (u : Nat) : Lib.decDigits u ≠ [] := by
  rw [Lib.decDigits]
  split <;> simp
theorem itoa_inj {a b : Int} (h : Lib.itoa a = Lib.itoa b) : a = b := by
  unfold Lib.itoa at h
  by_cases ha : a < 0 <;> by_cases hb : b < 0
  · rw [if_pos ha, if_pos hb] at h
    have h2 := congrArg undec (List.cons.inj h).2
    rw [undec_dec, undec_dec] at h2; omega
  · rw [if_pos ha, if_neg hb] at h
    have := dec_mem b.toNat 45 (by rw [← h]; simp)
    simp at this
  · rw [if_neg ha, if_pos hb] at h
    have := dec_mem a.toNat 45 (by rw [h]; simp)
    simp at this
  · rw [if_neg ha, if_neg hb] at h
    have h2 := congrArg undec h
    rw [undec_dec, undec_dec] at h2; omega
theorem itoa_mem (n : Int) : ∀ d ∈ Lib.itoa n, d.toNat = 45 ∨ (48 ≤ d.toNat ∧ d.toNat ≤ 57) := by
  intro d hd
  unfold Lib.itoa at hd
  split at hd
  · rcases List.mem_cons.1 hd with rfl | hd
    · left; rfl
    · right; exact dec_mem _ d hd
  · right; exact dec_mem _ d hd
theorem itoa_no (n : Int) (c : UInt8) (h : c.toNat < 45) : c ∉ Lib.itoa n := by
  intro hc
  have := itoa_mem n c hc
  omega

theorem snoc_ind {α : Type} {P : List α → Prop} (h0 : P []) (h1 : ∀ xs f, P xs → P (xs ++ [f])) (xs : List α) : P xs := by
  have key : ∀ n, ∀ xs : List α, xs.length = n → P xs := by
    intro n
    induction n with
    | zero => intro xs h; rw [List.eq_nil_of_length_eq_zero h]; exact h0
    | succ n ih =>
      intro xs h
      have hne : xs ≠ [] := by intro e; subst e; simp at h
      rw [← List.dropLast_concat_getLast hne]
      exact h1 _ _ (ih _ (by rw [List.length_dropLast]; omega))
  exact key _ xs rfl
theorem flat_congr {α β : Type} {l : List α} {f g : α → List β} (h : ∀ x ∈ l, f x = g x) : l.flatMap f = l.flatMap g := by
  induction l with
  | nil => rfl
  | cons x l ih => rw [List.flatMap_cons, List.flatMap_cons, h x (by simp), ih (fun y hy => h y (by simp [hy]))]

theorem cut_inj {α : Type} {x : α} : ∀ {s s' t t' : List α}, x ∉ s → x ∉ s' → s ++ x :: t = s' ++ x :: t' → s = s' ∧ t = t'
  | [], [], t, t', _, _, h => by simpa using h
  | [], y :: s', t, t', _, h2, h => by
    simp only [List.nil_append, List.cons_append, List.cons.injEq] at h
    exact absurd (by rw [h.1]; simp) h2
  | y :: s, [], t, t', h1, _, h => by
    simp only [List.nil_append, List.cons_append, List.cons.injEq] at h
    exact absurd (by rw [h.1]; simp) h1
  | y :: s, z :: s', t, t', h1, h2, h => by
    simp only [List.cons_append, List.cons.injEq] at h
    obtain ⟨e1, e2⟩ := cut_inj (fun hm => h1 (by simp [hm])) (fun hm => h2 (by simp [hm])) h.2
    exact ⟨by rw [h.1, e1], e2⟩

theorem numT_cons (x : Int) (l : List Int) : numT (x :: l) = Lib.itoa x ++ 32 :: numT l := by simp [numT]
theorem numT_inj : ∀ {l l' : List Int}, numT l = numT l' → l = l'
  | [], [], _ => rfl
  | [], x :: l', h => by rw [numT_cons] at h; simp [numT] at h
  | x :: l, [], h => by rw [numT_cons] at h; simp [numT] at h
  | x :: l, y :: l', h => by
    rw [numT_cons, numT_cons] at h
    obtain ⟨e1, e2⟩ := cut_inj (itoa_no x 32 (by decide)) (itoa_no y 32 (by decide)) h
    rw [itoa_inj e1, numT_inj e2]

theorem flat_inj {α β : Type} (f g : α → List β) : ∀ (L : List α), (∀ x ∈ L, (f x).length = (g x).length) → L.flatMap f = L.flatMap g → ∀ x ∈ L, f x = g x
  | [], _, _, x, hx => by simp at hx
  | y :: L, hl, h, x, hx => by
    simp only [List.flatMap_cons] at h
    obtain ⟨e1, e2⟩ := List.append_inj h (hl y (by simp))
    rcases List.mem_cons.1 hx with rfl | hx
    · exact e1
    · exact flat_inj f g L (fun z hz => hl z (by simp [hz])) e2 x hx

/-- no picture of a list parts two faults -/
def sameR (M : Mask) (L : List (List Int)) (f g : Flt) : Bool := L.all (fun x => decide (readF M f x = readF M g x))
theorem toldT_numT (M : Mask) (f : Flt) (L : List (List Int)) : toldT M f L = numT (L.flatMap (readF M f)) := by
  unfold toldT numT
  rw [List.flatMap_assoc]
theorem toldT_iff (M : Mask) (f g : Flt) (L : List (List Int)) : toldT M f L = toldT M g L ↔ sameR M L f g = true := by
  unfold sameR
  rw [List.all_eq_true]
  constructor
  · intro h x hx
    rw [toldT_numT, toldT_numT] at h
    exact decide_eq_true (flat_inj _ _ L (fun y _ => by rw [readF_length, readF_length]) (numT_inj h) x hx)
  · intro h
    unfold toldT
    exact flat_congr fun x hx => by rw [of_decide_eq_true (h x hx)]

theorem sgn_inj {a b : Int} (ha : -1 ≤ a ∧ a ≤ 1) (hb : -1 ≤ b ∧ b ≤ 1) (h : sgnB a = sgnB b) : a = b := by
  have h1 : a = -1 ∨ a = 0 ∨ a = 1 := by omega
  have h2 : b = -1 ∨ b = 0 ∨ b = 1 := by omega
  rcases h1 with rfl | rfl | rfl <;> rcases h2 with rfl | rfl | rfl <;> simp [sgnB] at h ⊢
theorem sgn_no (r : List Int) : (10 : UInt8) ∉ r.map sgnB := by
  intro h
  obtain ⟨n, _, e⟩ := List.mem_map.1 h
  unfold sgnB at e
  split at e
  · cases e
  · split at e <;> cases e
theorem sgn_map_inj : ∀ {r s : List Int}, (∀ n ∈ r, -1 ≤ n ∧ n ≤ 1) → (∀ n ∈ s, -1 ≤ n ∧ n ≤ 1) → r.map sgnB = s.map sgnB → r = s
  | [], [], _, _, _ => rfl
  | [], y :: s, _, _, h => by simp at h
  | x :: r, [], _, _, h => by simp at h
  | x :: r, y :: s, h1, h2, h => by
    simp only [List.map_cons, List.cons.injEq] at h
    rw [sgn_inj (h1 x (by simp)) (h2 y (by simp)) h.1, sgn_map_inj (fun n hn => h1 n (by simp [hn])) (fun n hn => h2 n (by simp [hn])) h.2]
theorem fmtM_cons (r : List Int) (M : Mask) : fmtM (r :: M) = r.map sgnB ++ 10 :: fmtM M := by simp [fmtM]
theorem fmtM_inj : ∀ {M N : Mask}, (∀ r ∈ M, ∀ n ∈ r, -1 ≤ n ∧ n ≤ 1) → (∀ r ∈ N, ∀ n ∈ r, -1 ≤ n ∧ n ≤ 1) → fmtM M = fmtM N → M = N
  | [], [], _, _, _ => rfl
  | [], r :: N, _, _, h => by rw [fmtM_cons] at h; simp [fmtM] at h
  | r :: M, [], _, _, h => by rw [fmtM_cons] at h; simp [fmtM] at h
  | r :: M, s :: N, h1, h2, h => by
    rw [fmtM_cons, fmtM_cons] at h
    obtain ⟨e1, e2⟩ := cut_inj (sgn_no r) (sgn_no s) h
    rw [sgn_map_inj (h1 r (by simp)) (h2 s (by simp)) e1, fmtM_inj (fun t ht => h1 t (by simp [ht])) (fun t ht => h2 t (by simp [ht])) e2]
theorem textM_inj {M N : Mask} (hM : okM M = true) (hN : okM N = true) (h : textM M = textM N) : M = N := by
  unfold textM at h
  rw [if_pos hM, if_pos hN] at h
  exact fmtM_inj (fun r hr => ((okM_len hM).2.2.2.2 r hr).2) (fun r hr => ((okM_len hN).2.2.2.2 r hr).2) h

/-! all faults -/
/-- of some faults those that are not one with an earlier one -/
def allTo (M : Mask) (xs : List Flt) : List Flt := xs.foldl (fun out f => if out.any (fun g => decide (faultyM M g = faultyM M f)) then out else out ++ [f]) []
def allF (M : Mask) : List Flt := allTo M (everyF M)
theorem allTo_snoc (M : Mask) (xs : List Flt) (f : Flt) : allTo M (xs ++ [f]) = if (allTo M xs).any (fun g => decide (faultyM M g = faultyM M f)) then allTo M xs else allTo M xs ++ [f] := by
  unfold allTo; rw [List.foldl_append]; rfl
theorem allTo_length (M : Mask) (xs : List Flt) : (allTo M xs).length ≤ xs.length := by
  induction xs using snoc_ind with
  | h0 => simp [allTo]
  | h1 xs f ih => rw [allTo_snoc]; split <;> simp <;> omega
theorem allTo_mem {M : Mask} {xs : List Flt} {f : Flt} (h : f ∈ allTo M xs) : f ∈ xs := by
  induction xs using snoc_ind with
  | h0 => simp [allTo] at h
  | h1 xs g ih =>
    rw [allTo_snoc] at h
    split at h
    · exact List.mem_append_left _ (ih h)
    · rcases List.mem_append.1 h with h | h
      · exact List.mem_append_left _ (ih h)
      · exact List.mem_append_right _ h
/-- each fault is one with one of them -/
theorem allTo_has {M : Mask} {xs : List Flt} {f : Flt} (h : f ∈ xs) : ∃ g ∈ allTo M xs, faultyM M g = faultyM M f := by
  induction xs using snoc_ind with
  | h0 => simp at h
  | h1 xs g ih =>
    rw [allTo_snoc]
    rcases List.mem_append.1 h with h | h
    · obtain ⟨k, hk, e⟩ := ih h
      split
      · exact ⟨k, hk, e⟩
      · exact ⟨k, List.mem_append_left _ hk, e⟩
    · simp only [List.mem_singleton] at h
      subst h
      split
      · rename_i hany
        obtain ⟨k, hk, e⟩ := List.any_eq_true.1 hany
        exact ⟨k, hk, of_decide_eq_true e⟩
      · exact ⟨f, by simp, rfl⟩
theorem allTo_apart (M : Mask) (xs : List Flt) : (allTo M xs).Pairwise (fun f g => faultyM M f ≠ faultyM M g) := by
  induction xs using snoc_ind with
  | h0 => simp [allTo]
  | h1 xs f ih =>
    rw [allTo_snoc]
    split
    · exact ih
    · rename_i h
      rw [List.pairwise_append]
      refine ⟨ih, by simp, fun g hg k hk e => h ?_⟩
      simp only [List.mem_singleton] at hk
      subst hk
      exact List.any_eq_true.2 ⟨g, hg, decide_eq_true e⟩
theorem every_ok {M : Mask} {f : Flt} (h : f ∈ everyF M) : okF M f = true := by
  unfold everyF everyTo at h
  exact (List.mem_filter.1 h).2
theorem all_ok {M : Mask} {f : Flt} (h : f ∈ allF M) : okF M f = true := every_ok (allTo_mem h)
theorem every_length {M : Mask} : (everyF M).length ≤ 4 * (M.length * colsM M) := by
  unfold everyF everyTo
  refine Nat.le_trans (List.length_filter_le _ _) ?_
  simp
theorem every_240 {M : Mask} (h : okM M = true) : (everyF M).length ≤ 240 := by
  obtain ⟨_, m6, _, c10, _⟩ := okM_len h
  have := Nat.mul_le_mul m6 c10
  have := @every_length M
  omega
theorem all_240 {M : Mask} (h : okM M = true) : (allF M).length ≤ 240 := Nat.le_trans (allTo_length M _) (every_240 h)

/-! the faults in the reference's order -/
theorem range_pairs {α : Type} (n c : Nat) (hc : 0 < c) (f : Nat → Nat → α) : (List.range (n * c)).map (fun t => f (t / c) (t % c)) = (List.range n).flatMap (fun i => (List.range c).map (fun j => f i j)) := by
  induction n with
  | zero => simp
  | succ n ih =>
    rw [Nat.add_mul, Nat.one_mul, List.range_add, List.map_append, ih, List.range_succ, List.flatMap_append]
    congr 1
    simp only [List.map_map, List.flatMap_cons, List.flatMap_nil, List.append_nil]
    refine List.map_congr_left fun j hj => ?_
    have hj := List.mem_range.1 hj
    simp only [Function.comp_apply]
    rw [Nat.mul_comm n c, Nat.mul_add_div hc, Nat.div_eq_of_lt hj, Nat.mul_add_mod, Nat.mod_eq_of_lt hj, Nat.add_zero]

/-- all valid faults of a valid mask, as the document lists them -/
def turnsF (M : Mask) (i : Nat) (r : List Int) : List Flt := ((List.range r.length).filter (fun j : Nat => !decide (r[j]?.getD 0 = 0))).map (fun j : Nat => ⟨3, (i : Int), (j : Int)⟩)
def listF (M : Mask) : List Flt := [⟨0, 0, 0⟩] ++ (List.range M.length).map (fun i : Nat => ⟨1, (i : Int), 0⟩) ++ (List.range (colsM M)).map (fun j : Nat => ⟨2, 0, (j : Int)⟩) ++ (List.range M.length).flatMap (fun i : Nat => turnsF M i (M[i]?.getD []))

theorem flat_first {α : Type} (n : Nat) (h : 0 < n) (f : Nat → List α) (h0 : ∀ i, 0 < i → i < n → f i = []) : (List.range n).flatMap f = f 0 := by
  obtain ⟨m, rfl⟩ : ∃ m, n = m + 1 := ⟨n - 1, by omega⟩
  rw [List.range_succ_eq_map, List.flatMap_cons, List.flatMap_map]
  rw [List.flatMap_eq_nil_iff.2, List.append_nil]
  intro i hi
  exact h0 (i + 1) (by omega) (by have := List.mem_range.1 hi; omega)
theorem filter_first (c : Nat) (h : 0 < c) (p : Nat → Bool) (h0 : p 0 = true) (h1 : ∀ j, 0 < j → j < c → p j = false) : (List.range c).filter p = [0] := by
  obtain ⟨m, rfl⟩ : ∃ m, c = m + 1 := ⟨c - 1, by omega⟩
  rw [List.range_succ_eq_map, List.filter_cons, if_pos h0]
  congr 1
  rw [List.filter_eq_nil_iff]
  intro j hj
  obtain ⟨i, hi, rfl⟩ := List.mem_map.1 hj
  have := h1 (i + 1) (by omega) (by have := List.mem_range.1 hi; omega)
  simp [this]

theorem everyF_list {M : Mask} (hM : okM M = true) : everyF M = listF M := by
  obtain ⟨m1, m6, c1, c10, hrows⟩ := okM_len hM
  obtain ⟨n, hn⟩ : ∃ n, n = M.length := ⟨_, rfl⟩
  obtain ⟨c, hc⟩ : ∃ c, c = colsM M := ⟨_, rfl⟩
  have hok : ∀ (k : Nat) (i j : Nat), i < n → j < c → okF M ⟨k, i, j⟩ = (if k = 0 then decide (i = 0) && decide (j = 0) else if k = 1 then decide (j = 0) else if k = 2 then decide (i = 0) else if k = 3 then !decide ((M[i]?.getD [])[j]?.getD 0 = 0) else false) := by
    intro k i j hi hj
    unfold okF
    simp only [atM, Int.toNat_natCast]
    have e1 : inB (i : Int) 0 ((M.length : Int) - 1) = true := by simp [inB]; omega
    have e2 : inB (j : Int) 0 ((colsM M : Int) - 1) = true := by simp [inB]; omega
    rw [e1, e2]
    simp only [Int.natCast_eq_zero, Bool.true_and]
    by_cases k0 : k = 0
    · subst k0; simp
    · by_cases k1 : k = 1
      · subst k1; simp
      · by_cases k2 : k = 2
        · subst k2; simp
        · by_cases k3 : k = 3
          · subst k3; simp <;> rfl
          · simp only [k0, k1, k2, k3, if_false]
            rw [if_neg (by omega), if_neg (by omega), if_neg (by omega)]
  have hblock : ∀ k : Nat, ((List.range (n * c)).map (fun t => candF n c (k * (n * c) + t))).filter (okF M) = (List.range n).flatMap (fun i : Nat => ((List.range c).filter (fun j : Nat => okF M ⟨k, i, j⟩)).map (fun j : Nat => (⟨k, i, j⟩ : Flt))) := by
    intro k
    have e : (List.range (n * c)).map (fun t => candF n c (k * (n * c) + t)) = (List.range (n * c)).map (fun t => (⟨k, (t / c : Nat), (t % c : Nat)⟩ : Flt)) := by
      refine List.map_congr_left fun t ht => ?_
      have ht := List.mem_range.1 ht
      have hi : t / c < n := Nat.div_lt_of_lt_mul (by rw [Nat.mul_comm]; exact ht)
      have hj : t % c < c := Nat.mod_lt _ (by omega)
      have hd := Nat.div_add_mod t c
      have : k * (n * c) + t = (k * n + t / c) * c + t % c := by
        rw [Nat.add_mul, Nat.mul_assoc, Nat.mul_comm (t / c) c, Nat.add_assoc, hd]
      rw [this, candF_at hi hj]
    rw [e, range_pairs n c (by omega) (fun i j => (⟨k, i, j⟩ : Flt)), List.filter_flatMap]
    refine flat_congr fun i _ => ?_
    rw [List.filter_map]; rfl
  have hsplit : everyF M = (List.range 4).flatMap (fun k => ((List.range (n * c)).map (fun t => candF n c (k * (n * c) + t))).filter (okF M)) := by
    unfold everyF everyTo
    rw [← hn, ← hc]
    have e : ∀ m : Nat, (List.range (m * (n * c))).map (candF n c) = (List.range m).flatMap (fun k => (List.range (n * c)).map (fun t => candF n c (k * (n * c) + t))) := by
      intro m
      induction m with
      | zero => simp
      | succ m ih =>
        rw [Nat.add_mul, Nat.one_mul, List.range_add, List.map_append, ih, List.range_succ, List.flatMap_append]
        congr 1
        simp
    rw [e 4, List.filter_flatMap]
  rw [hsplit]
  simp only [hblock]
  have e4 : List.range 4 = [0, 1, 2, 3] := by decide
  rw [e4]
  simp only [List.flatMap_cons, List.flatMap_nil, List.append_nil]
  unfold listF
  rw [← hn, ← hc]
  have b0 : (List.range n).flatMap (fun i : Nat => ((List.range c).filter (fun j : Nat => okF M ⟨(0 : Nat), i, j⟩)).map (fun j : Nat => (⟨(0 : Nat), i, j⟩ : Flt))) = [⟨0, 0, 0⟩] := by
    rw [flat_first n (by omega)]
    · rw [filter_first c (by omega)]
      · rfl
      · rw [hok 0 0 0 (by omega) (by omega)]; rfl
      · intro j hj hjc; rw [hok 0 0 j (by omega) hjc]; simp; omega
    · intro i hi hin
      rw [List.map_eq_nil_iff, List.filter_eq_nil_iff]
      intro j hj
      rw [hok 0 i j hin (List.mem_range.1 hj)]; simp; omega
  have b1 : (List.range n).flatMap (fun i : Nat => ((List.range c).filter (fun j : Nat => okF M ⟨(1 : Nat), i, j⟩)).map (fun j : Nat => (⟨(1 : Nat), i, j⟩ : Flt))) = (List.range n).map (fun i : Nat => ⟨1, (i : Int), 0⟩) := by
    rw [← List.flatMap_singleton' ((List.range n).map _), List.flatMap_map]
    refine flat_congr fun i hi => ?_
    rw [filter_first c (by omega)]
    · rfl
    · rw [hok 1 i 0 (List.mem_range.1 hi) (by omega)]; rfl
    · intro j hj hjc; rw [hok 1 i j (List.mem_range.1 hi) hjc]; simp; omega
  have b2 : (List.range n).flatMap (fun i : Nat => ((List.range c).filter (fun j : Nat => okF M ⟨(2 : Nat), i, j⟩)).map (fun j : Nat => (⟨(2 : Nat), i, j⟩ : Flt))) = (List.range c).map (fun j : Nat => ⟨2, 0, (j : Int)⟩) := by
    rw [flat_first n (by omega)]
    · rw [List.filter_eq_self.2]
      · rfl
      · intro j hj; rw [hok 2 0 j (by omega) (List.mem_range.1 hj)]; rfl
    · intro i hi hin
      rw [List.map_eq_nil_iff, List.filter_eq_nil_iff]
      intro j hj
      rw [hok 2 i j hin (List.mem_range.1 hj)]; simp; omega
  have b3 : (List.range n).flatMap (fun i : Nat => ((List.range c).filter (fun j : Nat => okF M ⟨(3 : Nat), i, j⟩)).map (fun j : Nat => (⟨(3 : Nat), i, j⟩ : Flt))) = (List.range n).flatMap (fun i : Nat => turnsF M i (M[i]?.getD [])) := by
    refine flat_congr fun i hi => ?_
    have hi := List.mem_range.1 hi
    unfold turnsF
    have hl : (M[i]?.getD []).length = c := by
      rw [List.getElem?_eq_getElem (by omega), Option.getD_some, hc]
      exact (hrows _ (List.getElem_mem _)).1
    rw [hl]
    have : (List.range c).filter (fun j : Nat => okF M ⟨(3 : Nat), i, j⟩) = (List.range c).filter (fun j : Nat => !decide ((M[i]?.getD [])[j]?.getD 0 = 0)) := by
      refine List.filter_congr fun j hj => ?_
      rw [hok 3 i j hi (List.mem_range.1 hj)]; rfl
    rw [this]; rfl
  rw [b0, b1, b2, b3]
  simp only [List.append_assoc]
end Go.Proofs.YthaampmdponhbaaGreatDoor
