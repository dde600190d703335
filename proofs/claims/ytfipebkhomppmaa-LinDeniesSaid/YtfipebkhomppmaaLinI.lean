/- Plain lists: the sets of k numbers in ascending order of lists, each one's next, and all sets by their lengths. -/
namespace Go.Proofs.Ytfipebkhomppmaa
set_option linter.unusedVariables false

/-- a, a + 1, .., m of them -/
def upF (a : Int) : Nat → List Int
  | 0 => []
  | m + 1 => a :: upF (a + 1) m
theorem upF_len : ∀ (m : Nat) (a : Int), (upF a m).length = m
  | 0, _ => rfl
  | m + 1, a => by simp [upF, upF_len m]
/-- the sets of k of the numbers a .. a + m - 1 -/
def comb : Nat → Nat → Int → List (List Int)
  | _, 0, _ => [[]]
  | 0, _ + 1, _ => []
  | m + 1, k + 1, a => (comb m k (a + 1)).map (a :: ·) ++ comb m (k + 1) (a + 1)
/-- the set behind another one -/
def nextS (n : Int) : List Int → Option (List Int)
  | [] => none
  | a :: r => match nextS n r with
    | some s => some (a :: s)
    | none => if a + r.length + 1 < n then some (upF (a + 1) (r.length + 1)) else none

theorem comb_none : ∀ (m k : Nat) (a : Int), m < k → comb m k a = []
  | 0, k + 1, a, _ => rfl
  | m + 1, k + 1, a, h => by simp [comb, comb_none m k (a + 1) (by omega), comb_none m (k + 1) (a + 1) (by omega)]
theorem comb_head : ∀ (m k : Nat) (a : Int), k ≤ m → ∃ t, comb m k a = upF a k :: t
  | m, 0, a, _ => by cases m <;> exact ⟨[], rfl⟩
  | m + 1, k + 1, a, h => by
    obtain ⟨t, ht⟩ := comb_head m k (a + 1) (by omega)
    exact ⟨t.map (a :: ·) ++ comb m (k + 1) (a + 1), by simp [comb, ht, upF]⟩
theorem comb_len : ∀ (m k : Nat) (a : Int), ∀ x ∈ comb m k a, x.length = k
  | m, 0, a, x, h => by cases m <;> (simp [comb] at h; simp [h])
  | 0, k + 1, a, x, h => by simp [comb] at h
  | m + 1, k + 1, a, x, h => by
    simp only [comb, List.mem_append, List.mem_map] at h
    rcases h with ⟨y, hy, rfl⟩ | h
    · simp [comb_len m k (a + 1) y hy]
    · exact comb_len m (k + 1) (a + 1) x h
theorem comb_asc : ∀ (m k : Nat) (a : Int), ∀ x ∈ comb m k a, x.Pairwise (· < ·) ∧ ∀ y ∈ x, a ≤ y ∧ y < a + m
  | m, 0, a, x, h => by cases m <;> (simp [comb] at h; simp [h])
  | 0, k + 1, a, x, h => by simp [comb] at h
  | m + 1, k + 1, a, x, h => by
    simp only [comb, List.mem_append, List.mem_map] at h
    rcases h with ⟨y, hy, rfl⟩ | h
    · obtain ⟨h1, h2⟩ := comb_asc m k (a + 1) y hy
      refine ⟨List.pairwise_cons.2 ⟨fun z hz => by have := h2 z hz; omega, h1⟩, fun z hz => ?_⟩
      rcases List.mem_cons.1 hz with rfl | hz
      · omega
      · have := h2 z hz; omega
    · obtain ⟨h1, h2⟩ := comb_asc m (k + 1) (a + 1) x h
      exact ⟨h1, fun z hz => by have := h2 z hz; omega⟩
/-- each ascending list is one of them -/
theorem comb_mem : ∀ (m : Nat) (a : Int) (x : List Int), x.Pairwise (· < ·) → (∀ y ∈ x, a ≤ y ∧ y < a + m) → x ∈ comb m x.length a
  | m, a, [], _, _ => by cases m <;> simp [comb]
  | 0, a, y :: x, _, h => by have := h y (by simp); omega
  | m + 1, a, y :: x, hp, h => by
    rw [List.pairwise_cons] at hp
    simp only [List.length_cons, comb, List.mem_append, List.mem_map]
    by_cases e : y = a
    · subst e
      exact .inl ⟨x, comb_mem m (y + 1) x hp.2 (fun z hz => by have := hp.1 z hz; have := h z (by simp [hz]); omega), rfl⟩
    · right
      have := h y (by simp)
      exact comb_mem m (a + 1) (y :: x) (List.pairwise_cons.2 hp) (fun z hz => by
        rcases List.mem_cons.1 hz with rfl | hz'
        · omega
        · have h1 := hp.1 z hz'; have := h z hz; omega)

/-- each one's next, and behind the last one e -/
def Chn (n : Int) (e : Option (List Int)) : List (List Int) → Prop
  | [] => True
  | [x] => nextS n x = e
  | x :: y :: t => nextS n x = some y ∧ Chn n e (y :: t)

theorem Chn.append {n : Int} {e : Option (List Int)} {y : List Int} {t : List (List Int)} : ∀ {l : List (List Int)}, Chn n (some y) l → Chn n e (y :: t) → Chn n e (l ++ y :: t)
  | [], _, h => h
  | [x], h, h2 => ⟨h, h2⟩
  | x :: z :: l, h, h2 => ⟨h.1, Chn.append (l := z :: l) h.2 h2⟩

theorem Chn.cons {n a : Int} {k : Nat} : ∀ {l : List (List Int)}, (∀ x ∈ l, x.length = k) → Chn n none l → Chn n (if a + k + 1 < n then some (upF (a + 1) (k + 1)) else none) (l.map (a :: ·))
  | [], _, _ => trivial
  | [x], hl, h => by
    show (match nextS n x with | some s => some (a :: s) | none => if a + x.length + 1 < n then some (upF (a + 1) (x.length + 1)) else none) = _
    have h' : nextS n x = none := h
    rw [h', hl x (by simp)]
  | x :: y :: l, hl, h => by
    refine ⟨?_, Chn.cons (l := y :: l) (fun z hz => hl z (by simp [List.mem_cons.1 hz])) h.2⟩
    show (match nextS n x with | some s => some (a :: s) | none => _) = _
    rw [h.1]

theorem comb_chn : ∀ (m k : Nat) (a : Int), Chn (a + m) none (comb m k a)
  | m, 0, a => by cases m <;> exact rfl
  | 0, k + 1, a => trivial
  | m + 1, k + 1, a => by
    have h1 := Chn.cons (n := a + (m + 1 : Nat)) (a := a) (comb_len m k (a + 1)) (by have := comb_chn m k (a + 1); rwa [show a + 1 + (m : Int) = a + (m + 1 : Nat) by omega] at this)
    have h2 := comb_chn m (k + 1) (a + 1)
    rw [show a + 1 + (m : Int) = a + (m + 1 : Nat) by omega] at h2
    show Chn _ _ ((comb m k (a + 1)).map (a :: ·) ++ comb m (k + 1) (a + 1))
    by_cases h : k + 1 ≤ m
    · obtain ⟨t, ht⟩ := comb_head m (k + 1) (a + 1) h
      rw [if_pos (by omega)] at h1
      rw [ht] at h2 ⊢
      exact h1.append h2
    · rw [if_neg (by omega)] at h1
      rw [comb_none m (k + 1) (a + 1) (by omega), List.append_nil]
      exact h1

/-- where one stands its next follows -/
theorem Chn.at {n : Int} : ∀ {l : List (List Int)} {i : Nat} {x : List Int}, Chn n none l → l[i]? = some x → l[i + 1]? = nextS n x
  | [], i, x, _, h => by simp at h
  | [y], 0, x, h, hi => by
    simp at hi; subst hi
    have h' : nextS n y = none := h
    rw [h']; rfl
  | [y], i + 1, x, h, hi => by simp at hi
  | y :: z :: l, 0, x, h, hi => by simp at hi; subst hi; rw [h.1]; rfl
  | y :: z :: l, i + 1, x, h, hi => Chn.at (l := z :: l) h.2 (by simpa using hi)

/-- the next set, where the last m numbers are the greatest -/
theorem nextS_up {n : Int} : ∀ (m : Nat) (a : Int), a + m = n → nextS n (upF a m) = none
  | 0, _, _ => rfl
  | m + 1, a, h => by
    show (match nextS n (upF (a + 1) m) with | some s => some (a :: s) | none => if a + (upF (a + 1) m).length + 1 < n then _ else none) = _
    rw [nextS_up m (a + 1) (by omega), upF_len]
    simp only []
    rw [if_neg (by omega)]
theorem nextS_at {n : Int} {m : Nat} {d : Int} (hd : d + m + 1 < n) : ∀ u : List Int, nextS n (u ++ d :: upF (n - m) m) = some (u ++ upF (d + 1) (m + 1))
  | [] => by
    show (match nextS n (upF (n - m) m) with | some s => some (d :: s) | none => if d + (upF (n - m) m).length + 1 < n then some (upF (d + 1) ((upF (n - m) m).length + 1)) else none) = _
    rw [nextS_up m (n - m) (by omega), upF_len]
    simp only []
    rw [if_pos hd]; rfl
  | a :: u => by
    show (match nextS n (u ++ d :: upF (n - m) m) with | some s => some (a :: s) | none => _) = _
    rw [nextS_at hd u]; rfl

/-! the sets by their lengths, each made of one before it -/
/-- numbers a .. n - 1 -/
def fromTo (a : Int) (m : Nat) : List Int := upF a m
/-- where a set goes on -/
def nextFrom (a : Int) (s : List Int) : Int := match s.getLast? with | some x => x + 1 | none => a
def extS (a n : Int) (s : List Int) : List (List Int) := (upF (nextFrom a s) (n - nextFrom a s).toNat).map (fun j => s ++ [j])

theorem comb_one : ∀ (m : Nat) (a : Int), comb m 1 a = (upF a m).map (fun j => [j])
  | 0, _ => rfl
  | m + 1, a => by
    show (comb m 0 (a + 1)).map (a :: ·) ++ comb m 1 (a + 1) = _
    have : comb m 0 (a + 1) = [[]] := by cases m <;> rfl
    rw [this, comb_one m (a + 1)]; rfl
theorem extS_cons {a n : Int} (s : List Int) : extS a n (a :: s) = (extS (a + 1) n s).map (a :: ·) := by
  unfold extS
  have e : nextFrom a (a :: s) = nextFrom (a + 1) s := by
    unfold nextFrom
    cases s with
    | nil => rfl
    | cons b s =>
      rw [List.getLast?_cons_cons, List.getLast?_eq_some_getLast (l := b :: s) (by simp)]
  rw [e, List.map_map]; rfl
theorem extS_ne {a b n : Int} {s : List Int} (h : s ≠ []) : extS a n s = extS b n s := by
  unfold extS nextFrom
  cases hs : s.getLast? with
  | none => exact absurd (List.getLast?_eq_none_iff.1 hs) h
  | some x => rfl

theorem flatMap_same {α β : Type} {f g : α → List β} : ∀ {l : List α}, (∀ x ∈ l, f x = g x) → l.flatMap f = l.flatMap g
  | [], _ => rfl
  | x :: l, h => by rw [List.flatMap_cons, List.flatMap_cons, h x (by simp), flatMap_same fun y hy => h y (by simp [hy])]

theorem comb_succ : ∀ (m k : Nat) (a : Int), comb m (k + 1) a = (comb m k a).flatMap (extS a (a + m))
  | m, 0, a => by
    rw [comb_one]
    have : comb m 0 a = [[]] := by cases m <;> rfl
    rw [this]
    simp [extS, nextFrom, show (a + (m : Int) - a).toNat = m by omega]
  | 0, k + 1, a => rfl
  | m + 1, k + 1, a => by
    show (comb m (k + 1) (a + 1)).map (a :: ·) ++ comb m (k + 2) (a + 1) = ((comb m k (a + 1)).map (a :: ·) ++ comb m (k + 1) (a + 1)).flatMap (extS a (a + (m + 1 : Nat)))
    have e : a + ((m + 1 : Nat) : Int) = a + 1 + m := by omega
    rw [e, List.flatMap_append, List.flatMap_map, comb_succ m (k + 1) (a + 1)]
    congr 1
    · conv => lhs; rw [comb_succ m k (a + 1)]
      rw [List.map_flatMap]
      congr 1
      funext s
      exact (extS_cons s).symm
    · refine flatMap_same fun s hs => extS_ne ?_
      intro h
      have := comb_len m (k + 1) (a + 1) s hs
      rw [h] at this; simp at this

/-- all sets, by their lengths -/
def lvls (n : Nat) : Nat → List (List Int)
  | 0 => comb n 0 0
  | k + 1 => lvls n k ++ comb n (k + 1) 0
def allS (n : Nat) : List (List Int) := lvls n n
theorem lvls_flat (n : Nat) : ∀ k, [[]] ++ (lvls n k).flatMap (extS 0 n) = lvls n (k + 1)
  | 0 => by
    have h := comb_succ n 0 0
    rw [Int.zero_add] at h
    show [[]] ++ (comb n 0 0).flatMap (extS 0 n) = comb n 0 0 ++ comb n 1 0
    rw [← h]
    have : comb n 0 0 = [[]] := by cases n <;> rfl
    rw [this]
  | k + 1 => by
    have ih := lvls_flat n k
    have h := comb_succ n (k + 1) 0
    rw [Int.zero_add] at h
    show [[]] ++ (lvls n k ++ comb n (k + 1) 0).flatMap (extS 0 n) = lvls n (k + 1) ++ comb n (k + 2) 0
    rw [List.flatMap_append, ← List.append_assoc, ih, ← h]
theorem allS_flat (n : Nat) : allS n = [[]] ++ (allS n).flatMap (extS 0 n) := by
  unfold allS
  rw [lvls_flat]
  show _ = lvls n n ++ comb n (n + 1) 0
  rw [comb_none n (n + 1) 0 (by omega), List.append_nil]

theorem take_prefix_flat {α β : Type} (f : α → List β) (l : List α) (k : Nat) : (l.take k).flatMap f <+: l.flatMap f := by
  refine ⟨(l.drop k).flatMap f, ?_⟩
  rw [← List.flatMap_append, List.take_append_drop]

/-- what the reference's list is when at of its sets have been gone on from -/
def grown (n at' : Nat) : List (List Int) := [[]] ++ ((allS n).take at').flatMap (extS 0 n)
theorem grown_prefix (n at' : Nat) : grown n at' <+: allS n := by
  obtain ⟨t, ht⟩ := take_prefix_flat (extS 0 (n : Int)) (allS n) at'
  refine ⟨t, ?_⟩
  conv => rhs; rw [allS_flat, ← ht]
  unfold grown
  rw [List.append_assoc]
theorem grown_get {n at' : Nat} (h : at' < (grown n at').length) : (allS n)[at']? = some (grown n at')[at'] := by
  obtain ⟨t, ht⟩ := grown_prefix n at'
  rw [← ht, List.getElem?_append_left h, List.getElem?_eq_getElem h]
theorem grown_succ {n at' : Nat} {s : List Int} (h : (allS n)[at']? = some s) : grown n (at' + 1) = grown n at' ++ extS 0 n s := by
  unfold grown
  obtain ⟨hlt, e⟩ := List.getElem?_eq_some_iff.1 h
  rw [List.take_succ_eq_append_getElem hlt, List.flatMap_append, e]
  simp
/-- it ends as all sets -/
theorem grown_done {n at' : Nat} (h : (grown n at').length ≤ at') : grown n at' = allS n := by
  have key : ∀ k, (lvls n k).length ≤ (grown n at').length := by
    intro k
    induction k with
    | zero =>
      have : comb n 0 0 = [[]] := by cases n <;> rfl
      show (comb n 0 0).length ≤ _
      rw [this]; unfold grown; simp
    | succ k ih =>
      rcases Nat.lt_or_ge n (k + 1) with h1 | h1
      · show (lvls n k ++ comb n (k + 1) 0).length ≤ _
        rw [comb_none n (k + 1) 0 h1, List.append_nil]; exact ih
      · rw [← lvls_flat n k]
        -- the first levels are the beginning of all sets
        have hp : ∀ j, k ≤ j → lvls n k <+: lvls n j := by
          intro j hj
          induction j with
          | zero => rw [show k = 0 by omega]; exact List.prefix_refl _
          | succ j ih2 =>
            by_cases e : k = j + 1
            · subst e; exact List.prefix_refl _
            · exact (ih2 (by omega)).trans (List.prefix_append _ _)
        obtain ⟨t, ht⟩ := hp n (by omega)
        have e : (allS n).take at' = lvls n k ++ t.take (at' - (lvls n k).length) := by
          unfold allS; rw [← ht, List.take_append, List.take_of_length_le (by omega)]
        unfold grown
        rw [e, List.flatMap_append, ← List.append_assoc]
        simp only [List.length_append]
        omega
  have h1 := key n
  have h2 := grown_prefix n at'
  exact h2.eq_of_length_le h1
end Go.Proofs.Ytfipebkhomppmaa
