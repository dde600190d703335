/- Plain lists: the pictures of a field in ascending order, and the step from one to the next. No program in sight. -/
import Derived.Below
namespace Go.Proofs.Ytdcflpfaaeijoaa
set_option linter.unusedVariables false

/-- the p digits of k to the base b, the highest first -/
def dig (b : Nat) : Nat → Nat → List Int
  | 0, _ => []
  | p + 1, k => dig b p (k / b) ++ [((k % b : Nat) : Int)]

def pics (b p : Nat) : List (List Int) := (List.range (b ^ p)).map (dig b p)

theorem length_dig (b : Nat) : ∀ p k, (dig b p k).length = p
  | 0, _ => rfl
  | p + 1, k => by simp [dig, length_dig b p]

theorem dig_zero (b : Nat) : ∀ p, dig b p 0 = List.replicate p 0
  | 0 => rfl
  | p + 1 => by simp [dig, dig_zero b p, List.replicate_succ']

theorem dig_mem {b : Nat} (hb : 0 < b) : ∀ p k x, x ∈ dig b p k → 0 ≤ x ∧ x < b
  | 0, _, x, h => by simp [dig] at h
  | p + 1, k, x, h => by
    simp [dig] at h
    rcases h with h | h
    · exact dig_mem hb p _ x h
    · subst h; have := Nat.mod_lt k hb; omega

/-- a list whose last m numbers are the greatest digit, and one more ahead of them that is not: the next list -/
theorem dig_succ {b : Nat} (hb : 0 < b) : ∀ (m p k : Nat) (u : List Int) (d : Int), dig b p k = u ++ [d] ++ List.replicate m ((b : Int) - 1) → d ≠ (b : Int) - 1 →
    dig b p (k + 1) = u ++ [d + 1] ++ List.replicate m 0 := by
  intro m
  induction m with
  | zero =>
    intro p k u d h hd
    cases p with
    | zero => simp [dig] at h
    | succ p =>
      simp only [dig, List.replicate_zero, List.append_nil] at h ⊢
      have h1 := List.append_inj' h rfl
      obtain ⟨hu, he⟩ := h1
      simp at he
      have hlt := Nat.mod_lt k hb
      have hk : k % b < b - 1 := by omega
      have hdiv := Nat.div_add_mod k b
      have e1 : (k + 1) / b = k / b := by
        rw [Nat.div_eq_iff hb]
        rw [Nat.mul_comm] at hdiv
        constructor
        · omega
        · omega
      have e2 : (k + 1) % b = k % b + 1 := by
        have := Nat.div_add_mod (k + 1) b
        rw [e1] at this; omega
      rw [e1, e2, hu, ← he]
      simp
  | succ m ih =>
    intro p k u d h hd
    cases p with
    | zero => simp [dig] at h
    | succ p =>
      simp only [dig] at h ⊢
      rw [List.replicate_succ', ← List.append_assoc] at h
      obtain ⟨hu, he⟩ := List.append_inj' h rfl
      simp at he
      have hlt := Nat.mod_lt k hb
      have hdiv := Nat.div_add_mod k b
      have e2 : k % b = b - 1 := by omega
      have e1 : (k + 1) / b = k / b + 1 := by
        rw [Nat.div_eq_iff hb]
        rw [Nat.mul_comm] at hdiv
        constructor
        · rw [Nat.succ_mul]; omega
        · rw [Nat.succ_mul]; omega
      have e3 : (k + 1) % b = 0 := by
        have h2 := Nat.div_add_mod (k + 1) b
        rw [e1] at h2
        rw [Nat.mul_succ] at h2; omega
      rw [e1, e3, ih p (k / b) u d hu hd, List.replicate_succ', ← List.append_assoc]
      simp

/-- all digits are the greatest: it is the last list -/
theorem dig_last {b : Nat} (hb : 0 < b) : ∀ (p k : Nat), k < b ^ p → dig b p k = List.replicate p ((b : Int) - 1) → k + 1 = b ^ p
  | 0, k, hk, _ => by simp at hk ⊢; omega
  | p + 1, k, hk, h => by
    rw [List.replicate_succ'] at h
    simp only [dig] at h
    obtain ⟨hu, he⟩ := List.append_inj' h rfl
    simp at he
    have hlt := Nat.mod_lt k hb
    have hdiv := Nat.div_add_mod k b
    have hq : k / b < b ^ p := by
      rw [Nat.div_lt_iff_lt_mul hb]; rw [Nat.pow_succ] at hk; exact hk
    have h1 := dig_last hb p (k / b) hq hu
    rw [Nat.pow_succ, ← h1, Nat.succ_mul, Nat.mul_comm (k / b) b]
    omega

theorem dig_not_last {b : Nat} (hb : 0 < b) {p k m : Nat} {u : List Int} {d : Int} (hk : k < b ^ p) (h : dig b p k = u ++ [d] ++ List.replicate m ((b : Int) - 1)) (hd : d ≠ (b : Int) - 1) : k + 1 < b ^ p := by
  rcases Nat.lt_or_ge (k + 1) (b ^ p) with h1 | h1
  · exact h1
  · exfalso
    have hkk : k + 1 = b ^ p := by omega
    have key : ∀ p k, k + 1 = b ^ p → dig b p k = List.replicate p ((b : Int) - 1) := by
      intro p
      induction p with
      | zero => intro k _; rfl
      | succ p ih =>
        intro k hk
        have hb1 : 0 < b ^ p := Nat.pow_pos hb
        rw [Nat.pow_succ] at hk
        have e1 : k / b = b ^ p - 1 := by
          rw [Nat.div_eq_iff hb]
          have : (b ^ p - 1) * b = b ^ p * b - b := by rw [Nat.sub_mul]; simp
          have h3 : b ≤ b ^ p * b := Nat.le_mul_of_pos_left b hb1
          constructor <;> omega
        have e2 : k % b = b - 1 := by
          have h2 := Nat.div_add_mod k b
          rw [e1] at h2
          have h3 : b * (b ^ p - 1) = b ^ p * b - b := by rw [Nat.mul_sub]; simp [Nat.mul_comm]
          have h4 : b ≤ b ^ p * b := Nat.le_mul_of_pos_left b hb1
          omega
        simp only [dig]
        rw [e1, e2, ih _ (by omega), List.replicate_succ']
        congr 2
        omega
    rw [key p k hkk] at h
    have hm : d ∈ List.replicate p ((b : Int) - 1) := by rw [h]; simp
    exact hd (List.eq_of_mem_replicate hm)

theorem pics_take (b p k : Nat) (hk : k < b ^ p) : (List.range k).map (dig b p) ++ [dig b p k] <+: pics b p := by
  refine ⟨(List.range' (k + 1) (b ^ p - (k + 1))).map (dig b p), ?_⟩
  unfold pics
  have e : (List.range k).map (dig b p) ++ [dig b p k] = (List.range (k + 1)).map (dig b p) := by rw [List.range_succ]; simp
  rw [e, ← List.map_append]
  congr 1
  rw [List.range_eq_range', List.range_eq_range']
  have h := @List.range'_append_1 0 (k + 1) (b ^ p - (k + 1))
  rw [Nat.zero_add] at h
  rw [h]
  congr 1
  omega

theorem take_set {L R : List Int} {m : Nat} (hm : m < L.length) (v : Int) : (L.take (m + 1) ++ R).set m v = L.take m ++ [v] ++ R := by
  have hl : (L.take m).length = m := by rw [List.length_take]; omega
  rw [List.take_succ_eq_append_getElem hm, List.append_assoc, List.set_append_right _ _ (by omega), hl]
  simp
theorem take_one {L : List Int} {m : Nat} (hm : m < L.length) : L.take (m + 1) = L.take m ++ [L[m]?.getD 0] := by
  rw [List.take_succ_eq_append_getElem hm, List.getElem?_eq_getElem hm]; rfl
theorem rep_cons (n m : Nat) (hm : m < n) (v : Int) : [v] ++ List.replicate (n - (m + 1)) v = List.replicate (n - m) v := by
  rw [show n - m = (n - (m + 1)) + 1 from by omega, List.replicate_succ]; rfl

def undig (b : Nat) (l : List Int) : Nat := l.foldl (fun a d => a * b + d.toNat) 0
theorem undig_dig {b : Nat} (hb : 0 < b) : ∀ p k, k < b ^ p → undig b (dig b p k) = k
  | 0, k, h => by simp at h; subst h; rfl
  | p + 1, k, h => by
    have hq : k / b < b ^ p := by rw [Nat.div_lt_iff_lt_mul hb]; rw [Nat.pow_succ] at h; exact h
    have ih := undig_dig hb p (k / b) hq
    unfold undig at ih ⊢
    simp only [dig, List.foldl_append, List.foldl_cons, List.foldl_nil, ih]
    have := Nat.div_add_mod k b
    rw [Nat.mul_comm] at this
    simp; omega

theorem length_pics (b p : Nat) : (pics b p).length = b ^ p := by simp [pics]
theorem mem_pics {b p : Nat} {x : List Int} (hb : 0 < b) (h : x ∈ pics b p) : x.length = p ∧ ∀ n ∈ x, 0 ≤ n ∧ n < b := by
  simp [pics] at h
  obtain ⟨k, _, rfl⟩ := h
  exact ⟨length_dig b p k, dig_mem hb p k⟩
end Go.Proofs.Ytdcflpfaaeijoaa
