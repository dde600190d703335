/- Plain: smallest sets of cells that no picture fits. -/
import Derived.Test.YtdcflpfaaeijoaaBitAM
namespace Go.Proofs.Ytdcflpfaaeijoaa
set_option linter.unusedVariables false

/-- the cells among the first k ones that a picture fits, as bits; and those that it does not -/
def fmask (l : List Cel) (x : List Int) : Nat → Nat
  | 0 => 0
  | k + 1 => if fitC x (cellAt l k) then fmask l x k ||| 2 ^ k else fmask l x k
def wmask (l : List Cel) (x : List Int) : Nat → Nat
  | 0 => 0
  | k + 1 => if fitC x (cellAt l k) then wmask l x k else wmask l x k ||| 2 ^ k
theorem fmask_lt (l : List Cel) (x : List Int) : ∀ k, fmask l x k < 2 ^ k
  | 0 => by simp [fmask]
  | k + 1 => by
    have := fmask_lt l x k
    unfold fmask
    have h2 : 2 ^ k < 2 ^ (k + 1) := Nat.pow_lt_pow_right (by omega) (by omega)
    split
    · exact Nat.or_lt_two_pow (by omega) h2
    · omega
theorem wmask_lt (l : List Cel) (x : List Int) : ∀ k, wmask l x k < 2 ^ k
  | 0 => by simp [wmask]
  | k + 1 => by
    have := wmask_lt l x k
    unfold wmask
    have h2 : 2 ^ k < 2 ^ (k + 1) := Nat.pow_lt_pow_right (by omega) (by omega)
    split
    · omega
    · exact Nat.or_lt_two_pow (by omega) h2
theorem fmask_bit (l : List Cel) (x : List Int) (i : Nat) : ∀ k, (fmask l x k).testBit i = (decide (i < k) && fitC x (cellAt l i))
  | 0 => by simp [fmask]
  | k + 1 => by
    have ih := fmask_bit l x i k
    unfold fmask
    by_cases e : i = k
    · subst e
      cases hf : fitC x (cellAt l i) <;> simp [hf, ih, Nat.testBit_or, Nat.testBit_two_pow]
    · have e1 : decide (i < k + 1) = decide (i < k) := by simp; omega
      rw [e1]
      split
      · rw [Nat.testBit_or, ih, Nat.testBit_two_pow]
        simp; omega
      · exact ih
theorem wmask_bit (l : List Cel) (x : List Int) (i : Nat) : ∀ k, (wmask l x k).testBit i = (decide (i < k) && !fitC x (cellAt l i))
  | 0 => by simp [wmask]
  | k + 1 => by
    have ih := wmask_bit l x i k
    unfold wmask
    by_cases e : i = k
    · subst e
      cases hf : fitC x (cellAt l i) <;> simp [hf, ih, Nat.testBit_or, Nat.testBit_two_pow]
    · have e1 : decide (i < k + 1) = decide (i < k) := by simp; omega
      rw [e1]
      split
      · exact ih
      · rw [Nat.testBit_or, ih, Nat.testBit_two_pow]
        simp; omega

/-- lists of numbers in ascending order, and their bits -/
def Inc (n : Nat) : Nat → List Nat → Prop
  | _, [] => True
  | f, i :: t => f ≤ i ∧ i < n ∧ Inc n (i + 1) t
def maskL : List Nat → Nat
  | [] => 0
  | i :: t => 2 ^ i ||| maskL t
def lexN : List Nat → List Nat → Bool
  | a :: u, b :: v => if a = b then lexN u v else decide (a < b)
  | _, _ => false

theorem maskL_bit (j : Nat) : ∀ t : List Nat, (maskL t).testBit j = decide (j ∈ t)
  | [] => by simp [maskL]
  | i :: t => by
    unfold maskL
    rw [Nat.testBit_or, maskL_bit j t, Nat.testBit_two_pow]
    by_cases e : i = j
    · subst e; simp
    · simp [e, Ne.symm e]

/-- the first set of so many numbers that cl takes, in the order in which they are tried -/
def search (n : Nat) (cl : Nat → Bool) : Nat → Nat → Nat → Option (List Nat)
  | 0, _, set => if cl set then some [] else none
  | m + 1, f, set => (List.range' f (n - f)).findSome? fun i => (search n cl m (i + 1) (set ||| 2 ^ i)).map (i :: ·)

theorem search_spec (n : Nat) (cl : Nat → Bool) : ∀ (m f set : Nat),
    (∀ t, search n cl m f set = some t → t.length = m ∧ Inc n f t ∧ cl (set ||| maskL t) = true ∧ ∀ t', t'.length = m → Inc n f t' → cl (set ||| maskL t') = true → lexN t' t = false) ∧
    (search n cl m f set = none → ∀ t', t'.length = m → Inc n f t' → cl (set ||| maskL t') = false)
  | 0, f, set => by
    unfold search
    refine ⟨fun t h => ?_, fun h t' ht hi => ?_⟩
    · split at h
      · cases h
        rename_i hc
        refine ⟨rfl, trivial, by simpa [maskL] using hc, fun t' ht _ _ => ?_⟩
        obtain rfl := List.eq_nil_of_length_eq_zero ht
        rfl
      · cases h
    · obtain rfl := List.eq_nil_of_length_eq_zero ht
      split at h
      · cases h
      · rename_i hc; simpa [maskL] using hc
  | m + 1, f, set => by
    have key : ∀ (k i : Nat), i + k = n →
        (∀ t, (List.range' i k).findSome? (fun i => (search n cl m (i + 1) (set ||| 2 ^ i)).map (i :: ·)) = some t → t.length = m + 1 ∧ Inc n i t ∧ cl (set ||| maskL t) = true ∧ ∀ t', t'.length = m + 1 → Inc n i t' → cl (set ||| maskL t') = true → lexN t' t = false) ∧
        ((List.range' i k).findSome? (fun i => (search n cl m (i + 1) (set ||| 2 ^ i)).map (i :: ·)) = none → ∀ t', t'.length = m + 1 → Inc n i t' → cl (set ||| maskL t') = false) := by
      intro k
      induction k with
      | zero =>
        intro i hi
        refine ⟨fun t h => by simp at h, fun _ t' ht hinc => ?_⟩
        cases t' with
        | nil => simp at ht
        | cons j t1 => have := hinc.1; have := hinc.2.1; omega
      | succ k ih =>
        intro i hi
        obtain ⟨ih1, ih2⟩ := ih (i + 1) (by omega)
        obtain ⟨s1, s2⟩ := search_spec n cl m (i + 1) (set ||| 2 ^ i)
        rw [List.range'_succ, List.findSome?_cons]
        cases hs : search n cl m (i + 1) (set ||| 2 ^ i) with
        | some t0 =>
          obtain ⟨q1, q2, q3, q4⟩ := s1 t0 hs
          simp only [Option.map_some]
          refine ⟨fun t h => ?_, fun h => by cases h⟩
          cases h
          refine ⟨by simp [q1], ⟨Nat.le_refl _, by omega, q2⟩, by unfold maskL; rw [← Nat.or_assoc]; exact q3, fun t' ht hinc hcl => ?_⟩
          cases t' with
          | nil => simp at ht
          | cons j t1 =>
            obtain ⟨j1, j2, j3⟩ := hinc
            unfold lexN
            by_cases e : j = i
            · subst e
              rw [if_pos rfl]
              refine q4 t1 (by simpa using ht) j3 ?_
              unfold maskL at hcl
              rw [Nat.or_assoc]; exact hcl
            · rw [if_neg e]; simp; omega
        | none =>
          have hn := s2 hs
          simp only [Option.map_none]
          have shift : ∀ t', t'.length = m + 1 → Inc n i t' → cl (set ||| maskL t') = true → Inc n (i + 1) t' := by
            intro t' ht hinc hcl
            cases t' with
            | nil => trivial
            | cons j t1 =>
              obtain ⟨j1, j2, j3⟩ := hinc
              refine ⟨?_, j2, j3⟩
              rcases Nat.lt_or_ge i j with h | h
              · exact h
              · exfalso
                obtain rfl : j = i := by omega
                have := hn t1 (by simpa using ht) j3
                unfold maskL at hcl
                rw [← Nat.or_assoc, this] at hcl
                cases hcl
          refine ⟨fun t h => ?_, fun h t' ht hinc => ?_⟩
          · obtain ⟨q1, q2, q3, q4⟩ := ih1 t h
            refine ⟨q1, ?_, q3, fun t' ht hinc hcl => q4 t' ht (shift t' ht hinc hcl) hcl⟩
            cases t with
            | nil => trivial
            | cons j t1 => exact ⟨by have := q2.1; omega, q2.2⟩
          · cases hcl : cl (set ||| maskL t')
            · rfl
            · have := ih2 h t' ht (shift t' ht hinc hcl)
              rw [hcl] at this; cases this
    unfold search
    by_cases hf : f ≤ n
    · exact key (n - f) f (by omega)
    · have h0 : n - f = 0 := by omega
      rw [h0]
      refine ⟨fun t h => by simp at h, fun _ t' ht hinc => ?_⟩
      cases t' with
      | nil => simp at ht
      | cons j t1 => have := hinc.1; have := hinc.2.1; omega

/-- no picture fits a set of cells -/
def clB (l : List Cel) (xs : List (List Int)) (s : Nat) : Bool := xs.all fun x => (fmask l x l.length &&& s) != s
def clashT (l : List Cel) (xs : List (List Int)) : Option (List Nat) := (List.range (l.length + 1)).findSome? fun k => search l.length (clB l xs) k 0 0

theorem Inc_lt {n : Nat} : ∀ {f : Nat} {t : List Nat}, Inc n f t → ∀ i ∈ t, f ≤ i ∧ i < n
  | _, [], _, i, hi => by simp at hi
  | f, j :: t, h, i, hi => by
    rcases List.mem_cons.1 hi with rfl | hi
    · exact ⟨h.1, h.2.1⟩
    · have := Inc_lt h.2.2 i hi
      have := h.1
      omega

theorem sub_iff (m s : Nat) : (m &&& s) = s ↔ ∀ i, s.testBit i = true → m.testBit i = true := by
  constructor
  · intro h i hi
    have : (m &&& s).testBit i = true := by rw [h]; exact hi
    rw [Nat.testBit_and] at this
    simp at this; exact this.1
  · intro h
    apply Nat.eq_of_testBit_eq
    intro i
    rw [Nat.testBit_and]
    cases hs : s.testBit i
    · simp
    · simp [h i hs]

theorem clB_mask (l : List Cel) (xs : List (List Int)) {t : List Nat} (ht : ∀ i ∈ t, i < l.length) : clB l xs (maskL t) = true ↔ ∀ x ∈ xs, ∃ i ∈ t, fitC x (cellAt l i) = false := by
  unfold clB
  rw [List.all_eq_true]
  refine forall_congr' fun x => ?_
  refine forall_congr' fun hx => ?_
  simp only [bne_iff_ne, ne_eq, sub_iff]
  constructor
  · intro h
    obtain ⟨i, hi⟩ := Classical.not_forall.1 h
    obtain ⟨h1, h2⟩ := Classical.not_imp.1 hi
    rw [maskL_bit] at h1
    simp at h1
    refine ⟨i, h1, ?_⟩
    rw [fmask_bit] at h2
    simp at h2
    exact h2 (ht i h1)
  · rintro ⟨i, hi, hf⟩ h
    have := h i (by rw [maskL_bit]; simp [hi])
    rw [fmask_bit, hf] at this
    simp at this
theorem clB_mask_false (l : List Cel) (xs : List (List Int)) {t : List Nat} (ht : ∀ i ∈ t, i < l.length) : clB l xs (maskL t) = false ↔ ∃ x ∈ xs, ∀ i ∈ t, fitC x (cellAt l i) = true := by
  rw [← Bool.not_eq_true, clB_mask l xs ht]
  constructor
  · intro h
    obtain ⟨x, hx⟩ := Classical.not_forall.1 h
    obtain ⟨h1, h2⟩ := Classical.not_imp.1 hx
    refine ⟨x, h1, fun i hi => ?_⟩
    cases hf : fitC x (cellAt l i)
    · exact absurd ⟨i, hi, hf⟩ h2
    · rfl
  · rintro ⟨x, hx, h⟩ hall
    obtain ⟨i, hi, hf⟩ := hall x hx
    rw [h i hi] at hf; cases hf

theorem Inc_range (n : Nat) : ∀ (k f : Nat), f + k = n → Inc n f (List.range' f k)
  | 0, f, h => by simp [Inc]
  | k + 1, f, h => by
    rw [List.range'_succ]
    exact ⟨Nat.le_refl _, by omega, Inc_range n k (f + 1) (by omega)⟩

theorem findSome_none {α β : Type} {f : α → Option β} {l : List α} (h : l.findSome? f = none) : ∀ a ∈ l, f a = none := by
  simpa using h

/-- the smallest set: it is one, and no smaller or earlier one is -/
theorem clashT_spec (l : List Cel) (xs : List (List Int)) {t : List Nat} (h : clashT l xs = some t) :
    Inc l.length 0 t ∧ t.length ≤ l.length ∧ clB l xs (maskL t) = true ∧ ∀ t', Inc l.length 0 t' → t'.length ≤ l.length → clB l xs (maskL t') = true → t.length < t'.length ∨ t'.length = t.length ∧ lexN t' t = false := by
  unfold clashT at h
  obtain ⟨l1, k, l2, e, hk, hno⟩ := List.findSome?_eq_some_iff.1 h
  obtain ⟨s1, s2⟩ := search_spec l.length (clB l xs) k 0 0
  obtain ⟨q1, q2, q3, q4⟩ := s1 t hk
  simp only [Nat.zero_or] at q3 q4
  have hlen1 : l1.length = k ∧ k < l.length + 1 := by
    have hg : (List.range (l.length + 1))[l1.length]? = some k := by rw [e]; simp
    rw [List.getElem?_range] at hg
    · obtain rfl := Option.some.inj hg
      have := congrArg List.length e
      simp at this
      omega
    · have := congrArg List.length e
      simp at this
      omega
  have hpre : ∀ j, j < k → search l.length (clB l xs) j 0 0 = none := by
    intro j hj
    refine hno j ?_
    have hg : (List.range (l.length + 1))[j]? = some j := List.getElem?_range (by omega)
    rw [e, List.getElem?_append_left (by omega)] at hg
    exact List.mem_of_getElem? hg
  refine ⟨q2, by omega, q3, fun t' h1 h2 h3 => ?_⟩
  rcases Nat.lt_trichotomy t'.length t.length with hlt | heq | hgt
  · exfalso
    have := (search_spec l.length (clB l xs) t'.length 0 0).2 (hpre _ (by omega)) t' rfl h1
    simp only [Nat.zero_or] at this
    rw [h3] at this; cases this
  · right
    exact ⟨heq, q4 t' (by omega) h1 h3⟩
  · exact .inl hgt

theorem clashT_none (l : List Cel) (xs : List (List Int)) : clashT l xs = none ↔ ∃ x ∈ xs, fitA l x = true := by
  constructor
  · intro h
    unfold clashT at h
    have hk := findSome_none h l.length (by simp)
    have := (search_spec l.length (clB l xs) l.length 0 0).2 hk (List.range' 0 l.length) (by simp) (Inc_range _ _ _ (by omega))
    simp only [Nat.zero_or] at this
    obtain ⟨x, hx, hf⟩ := (clB_mask_false l xs (fun i hi => by simp [List.mem_range'_1] at hi; omega)).1 this
    exact ⟨x, hx, (fitA_at l x).2 fun j hj => hf j (by simp [List.mem_range'_1]; omega)⟩
  · rintro ⟨x, hx, hf⟩
    cases hc : clashT l xs with
    | none => rfl
    | some t =>
      obtain ⟨q1, _, q3, _⟩ := clashT_spec l xs hc
      have hlt : ∀ i ∈ t, i < l.length := fun i hi => (Inc_lt q1 i hi).2
      obtain ⟨i, hi, hq⟩ := (clB_mask l xs hlt).1 q3 x hx
      rw [(fitA_at l x).1 hf i (hlt i hi)] at hq; cases hq

theorem lexN_total : ∀ (a b : List Nat), a.length = b.length → lexN a b = false → lexN b a = false → a = b
  | [], [], _, _, _ => rfl
  | [], _ :: _, h, _, _ => by simp at h
  | _ :: _, [], h, _, _ => by simp at h
  | x :: a, y :: b, h, h1, h2 => by
    unfold lexN at h1 h2
    by_cases e : x = y
    · subst e
      rw [if_pos rfl] at h1 h2
      rw [lexN_total a b (by simpa using h) h1 h2]
    · rw [if_neg e] at h1
      rw [if_neg (fun h => e h.symm)] at h2
      simp at h1 h2
      omega

/-- before, of lists -/
def befN (a b : List Nat) : Bool := if a.length = b.length then lexN a b else decide (a.length < b.length)
theorem befN_total {a b : List Nat} (h1 : befN a b = false) (h2 : befN b a = false) : a = b := by
  unfold befN at h1 h2
  by_cases e : a.length = b.length
  · rw [if_pos e] at h1
    rw [if_pos e.symm] at h2
    exact lexN_total a b e h1 h2
  · rw [if_neg e] at h1
    rw [if_neg (fun h => e h.symm)] at h2
    simp at h1 h2; omega
theorem lexN_irrefl : ∀ a : List Nat, lexN a a = false
  | [] => rfl
  | x :: a => by unfold lexN; rw [if_pos rfl]; exact lexN_irrefl a
theorem lexN_trans : ∀ (a b c : List Nat), lexN a b = true → lexN b c = true → lexN a c = true
  | [], _, _, h, _ => by simp [lexN] at h
  | _ :: _, [], _, h, _ => by simp [lexN] at h
  | _ :: _, _ :: _, [], _, h => by simp [lexN] at h
  | x :: a, y :: b, z :: c, h1, h2 => by
    unfold lexN at h1 h2 ⊢
    by_cases e1 : x = y
    · subst e1
      rw [if_pos rfl] at h1
      by_cases e2 : x = z
      · rw [if_pos e2] at h2 ⊢; exact lexN_trans a b c h1 h2
      · rw [if_neg e2] at h2 ⊢; exact h2
    · rw [if_neg e1] at h1
      simp at h1
      by_cases e2 : y = z
      · rw [if_neg (by omega)]; simp; omega
      · rw [if_neg e2] at h2
        simp at h2
        rw [if_neg (by omega)]; simp; omega
end Go.Proofs.Ytdcflpfaaeijoaa
