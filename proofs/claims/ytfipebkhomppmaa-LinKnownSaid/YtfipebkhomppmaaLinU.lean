/- Plain: a pixel's weight and value. -/
import Derived.Test.YtfipebkhomppmaaLinO
import Derived.Test.YtfipebkhomppmaaLinS
namespace Go.Proofs.Ytfipebkhomppmaa
set_option linter.unusedVariables false

/-- equal fractions in lowest terms -/
theorem ratioF_eq {a b c d : Int} (hb : 0 < b) (hd : 0 < d) (h : a * d = c * b) : ratioF a b = ratioF c d := by
  have g1 : 0 < Int.gcd a b := Nat.pos_of_ne_zero fun e => by have := (Int.gcd_eq_zero_iff.1 e).2; omega
  have g2 : 0 < Int.gcd c d := Nat.pos_of_ne_zero fun e => by have := (Int.gcd_eq_zero_iff.1 e).2; omega
  have k1 : Int.gcd (a * d) (b * d) = Int.gcd a b * d.natAbs := Int.gcd_mul_right _ _ _
  have k2 : Int.gcd (c * b) (d * b) = Int.gcd c d * b.natAbs := Int.gcd_mul_right _ _ _
  rw [h, Int.mul_comm b d, k2] at k1
  obtain ⟨a1, ha⟩ := Int.gcd_dvd_left a b
  obtain ⟨b1, hb1⟩ := Int.gcd_dvd_right a b
  obtain ⟨c1, hc⟩ := Int.gcd_dvd_left c d
  obtain ⟨d1, hd1⟩ := Int.gcd_dvd_right c d
  unfold ratioF
  obtain ⟨G, hG⟩ : ∃ G : Int, G = ((Int.gcd a b : Nat) : Int) := ⟨_, rfl⟩
  obtain ⟨H, hH⟩ : ∃ G : Int, G = ((Int.gcd c d : Nat) : Int) := ⟨_, rfl⟩
  have k3 : H * b = G * d := by
    have := congrArg (fun n : Nat => (n : Int)) k1
    simp only [Int.natCast_mul] at this
    rw [← hG, ← hH] at this
    rw [show ((b.natAbs : Nat) : Int) = b by omega, show ((d.natAbs : Nat) : Int) = d by omega] at this
    exact this
  rw [← hG] at ha hb1 ⊢
  rw [← hH] at hc hd1 ⊢
  have hG0 : G ≠ 0 := by omega
  have hH0 : H ≠ 0 := by omega
  have e1 : b1 = d1 := by
    rw [hb1, hd1] at k3
    have : (H * G) * b1 = (H * G) * d1 := by grind
    exact Int.eq_of_mul_eq_mul_left (Int.mul_ne_zero hH0 hG0) this
  have hb10 : b1 ≠ 0 := fun e => by rw [e] at hb1; omega
  have e2 : a1 = c1 := by
    rw [ha, hd1, hc, hb1, ← e1] at h
    have : (G * H * b1) * a1 = (G * H * b1) * c1 := by grind
    exact Int.eq_of_mul_eq_mul_left (Int.mul_ne_zero (Int.mul_ne_zero hG0 hH0) hb10) this
  rw [Int.tdiv_eq_of_eq_mul_left hG0 (c := a1) (by rw [ha]; exact Int.mul_comm _ _), Int.tdiv_eq_of_eq_mul_left hG0 (c := b1) (by rw [hb1]; exact Int.mul_comm _ _),
    Int.tdiv_eq_of_eq_mul_left hH0 (c := c1) (by rw [hc]; exact Int.mul_comm _ _), Int.tdiv_eq_of_eq_mul_left hH0 (c := d1) (by rw [hd1]; exact Int.mul_comm _ _), e1, e2]

/-- 0 at all pixels but one -/
def zeroBut (n p : Nat) (r : List Int) : Bool := decide (∀ c, c < n → c ≠ p → vec r c = 0)
/-- a pixel's weight and what it sees of it -/
def weightF (M : List (List Int)) (n p : Nat) : Option (List Int × Int) :=
  match (JE M n).findIdx? (fun j => decide (j = p)) with
  | none => none
  | some k => if zeroBut n p ((RE M n)[k]?.getD []) = true then some (((RE M n)[k]?.getD []).drop n, vec ((RE M n)[k]?.getD []) p) else none

theorem weight_some {M : List (List Int)} {n p : Nat} (h : MaskOk M n) {z : List Int} {c : Int} (e : weightF M n p = some (z, c)) :
    ∃ k, knownAt M n k p ∧ z = ((RE M n)[k]?.getD []).drop n ∧ c = rowv (RE M n) k p := by
  unfold weightF at e
  cases hf : (JE M n).findIdx? (fun j => decide (j = p)) with
  | none => rw [hf] at e; cases e
  | some k =>
    rw [hf] at e
    simp only [] at e
    by_cases hz : zeroBut n p ((RE M n)[k]?.getD []) = true
    · rw [if_pos hz] at e
      simp only [Option.some.injEq, Prod.mk.injEq] at e
      obtain ⟨hk, h1, _⟩ := List.findIdx?_eq_some_iff_getElem.1 hf
      have hJ := h.ext_same.1
      refine ⟨k, ⟨by rw [← hJ]; exact hk, ?_, fun c hc hne => of_decide_eq_true hz c hc hne⟩, e.1.symm, e.2.symm⟩
      rw [← hJ]
      unfold jf
      rw [List.getElem?_eq_getElem hk]
      simpa using h1
    · rw [if_neg hz] at e; cases e
theorem weight_none {M : List (List Int)} {n p : Nat} (h : MaskOk M n) (e : weightF M n p = none) : ¬ knownF M n p := by
  rintro ⟨k, hk, hj, hz⟩
  have hJ := h.ext_same.1
  unfold weightF at e
  cases hf : (JE M n).findIdx? (fun j => decide (j = p)) with
  | none =>
    rw [List.findIdx?_eq_none_iff] at hf
    have := hf (jf (JE M n) k) (jf_mem (by rw [hJ]; exact hk))
    rw [hJ, hj] at this
    simp at this
  | some i =>
    rw [hf] at e
    simp only [] at e
    obtain ⟨hi, h1, _⟩ := List.findIdx?_eq_some_iff_getElem.1 hf
    have hji : jf (JP M n) i = p := by
      rw [← hJ]; unfold jf; rw [List.getElem?_eq_getElem hi]; simpa using h1
    have hi2 : i < (JP M n).length := by rw [← hJ]; exact hi
    have hik : i = k := Classical.byContradiction fun hne => by
      have h2 := (h.inv n).ech.red.off i hi2 k hk hne
      rw [hj, ← hji] at h2
      exact (h.inv n).ech.red.piv i hi2 h2
    subst hik
    rw [if_pos (show zeroBut n p ((RE M n)[i]?.getD []) = true from decide_eq_true hz)] at e
    cases e

theorem vec_drop (l : List Int) (n i : Nat) : vec (l.drop n) i = vec l (n + i) := by unfold vec; rw [List.getElem?_drop]

/-- what a weight is -/
theorem MaskOk.weight {M : List (List Int)} {n p : Nat} (h : MaskOk M n) {z : List Int} {c : Int} (e : weightF M n p = some (z, c)) :
    z.length = M.length ∧ (∀ i, -720 ≤ vec z i ∧ vec z i ≤ 720) ∧ 1 ≤ c ∧ c ≤ 720 ∧ (∀ j, j < n → sm (fun i => vec z i * rowv M i j) M.length = if j = p then c else 0) ∧
    ∃ k, knownAt M n k p ∧ c = rowv (RE M n) k p ∧ ∀ y : Vec, sm (fun i => vec z i * y i) M.length = dotY n (rowv (RE M n) k) y M.length := by
  obtain ⟨k, hk, rfl, rfl⟩ := weight_some h e
  have hkn := hk.1
  have hKN : (JP M n).length ≤ M.length := (h.inv n).K_le
  have hlen : (RE M n).length = M.length := by rw [pRed_len, extF_len]
  have hkl : k < (RE M n).length := by omega
  have hw : ((RE M n)[k]?.getD []).length = n + M.length := by
    rw [List.getElem?_eq_getElem hkl]; exact (h.einv n).wid _ (List.getElem_mem hkl)
  have hz : ∀ i, vec (((RE M n)[k]?.getD []).drop n) i = wtV n (rowv (RE M n) k) i := fun i => vec_drop _ _ _
  have hpos := (h.piv_pos hkn).2
  rw [hk.2.1] at hpos
  have hle := h.re_le (t := n) k p
  refine ⟨by rw [List.length_drop]; omega, fun i => by rw [hz]; exact h.re_le k _, by omega, hle.2, fun j hj => ?_, k, hk, rfl, fun y => ?_⟩
  · have h1 := h.weigh ((h.einv n).sp1 k (by omega)) hj
    have h2 : sm (fun i => vec (((RE M n)[k]?.getD []).drop n) i * rowv M i j) M.length = rowv (RE M n) k j := by
      rw [h1]; exact sm_congr fun i _ => by rw [hz]
    rw [h2]
    by_cases hjp : j = p
    · rw [if_pos hjp, hjp]
    · rw [if_neg hjp]; exact hk.2.2 j hj hjp
  · unfold dotY; exact sm_congr fun i _ => by rw [hz]

/-- where no reading's conflict is: the value of a known pixel -/
theorem MaskOk.value {M : List (List Int)} {n : Nat} (h : MaskOk M n) {y : List Int} (hy : y.length = M.length) {k p : Nat} (hk : knownAt M n k p) (hp : p < n) (hnc : ¬ confF M n y) :
    ∃ i, i < (rRed (withY M y) (n + 1)).piv.length ∧ jf (rRed (withY M y) (n + 1)).piv i = p ∧ 0 < vec ((rRed (withY M y) (n + 1)).done[i]?.getD []) p ∧
      dotY n (rowv (RE M n) k) (vec y) M.length * vec ((rRed (withY M y) (n + 1)).done[i]?.getD []) p = vec ((rRed (withY M y) (n + 1)).done[i]?.getD []) n * rowv (RE M n) k p := by
  have hw : ∀ r ∈ withY M y, r.length = n + 1 := fun r hr => by
    obtain ⟨r', h1, v, _, rfl⟩ := withY_mem hr
    simp [h.wid r' h1]
  have hnp : n ∉ (rRed (withY M y) (n + 1)).piv := fun hm => hnc ((h.conf_iff hy).2 hm)
  obtain ⟨q, hq⟩ := rRed_inv (withY M y) hw (n + 1)
  rw [withY_len hy] at q
  have h3 : ∀ v, Sp (RB (rRed (withY M y) (n + 1)).piv.length (rowv ((rRed (withY M y) (n + 1)).done ++ (rRed (withY M y) (n + 1)).left))) v ↔ Sp (RB M.length (rowv (withY M y))) v := fun v => by
    have := q.span (v := v) (fun q1 h1 h2 c => by
      rcases Nat.lt_or_ge c (n + 1) with hc | hc
      · exact q.zero q1 h1 h2 c hc
      · exact rowv_wid q.wid q1 hc)
    rw [this]
    have := primF_span (withY M y) v
    rwa [withY_len hy] at this
  have hkN : k < M.length := by
    have h1 : (JP M n).length ≤ M.length := (h.inv n).K_le
    have := hk.1; omega
  have hu := (h3 _).2 (gY_sp h hy ((h.einv n).sp1 k hkN))
  obtain ⟨U, hU⟩ : ∃ U, U = gY n (vec y) M.length (rowv (RE M n) k) := ⟨_, rfl⟩
  rw [← hU] at hu
  have hpos := (h.piv_pos hk.1).2
  rw [hk.2.1] at hpos
  have up : U p = rowv (RE M n) k p := by rw [hU]; unfold gY; rw [if_pos hp]
  have un : U n = dotY n (rowv (RE M n) k) (vec y) M.length := by rw [hU]; unfold gY; rw [if_neg (by omega), if_pos rfl]
  have u0 : ∀ c, c < n → c ≠ p → U c = 0 := fun c hc hne => by rw [hU]; unfold gY; rw [if_pos hc]; exact hk.2.2 c hc hne
  obtain ⟨i, hi, hji⟩ := (q.ech.pivot_iff p).2 ⟨U, hu, by omega, fun c hc => u0 c (by omega) (by omega)⟩
  have hrow : ∀ c, rowv ((rRed (withY M y) (n + 1)).done ++ (rRed (withY M y) (n + 1)).left) i c = vec ((rRed (withY M y) (n + 1)).done[i]?.getD []) c := fun c => by
    unfold rowv; rw [List.getElem?_append_left (by omega)]
  have hpp := (q.pp i hi).2
  rw [hji, hrow] at hpp
  refine ⟨i, hi, hji, hpp, ?_⟩
  have hz := q.ech.red.zero (v := fun c => rowv ((rRed (withY M y) (n + 1)).done ++ (rRed (withY M y) (n + 1)).left) i p * U c + (-(U p)) * rowv ((rRed (withY M y) (n + 1)).done ++ (rRed (withY M y) (n + 1)).left) i c) (Sp.lin _ _ hu (RB.sp hi)) (fun j hj => by
    by_cases hji2 : j = i
    · subst hji2; rw [hji]; grind
    · have hjl := q.jf_lt hj
      have hjn : jf (rRed (withY M y) (n + 1)).piv j ≠ n := fun e => hnp (by have := jf_mem hj; rwa [e] at this)
      have hjp : jf (rRed (withY M y) (n + 1)).piv j ≠ p := fun e => by
        have := q.ech.red.off j hj i hi hji2
        rw [hji, ← e] at this
        exact q.ech.red.piv j hj this
      have h1 := q.ech.red.off i hi j hj (fun e => hji2 e.symm)
      simp only [h1]
      rw [u0 _ (by omega) hjp]; simp) n
  simp only [hrow] at hz
  rw [up, un] at hz
  grind
end Go.Proofs.Ytfipebkhomppmaa
