/- Walks and plain laws for DualLeastRow, part 4. -/
import Derived.Maps.RangeWalk
import Derived.Sort.QuietIn
import Derived.Sort.LoopGhostIn
import Derived.Sort.CutIn
import Derived.Test.YtlffndehhhpgjaaGreatPkDualLeastRow3
namespace Go.Proofs.YtlffndehhhpgjaaGreat
set_option linter.unusedVariables false
set_option linter.unusedSimpArgs false
set_option maxRecDepth 100000
set_option maxHeartbeats 4000000
section
section
theorem sm_add_at {f g : Nat -> Int} {p : Nat} {x : Int} : ∀ {n : Nat}, p < n -> (∀ c, c < n -> f c = g c + if c = p then x else 0) -> sm f n = sm g n + x
 | n, hp, h => by rw [zAP h, zKC, zDP (f := fun c => if c = p then x else 0) hp (fun k _ hne => if_neg hne), if_pos rfl]
theorem dotS_set {r : Vec} {h : List Int} {p n : Nat} {x : Int} (hp : p < n) (hl : h.length = n) : dotS r (vec (h.set p x)) n = dotS r (vec h) n + r p * (x - vec h p) := by
 unfold dotS
 refine sm_add_at hp fun c hc => ?_
 rw [zNX (by omega)]
 by_cases e : c = p
 ·subst e; rw [if_pos rfl, if_pos rfl]; grind
 ·rw [if_neg e, if_neg e]; grind
theorem zIA {n : Nat} {S l : List Int} (h : zCP n S) {k : Nat} (hk : k < S.length) : ∀ t, t <= k -> vec (zAW n S l t) (S[k]).toNat = 0
 | 0, _ => by
   unfold zAW vec
   simp only [List.range_zero, List.foldl_nil, List.getElem?_replicate]
   split <;> rfl
 | t + 1, ht => by
   have htS : t < S.length := by omega
   have hS : S[t]?.getD 0 = S[t] := by rw [List.getElem?_eq_getElem htS]; rfl
   have g1 := h.get htS
   have g2 := h.get hk
   rw [zDO, hS, zNX (by rw [zCU]; omega), if_neg (fun c => by have := h.inj hk htS (by omega); omega)]
   exact zIA h hk t (by omega)
theorem zHJ {n : Nat} {S l : List Int} (h : zCP n S) (r : Vec) : ∀ k, k <= S.length -> dotS r (vec (zAW n S l k)) n = sm (fun i => zFF S r i * vec l i) k
 | 0, _ => by
   unfold dotS
   rw [zAP (g := fun _ => 0) (fun c _ => ?_), zFN]; rfl
   unfold zAW vec
   simp only [List.range_zero, List.foldl_nil, List.getElem?_replicate]
   split <;> simp
 | k + 1, hk => by
   have hkS : k < S.length := by omega
   have hS : S[k]?.getD 0 = S[k] := by rw [List.getElem?_eq_getElem hkS]; rfl
   have g1 := h.get hkS
   rw [zDO, hS, dotS_set (by omega) (zCU n S l k), zHJ h r k (by omega), zIA h hkS k (Nat.le_refl _)]
   have : zFF S r k = r (S[k]).toNat := by unfold zFF; rw [List.getElem?_eq_getElem hkS]
   show _ = sm _ k + zFF S r k * vec l k
   rw [this]
   unfold vec
   simp
theorem zFD {M : List (List Int)} {n : Nat} {S l : List Int} (h : zCP n S) : zDS M n (vec (zAW n S l S.length)) ↔ zDS (zAQ M S) S.length (vec l) := by
 unfold zDS
 rw [zBG]
 have : ∀ q, dotS (rowv M q) (vec (zAW n S l S.length)) n = dotS (rowv (zAQ M S) q) (vec l) S.length := fun q => by
  rw [zHJ h _ _ (Nat.le_refl _), zHL]; rfl
 constructor
 ·intro hk q hq; rw [<- this]; exact hk q hq
 ·intro hk q hq; rw [this]; exact hk q hq
theorem zGH {n : Nat} {S l : List Int} (h : zCP n S) (hl : l.length = S.length) {c : Nat} : vec (zAW n S l S.length) c ≠ 0 ↔ ∃ i, ∃ hi : i < S.length, S[i] = (c : Int) ∧ vec l i ≠ 0 := by
 constructor
 ·intro hc
  by_cases hm : (c : Int) ∈ S
  ·obtain ⟨i, hi, e⟩ := List.mem_iff_getElem.1 hm
   refine ⟨i, hi, e, fun h0 => hc ?_⟩
   have := zDN (l := l) h S.length (Nat.le_refl _) i hi hi
   rw [show (S[i]).toNat = c by omega] at this
   rw [this]; exact h0
  ·exact absurd (zFC h hm _ (Nat.le_refl _)) hc
 ·rintro ⟨i, hi, e, hz⟩ h0
  have := zDN (l := l) h S.length (Nat.le_refl _) i hi hi
  rw [show (S[i]).toNat = c by omega, h0] at this
  exact hz this.symm
theorem zHR {n : Nat} {S : List Int} (h : zCP n S) {v : Vec} (h0 : ∀ c, c < n -> (c : Int) ∉ S -> v c = 0) {c : Nat} (hc : c < n) : vec (zAW n S (S.map fun j => v j.toNat) S.length) c = v c := by
 by_cases hm : (c : Int) ∈ S
 ·obtain ⟨i, hi, e⟩ := List.mem_iff_getElem.1 hm
  have := zDN (l := S.map fun j => v j.toNat) h S.length (Nat.le_refl _) i hi hi
  rw [show (S[i]).toNat = c by omega] at this
  rw [this, List.getElem?_map, List.getElem?_eq_getElem hi]
  show v (S[i]).toNat = v c
  rw [e]; rfl
 ·rw [zFC h hm _ (Nat.le_refl _), h0 c hc hm]
theorem zDS.congr {M : List (List Int)} {n : Nat} {u v : Vec} (h : zDS M n u) (e : ∀ c, c < n -> u c = v c) : zDS M n v := fun q hq => by
 have := h q hq
 unfold dotS at *
 rw [zAP (g := fun c => rowv M q c * u c) (fun c hc => by rw [e c hc])]; exact this
theorem primV_vec (h : List Int) : ∃ x y : Int, 0 < x ∧ (y = 1 ∨ y = -1) ∧ ∀ c, x * vec (zMW h) c = y * vec h c := by
 obtain ⟨g, hg, e⟩ := zBU h
 unfold zMW
 split
 ·exact ⟨g, -1, hg, .inr rfl, fun c => by rw [zKU, <- e c]; grind⟩
 ·exact ⟨g, 1, hg, .inl rfl, fun c => by rw [e c]; omega⟩
theorem zJQ {M : List (List Int)} {n : Nat} (h : MaskOk M n) {S c : List Int} (hS : zCP n S) (hc : zFZ M n S = some c) :
 ∃ l, zIR M S = [l] ∧ l.length = S.length ∧ (∀ i, i < S.length -> vec l i ≠ 0) ∧ c = zMW (zAW n S l S.length) := by
 unfold zFZ at hc
 split at hc
 ·rename_i l hl
  have hm : l ∈ kerSR M S := by rw [<- kerS_same h, hl]; simp
  have hlen := kerSR_len hm
  by_cases h0 : l.contains 0 = true
  ·rw [if_pos h0] at hc; cases hc
  ·rw [if_neg h0] at hc
   cases hc
   refine ⟨l, hl, hlen, fun i hi e => h0 ?_, rfl⟩
   rw [zCQ (by omega)] at e
   rw [List.contains_iff_mem, <- e]
   exact List.getElem_mem _
 ·cases hc
theorem zJB {M : List (List Int)} {n : Nat} (h : MaskOk M n) {S c : List Int} (hS : zCP n S) (hc : zFZ M n S = some c) (j : Nat) : vec c j ≠ 0 ↔ (j : Int) ∈ S := by
 obtain ⟨l, hl, hlen, hnz, rfl⟩ := zJQ h hS hc
 obtain ⟨x, y, hx, hy, e⟩ := primV_vec (zAW n S l S.length)
 have h1 : vec (zMW (zAW n S l S.length)) j ≠ 0 ↔ vec (zAW n S l S.length) j ≠ 0 := by
  have := e j
  constructor
  ·intro h0 h1; rw [h1] at this; exact h0 (zAT (g := x) (by omega) (by simpa using this))
  ·intro h0 h1; rw [h1] at this; exact h0 (zAT (g := y) (by omega) (by simpa using this.symm))
 rw [h1, zGH hS hlen]
 constructor
 ·rintro ⟨i, hi, e, _⟩; rw [<- e]; exact List.getElem_mem hi
 ·intro hm
  obtain ⟨i, hi, e⟩ := List.mem_iff_getElem.1 hm
  exact ⟨i, hi, e, hnz i hi⟩
theorem kerSP_one {M : List (List Int)} {S l : List Int} (hl : zIR M S = [l]) : ∃ f, zEX (JP (zAQ M S) S.length) S.length = [f] ∧ l = zBP (rawP (RP (zAQ M S) S.length) (JP (zAQ M S) S.length) S.length f) := by
 unfold zIR zMA at hl
 obtain ⟨f, hf, e⟩ : ∃ f, zEX (JP (zAQ M S) S.length) S.length = [f] ∧ _ = l := by
  cases hfr : zEX (JP (zAQ M S) S.length) S.length with
  | nil => rw [show zEX (pRed (zAQ M S) S.length).2 S.length = [] from hfr] at hl; simp at hl
  | cons f t =>
    rw [show zEX (pRed (zAQ M S) S.length).2 S.length = f :: t from hfr] at hl
    simp only [List.map_cons, List.cons.injEq] at hl
    have ht : t = [] := by simpa using hl.2
    subst ht
    exact ⟨f, rfl, hl.1⟩
 exact ⟨f, hf, e.symm⟩
theorem circ_least {M : List (List Int)} {n : Nat} (h : MaskOk M n) {S c : List Int} (hS : zCP n S) (hc : zFZ M n S = some c) {v : Vec} (hv : zDS M n v) (h0 : ∀ j, j < n -> (j : Int) ∉ S -> v j = 0) (hne : ∃ j, j < n ∧ v j ≠ 0) :
 ∀ j : Nat, (j : Int) ∈ S -> v j ≠ 0 := by
 obtain ⟨l, hl, hlen, hnz, rfl⟩ := zJQ h hS hc
 obtain ⟨f, hf, hlf⟩ := kerSP_one hl
 have hk : zDS (zAQ M S) S.length (vec (S.map fun j => v j.toNat)) := (zFD hS).1 (hv.congr fun c hc => (zHR hS h0 hc).symm)
 obtain ⟨g, hg, e⟩ := zBU (rawP (RP (zAQ M S) S.length) (JP (zAQ M S) S.length) S.length f)
 rw [<- hlf] at e
 have hfS : f < S.length := by
  have : f ∈ zEX (JP (zAQ M S) S.length) S.length := by rw [hf]; simp
  simpa using (List.mem_filter.1 this).1
 -- w i * l f = l i * w f
 have key : ∀ i, i < S.length -> vec (S.map fun j => v j.toNat) i * vec l f = vec l i * vec (S.map fun j => v j.toNat) f := by
  intro i hi
  have := (h.cols S).ker_one hf hk hi
  rw [<- e, <- e] at this
  refine Int.eq_of_mul_eq_mul_left (show g ≠ 0 by omega) ?_
  grind
 have hw : ∀ i (hi : i < S.length), vec (S.map fun j => v j.toNat) i = v (S[i]).toNat := fun i hi => by
  unfold vec; rw [List.getElem?_map, List.getElem?_eq_getElem hi]; rfl
 have hwf : vec (S.map fun j => v j.toNat) f ≠ 0 := by
  intro hz
  obtain ⟨j, hj, hvj⟩ := hne
  have hm : (j : Int) ∈ S := by
   rcases Classical.em ((j : Int) ∈ S) with c | c
   ·exact c
   ·exact absurd (h0 j hj c) hvj
  obtain ⟨i, hi, ei⟩ := List.mem_iff_getElem.1 hm
  have := key i hi
  rw [hz, hw i hi, show (S[i]).toNat = j by omega, Int.mul_zero] at this
  rcases Int.mul_eq_zero.1 this with a | a
  ·exact hvj a
  ·exact hnz f hfS a
 intro j hm hz
 obtain ⟨i, hi, ei⟩ := List.mem_iff_getElem.1 hm
 have := key i hi
 rw [hw i hi, show (S[i]).toNat = j by omega, hz, Int.zero_mul] at this
 rcases Int.mul_eq_zero.1 this.symm with a | a
 ·exact hnz i hi a
 ·exact hwf a
theorem circP_mem {M : List (List Int)} {n : Nat} {c : List Int} : c ∈ circP M n ↔ ∃ k S, k < min (zEW M n + 1) n ∧ S ∈ comb n (k + 1) 0 ∧ zFZ M n S = some c := by
 unfold circP
 simp only [List.mem_flatMap, List.mem_range, List.mem_filterMap]
 constructor
 ·rintro ⟨k, hk, S, hS, e⟩; exact ⟨k, S, hk, hS, e⟩
 ·rintro ⟨k, S, hk, hS, e⟩; exact ⟨k, hk, S, hS, e⟩
theorem zNT {M : List (List Int)} {n : Nat} (h : MaskOk M n) {S c : List Int} (hS : zCP n S) (hne : S ≠ []) (hc : zFZ M n S = some c) :
 c.length = n ∧ zDS M n (vec c) ∧ (∀ j, (vec c j).natAbs <= 518400) ∧ Prim (vec c) ∧ 0 < zCD c := by
 obtain ⟨l, hl, hlen, hnz, rfl⟩ := zJQ h hS hc
 have hm : l ∈ zIR M S := by rw [hl]; simp
 obtain ⟨k1, k2, k3, _⟩ := (h.cols S).kern hm
 obtain ⟨x, y, hx, hy, e⟩ := primV_vec (zAW n S l S.length)
 have hkS := (zFD (M := M) hS).2 k1
 have hSp : 0 < S.length := List.length_pos_iff.2 hne
 refine ⟨?_, ?_, ?_, ?_, ?_⟩
 ·unfold zMW
  split
  ·unfold negF; rw [List.length_map, zCX, zCU]
  ·rw [zCX, zCU]
 ·intro q hq
  have h1 := hkS q hq
  refine zAT (g := x) (by omega) ?_
  unfold dotS at *
  rw [<- zDG, zAP (g := fun c => y * (rowv M q c * vec (zAW n S l S.length) c)) (fun c _ => by have := e c; grind), zDG, h1]; simp
 ·intro j
  have h1 : (vec (zMW (zAW n S l S.length)) j).natAbs <= (vec (zAW n S l S.length) j).natAbs := by
   have := congrArg Int.natAbs (e j)
   rw [Int.natAbs_mul, Int.natAbs_mul] at this
   have hy1 : y.natAbs = 1 := by omega
   rw [hy1, Nat.one_mul] at this
   rw [<- this]; exact Nat.le_mul_of_pos_left _ (by omega)
  refine Nat.le_trans h1 ?_
  by_cases hm : (j : Int) ∈ S
  ·obtain ⟨i, hi, ei⟩ := List.mem_iff_getElem.1 hm
   have := zDN (l := l) hS S.length (Nat.le_refl _) i hi hi
   rw [show (S[i]).toNat = j by omega] at this
   rw [this]; exact k3 i
  ·rw [zFC hS hm _ (Nat.le_refl _)]; simp
 ·have hp : Prim (vec (zBP (zAW n S l S.length))) := by
   rcases zDJ (zAW n S l S.length) with a | a
   ·exact a
   ·exfalso
    obtain ⟨g, hg, e2⟩ := zBU (zAW n S l S.length)
    have h1 := e2 (S[0]).toNat
    rw [a, zDN hS S.length (Nat.le_refl _) 0 hSp hSp] at h1
    exact hnz 0 hSp (by unfold vec; rw [<- h1]; simp)
  unfold zMW
  split
  ·exact zOM (z := -1) (.inr rfl) (fun c => by rw [zKU]; omega) hp
  ·exact hp
 ·-- the first number that is not 0
  have hz : ∀ m : List Int, (∃ j, vec m j ≠ 0) -> zCD m ≠ 0 := by
   intro m
   induction m with
   | nil => rintro ⟨j, hj⟩; simp [vec] at hj
   | cons a m ih =>
     rintro ⟨j, hj⟩
     unfold zCD
     by_cases ha : a = 0
     ·rw [if_pos ha]
      match j, hj with
      | 0, hj => simp [vec] at hj; exact absurd ha hj
      | j + 1, hj => exact ih ⟨j, by simpa [vec] using hj⟩
     ·rw [if_neg ha]; exact ha
  have hn : ∀ m : List Int, zCD (negF m) = - zCD m := by
   intro m
   induction m with
   | nil => rfl
   | cons a m ih =>
     show (if -a = 0 then zCD (negF m) else -a) = -(if a = 0 then zCD m else a)
     by_cases ha : a = 0
     ·rw [if_pos ha, if_pos (by omega), ih]
     ·rw [if_neg ha, if_neg (by omega)]
  have hs : zCD (zBP (zAW n S l S.length)) ≠ 0 := by
   refine hz _ ⟨(S[0]).toNat, fun h0 => ?_⟩
   obtain ⟨g, hg, e2⟩ := zBU (zAW n S l S.length)
   have h1 := e2 (S[0]).toNat
   rw [h0, zDN hS S.length (Nat.le_refl _) 0 hSp hSp] at h1
   exact hnz 0 hSp (by unfold vec; rw [<- h1]; simp)
  unfold zMW
  split
  ·rw [hn]; omega
  ·omega
theorem zLW {α : Type} [BEq α] [LawfulBEq α] : ∀ {l m : List α}, l.Nodup -> (∀ x ∈ l, x ∈ m) -> l.length <= m.length
 | [], _, _, _ => Nat.zero_le _
 | x :: l, m, hn, h => by
   rw [List.nodup_cons] at hn
   have hx := h x (by simp)
   have := zLW (l := l) (m := m.erase x) hn.2 (fun y hy => (List.mem_erase_of_ne (fun e => hn.1 (by rw [<- e]; exact hy))).2 (h y (by simp [hy])))
   rw [List.length_erase_of_mem hx] at this
   have := List.length_pos_of_mem hx
   simp only [List.length_cons]; omega
def zBD (n : Nat) (v : Vec) : List Int := ((List.range n).filter (fun c => decide (v c ≠ 0))).map (fun c : Nat => (c : Int))
theorem zCG {n : Nat} {v : Vec} {j : Nat} : (j : Int) ∈ zBD n v ↔ j < n ∧ v j ≠ 0 := by
 unfold zBD
 simp only [List.mem_map, List.mem_filter, List.mem_range]
 constructor
 ·rintro ⟨c, ⟨h1, h2⟩, e⟩
  have : c = j := by omega
  subst this; exact ⟨h1, by simpa using h2⟩
 ·rintro ⟨h1, h2⟩; exact ⟨j, ⟨h1, by simpa using h2⟩, rfl⟩
theorem zEN (n : Nat) (v : Vec) : zCP n (zBD n v) := by
 constructor
 ·unfold zBD
  rw [List.pairwise_map]
  exact (List.pairwise_lt_range.filter _).imp (fun h => by omega)
 ·intro y hy
  unfold zBD at hy
  obtain ⟨c, hc, rfl⟩ := List.mem_map.1 hy
  have := List.mem_range.1 (List.mem_filter.1 hc).1
  omega
theorem zMO {M : List (List Int)} {n : Nat} (h : MaskOk M n) : ∀ (s : Nat) (v : Vec), (zBD n v).length = s -> zDS M n v -> (∃ j, j < n ∧ v j ≠ 0) -> ∃ S c, zCP n S ∧ S.length <= s ∧ S ≠ [] ∧ (∀ y ∈ S, y ∈ zBD n v) ∧ zFZ M n S = some c := by
 intro s
 induction s using Nat.strongRecOn with
 | ind s ih =>
   intro v hs hv hne
   have hS := zEN n v
   obtain ⟨S, hSe⟩ := exq (zBD n v)
   rw [<- hSe] at hS hs
   have h0 : ∀ j, j < n -> (j : Int) ∉ S -> v j = 0 := fun j hj hm => by
    rcases Classical.em (v j = 0) with c | c
    ·exact c
    ·exact absurd (by rw [hSe]; exact zCG.2 ⟨hj, c⟩) hm
   have hne2 : S ≠ [] := by
    obtain ⟨j, hj, hvj⟩ := hne
    intro e
    have : (j : Int) ∈ S := by rw [hSe]; exact zCG.2 ⟨hj, hvj⟩
    rw [e] at this; simp at this
   have hk : zDS (zAQ M S) S.length (vec (S.map fun j => v j.toNat)) := (zFD hS).1 (hv.congr fun c hc => (zHR hS h0 hc).symm)
   have hc := h.cols S
   have hw : ∀ i (hi : i < S.length), vec (S.map fun j => v j.toNat) i ≠ 0 := fun i hi => by
    have : vec (S.map fun j => v j.toNat) i = v (S[i]).toNat := by unfold vec; rw [List.getElem?_map, List.getElem?_eq_getElem hi]; rfl
    rw [this]
    have hm : ((S[i]).toNat : Int) ∈ zBD n v := by
     have g := hS.get hi
     rw [show ((S[i]).toNat : Int) = S[i] by omega, <- hSe]; exact List.getElem_mem hi
    exact (zCG.1 hm).2
   -- the free columns
   have hfree : ∃ f, f < S.length ∧ f ∉ JP (zAQ M S) S.length := by
    refine Classical.byContradiction fun hno => ?_
    have hall : ∀ f, f < S.length -> f ∈ JP (zAQ M S) S.length := fun f hf => Classical.byContradiction fun hn => hno ⟨f, hf, hn⟩
    have hSp : 0 < S.length := List.length_pos_iff.2 hne2
    obtain ⟨i, hi, e⟩ := mem_jf (hall 0 hSp)
    have hr := hc.ker_iff.1 hk i hi
    rw [hc.dot_row _ hi, zAP (g := fun _ => 0) (fun c hcl => if_pos (hall c hcl)), zFN, e] at hr
    have hp : 0 < rowv (RP (zAQ M S) S.length) i (jf (JP (zAQ M S) S.length) i) := ((hc.inv S.length).pp i hi).2
    rw [e] at hp
    rcases Int.mul_eq_zero.1 (show rowv (RP (zAQ M S) S.length) i 0 * vec (S.map fun j => v j.toNat) 0 = 0 by omega) with a | a
    ·omega
    ·exact hw 0 hSp a
   obtain ⟨f, hf, hfJ⟩ := hfree
   have hfm : f ∈ zEX (JP (zAQ M S) S.length) S.length := List.mem_filter.2 ⟨by simpa using hf, by simpa using hfJ⟩
   rcases Classical.em (∃ f2, f2 ∈ zEX (JP (zAQ M S) S.length) S.length ∧ f2 ≠ f) with ⟨f2, hf2, hne3⟩ | hone
   ·-- a second free column: a vector with a smaller support
    obtain ⟨g1, g2⟩ := List.mem_filter.1 hf2
    have hf2S : f2 < S.length := by simpa using g1
    have hf2J : f2 ∉ JP (zAQ M S) S.length := by simpa using g2
    obtain ⟨t, ht, _, r1, r2, _⟩ := hc.raw hf hfJ
    have hrk := hc.raw_ker hf hfJ
    have hlen : (rawP (RP (zAQ M S) S.length) (JP (zAQ M S) S.length) S.length f).length = S.length := by unfold rawP; rw [zEI]; simp
    obtain ⟨u, hu⟩ := exq (vec (zAW n S (rawP (RP (zAQ M S) S.length) (JP (zAQ M S) S.length) S.length f) S.length))
    have huk : zDS M n u := by rw [hu]; exact (zFD hS).2 hrk
    have hsub : ∀ y ∈ zBD n u, y ∈ S ∧ y ≠ S[f2] := by
     intro y hy
     have gy := (zEN n u).2 y hy
     have hy' : ((y.toNat : Nat) : Int) ∈ zBD n u := by rw [show ((y.toNat : Nat) : Int) = y by omega]; exact hy
     obtain ⟨_, hz⟩ := zCG.1 hy'
     rw [hu] at hz
     obtain ⟨i, hi, ei, hzi⟩ := (zGH hS hlen).1 hz
     have e1 : S[i] = y := by omega
     refine ⟨by rw [<- e1]; exact List.getElem_mem hi, fun e2 => ?_⟩
     have := hS.inj hi hf2S (by rw [e1, e2])
     subst this
     exact hzi (r2 i hf2J hne3)
    have hlt : (zBD n u).length < s := by
     have hnd : (zBD n u).Nodup := (zEN n u).1.imp (fun h => by omega)
     have h1 : (S[f2] :: zBD n u).length <= S.length := by
      refine zLW ?_ ?_
      ·exact List.nodup_cons.2 ⟨fun hm => (hsub _ hm).2 rfl, hnd⟩
      ·intro y hy
       rcases List.mem_cons.1 hy with rfl | hy
       ·exact List.getElem_mem hf2S
       ·exact (hsub y hy).1
     simp only [List.length_cons] at h1
     omega
    have hune : ∃ j, j < n ∧ u j ≠ 0 := by
     have g := hS.get hf
     refine ⟨(S[f]).toNat, by omega, ?_⟩
     rw [hu, zGH hS hlen]
     exact ⟨f, hf, by omega, by rw [r1]; omega⟩
    obtain ⟨T, c, t1, t2, t3, t4, t5⟩ := ih _ hlt u rfl huk hune
    exact ⟨T, c, t1, by omega, t3, fun y hy => by rw [<- hSe]; exact (hsub y (t4 y hy)).1, t5⟩
   ·-- one free column: a circuit
    have hone' : zEX (JP (zAQ M S) S.length) S.length = [f] := by
     have hall : ∀ x ∈ zEX (JP (zAQ M S) S.length) S.length, x = f := fun x hx => Classical.byContradiction fun hn => hone ⟨x, hx, hn⟩
     have hnd : (zEX (JP (zAQ M S) S.length) S.length).Nodup := List.Pairwise.filter _ List.nodup_range
     match hL : zEX (JP (zAQ M S) S.length) S.length, hall, hnd with
     | [], _, _ => rw [hL] at hfm; simp at hfm
     | [x], hall, _ => rw [hall x (by simp)]
     | x :: y :: t, hall, hnd =>
       have h1 := hall x (by simp)
       have h2 := hall y (by simp)
       rw [h1, h2] at hnd
       simp at hnd
    have hl : zIR M S = [zBP (rawP (RP (zAQ M S) S.length) (JP (zAQ M S) S.length) S.length f)] := by
     show (zEX (JP (zAQ M S) S.length) S.length).map _ = _
     rw [hone']; rfl
    refine ⟨S, zMW (zAW n S (zBP (rawP (RP (zAQ M S) S.length) (JP (zAQ M S) S.length) S.length f)) S.length), hS, by omega, hne2, fun y hy => by rw [<- hSe]; exact hy, ?_⟩
    unfold zFZ
    rw [hl]
    simp only []
    rw [if_neg]
    intro h0'
    have hm : (0 : Int) ∈ zBP (rawP (RP (zAQ M S) S.length) (JP (zAQ M S) S.length) S.length f) := by simpa using h0'
    obtain ⟨i, hi, ei⟩ := List.mem_iff_getElem.1 hm
    have hiS : i < S.length := by
     rw [zCX] at hi
     unfold rawP at hi
     rw [zEI] at hi
     simpa using hi
    have h1 := hc.ker_one hone' hk hiS
    obtain ⟨g, hg, e⟩ := zBU (rawP (RP (zAQ M S) S.length) (JP (zAQ M S) S.length) S.length f)
    have h2 := e i
    rw [zCQ hi, ei, Int.mul_zero] at h2
    rw [<- h2, Int.zero_mul] at h1
    obtain ⟨t, ht, _, r1, _⟩ := hc.raw hf hfJ
    rw [r1] at h1
    rcases Int.mul_eq_zero.1 h1 with a | a
    ·exact hw i hiS a
    ·omega
end
section
def unitF (N i : Nat) : List Int := (List.replicate N 0).set i 1
def extF (M : List (List Int)) : List (List Int) := M.mapIdx (fun i r => r ++ unitF M.length i)
theorem vec_app_lt {a b : List Int} {c : Nat} (h : c < a.length) : vec (a ++ b) c = vec a c := by unfold vec; rw [List.getElem?_append_left h]
theorem vec_app_ge {a b : List Int} {c : Nat} (h : a.length <= c) : vec (a ++ b) c = vec b (c - a.length) := by unfold vec; rw [List.getElem?_append_right h]
abbrev RE (M : List (List Int)) (n : Nat) : List (List Int) := (pRed (extF M) n).1
def zEE (n : Nat) (v : Vec) : Vec := fun c => if c < n then v c else 0
theorem truncV_sp {B B' : Vec -> Prop} {n : Nat} (hB : ∀ v, B v -> Sp B' (zEE n v)) {v : Vec} (h : Sp B v) : Sp B' (zEE n v) :=
 Sp.map (zEE n) (by funext c; unfold zEE; split <;> rfl) (fun u v => by funext c; unfold zEE; split <;> simp) (fun k u => by funext c; unfold zEE; split <;> simp) hB h
theorem zGE {M : List (List Int)} {n : Nat} (h : MaskOk M n) {y : List Int} (hy : y.length = M.length) {q : Nat} (hq : q < M.length) (c : Nat) :
 rowv (zAI M y) q c = if c < n then rowv M q c else if c = n then vec y q else 0 := by
 have hw := h.wid _ (List.getElem_mem hq)
 have e : (zAI M y)[q]? = some (M[q] ++ [y[q]]) := by unfold zAI; rw [List.getElem?_zipWith, List.getElem?_eq_getElem hq, List.getElem?_eq_getElem (by omega)]
 unfold rowv
 rw [e, List.getElem?_eq_getElem hq]
 simp only [Option.getD_some]
 by_cases hc : c < n
 ·rw [if_pos hc, vec_app_lt (by rw [hw]; exact hc)]
 ·rw [if_neg hc, vec_app_ge (by rw [hw]; omega), hw]
  by_cases e2 : c = n
  ·rw [if_pos e2, e2, Nat.sub_self, zCQ (l := [y[q]]) (by simp), zCQ (l := y) (by omega)]; rfl
  ·rw [if_neg e2, zEY (by simp; omega)]
end
end
section
open Go.RowKit
def intsJ (J : List Nat) : List Int := J.map (fun j : Nat => (j : Int))
theorem intsJ_len (J : List Nat) : (intsJ J).length = J.length := by simp [intsJ]
theorem intsJ_vals (J : List Nat) : J.map (fun j : Nat => Value.int .i64 j) = (intsJ J).map (Value.int .i64) := by unfold intsJ; rw [List.map_map]; rfl
theorem zCW {W : World} {base : Nat} {v : Value} {n : Nat} {l : List Int} (h : W.ownsRow base 3 1 v n (l.map (Value.int .i64))) (hn : l.length = n) : ∃ a c, v = .slice a n c ∧ zAK W a l ∧ n <= maxLen := by
 subst hn
 rcases h.2 with ⟨rfl, h0⟩ | ⟨g, cap, cur, rfl, hbg, hgg, hnc, hcm, hsz, htk⟩
 ·exact ⟨none, 0, by rw [h0], fun j hj => by omega, by rw [h0]; decide⟩
 ·refine ⟨_, cap, rfl, ?_, by omega⟩
  have := (zFW.own (S := fun _ => True) (base := base) ⟨h.1, .inr ⟨g, cap, cur, rfl, hbg, hgg, hnc, hcm, hsz, htk⟩⟩ (show l.length <= maxLen by omega) (fun _ _ => trivial)).ints
  exact this.2.2
end
section
open Go.RowKit
theorem zNE {P : Program} {c : Code} {Q : Exit -> Act -> World -> Prop} {a : Act} {w : World} (R : Act -> Act -> World -> Prop) (h1 : c.wp P (fun e a' w' => e = .normal ∧ R a a' w') a w) (h2 : ∀ a' w', R a a' w' -> Q .normal a' w') : c.wp P Q a w :=
 Code.wp_mono (fun e a' w' ⟨he, hr⟩ => by subst he; exact h2 a' w' hr) h1
theorem zCR {M : Mask} (h : okM M = true) : MaskOk M (zAF M) ∧ 1 <= M.length ∧ M.length <= 6 ∧ 1 <= zAF M ∧ zAF M <= 10 := by
 unfold okM inB at h
 simp only [Bool.and_eq_true, decide_eq_true_eq, List.all_eq_true] at h
 obtain ⟨⟨h1, h2⟩, h3⟩ := h
 have hr : ∀ r ∈ M, r.length = zAF M ∧ (1 <= r.length ∧ r.length <= 10) ∧ ∀ x ∈ r, -1 <= x ∧ x <= 1 := fun r hr => by
  have h4 := h3 r hr
  unfold zGL inB at h4
  simp only [Bool.and_eq_true, decide_eq_true_eq, List.all_eq_true] at h4
  obtain ⟨h5, ⟨h6, h7⟩, h8⟩ := h4
  exact ⟨h5, ⟨by omega, by omega⟩, h8⟩
 have h0 : M.length ≠ 0 := by omega
 have hm0 : M[0]'(by omega) ∈ M := List.getElem_mem _
 obtain ⟨k1, k2, _⟩ := hr _ hm0
 refine ⟨⟨fun r hr' => (hr r hr').1, by omega, fun r hr' c => zDT (P := fun x => -1 <= x ∧ x <= 1) (by decide) (hr r hr').2.2 c⟩, by omega, by omega, by omega, by omega⟩
theorem zDA {w : World} {a : Option Addr} {M : Mask} (H : zAO w a M) (h0 : 0 < M.length) :
 ∃ b off ra rc, a = some ⟨b, off, none⟩ ∧ b < w.heap.size ∧ w.cell? ⟨b, off, none⟩ = some (.slice ra (zAF M) rc) := by
 obtain ⟨b, off, ra, rn, rc, rfl, hb, hc, hn, _, _⟩ := H 0 h0
 refine ⟨b, off, ra, rc, rfl, hb, ?_⟩
 have e : zAF M = rn := by unfold zAF; rw [List.getElem?_eq_getElem h0]; exact hn
 rw [e]; simpa using hc
end
section
theorem zOA : ∀ (m : Nat) (a : Int) (j : Nat), j < m -> (upF a m)[j]? = some (a + j)
 | 0, _, _, h => by omega
 | m + 1, a, 0, _ => by simp [upF]
 | m + 1, a, j + 1, h => by
   show (upF (a + 1) m)[j]? = _
   rw [zOA m (a + 1) j (by omega)]; congr 1; omega
theorem upF_snoc : ∀ (m : Nat) (a : Int), upF a (m + 1) = upF a m ++ [a + m]
 | 0, a => by simp [upF]
 | m + 1, a => by
   show a :: upF (a + 1) (m + 1) = a :: (upF (a + 1) m ++ _)
   rw [upF_snoc m (a + 1)]
   congr 3; omega
theorem upF_range (m : Nat) : ∀ a : Nat, upF (a : Int) m = (List.range' a m).map (fun j : Nat => (j : Int)) := by
 induction m with
 | zero => intro a; rfl
 | succ m ih =>
   intro a
   show (a : Int) :: upF ((a : Int) + 1) m = _
   have := ih (a + 1)
   rw [show ((a : Int) + 1) = ((a + 1 : Nat) : Int) by omega, this]
   simp [List.range'_succ]
def zMR (n k : Nat) (x : List Int) (m : Nat) : Prop := ∀ j, m <= j -> j < k -> x[j]? = some ((n : Int) - k + j)
theorem tail_le {n k m : Nat} {x : List Int} (hl : x.length = k) (hp : x.Pairwise (· < ·)) (hb : ∀ y ∈ x, y < (n : Int)) (hm : m < k) (ht : zMR n k x (m + 1)) : x[m]?.getD 0 <= (n : Int) - k + m := by
 have hml : m < x.length := by omega
 rw [List.getElem?_eq_getElem hml]
 by_cases e : m + 1 = k
 ·have := hb _ (List.getElem_mem hml); simp; omega
 ·have h1 := ht (m + 1) (Nat.le_refl _) (by omega)
  have hml1 : m + 1 < x.length := by omega
  rw [List.getElem?_eq_getElem hml1] at h1
  have h2 := List.pairwise_iff_getElem.1 hp m (m + 1) hml hml1 (by omega)
  have h3 := Option.some.inj h1
  simp; omega
theorem tail_step {n k m : Nat} {x : List Int} (hl : x.length = k) (hm : m < k) (ht : zMR n k x (m + 1)) (he : x[m]?.getD 0 = (n : Int) - k + m) : zMR n k x m := by
 intro j h1 h2
 by_cases e : j = m
 ·subst e
  rw [List.getElem?_eq_getElem (by omega)] at he ⊢
  rw [<- he]; rfl
 ·exact ht j (by omega) h2
theorem tail_drop {n k m : Nat} {x : List Int} (hl : x.length = k) (hk : k <= n) (hm : m <= k) (ht : zMR n k x m) : x.drop m = upF ((n : Int) - (k - m : Nat)) (k - m) := by
 apply List.ext_getElem?
 intro j
 rw [List.getElem?_drop]
 rcases Nat.lt_or_ge j (k - m) with h | h
 ·rw [ht (m + j) (by omega) (by omega), zOA _ _ _ h]; congr 1; omega
 ·rw [List.getElem?_eq_none (by omega), List.getElem?_eq_none (by rw [zFM]; omega)]
theorem next_none {n k : Nat} {x : List Int} (hl : x.length = k) (hk : k <= n) (ht : zMR n k x 0) : zHT n x = none := by
 have := tail_drop hl hk (Nat.zero_le _) ht
 rw [List.drop_zero, Nat.sub_zero] at this
 rw [this]
 exact zOP k _ (by omega)
def zIV (x : List Int) (m j : Nat) : List Int := x.take m ++ upF (x[m]?.getD 0 + 1) (j - m) ++ x.drop j
theorem fillS_len {x : List Int} {m j : Nat} (h1 : m <= j) (h2 : j <= x.length) : (zIV x m j).length = x.length := by
 unfold zIV; simp [zFM]; omega
theorem fillS_get {x : List Int} {m j : Nat} (h1 : m < j) (h2 : j <= x.length) : (zIV x m j)[j - 1]?.getD 0 = x[m]?.getD 0 + (j - m : Nat) := by
 unfold zIV
 rw [List.getElem?_append_left (by simp [zFM]; omega), List.getElem?_append_right (by simp; omega)]
 simp only [List.length_take]
 rw [show j - 1 - min m x.length = j - m - 1 by omega, zOA _ _ _ (by omega)]
 simp; omega
theorem fillS_set {x : List Int} {m j : Nat} (h1 : m <= j) (h2 : j < x.length) : (zIV x m j).set j (x[m]?.getD 0 + (j + 1 - m : Nat)) = zIV x m (j + 1) := by
 unfold zIV
 have hl : (x.take m ++ upF (x[m]?.getD 0 + 1) (j - m)).length = j := by simp [zFM]; omega
 rw [List.set_append_right _ _ (by omega), hl, Nat.sub_self, List.drop_eq_getElem_cons h2, List.set_cons_zero, show j + 1 - m = (j - m) + 1 by omega, upF_snoc]
 simp
 omega
theorem fillS_start {x : List Int} {m : Nat} (hm : m < x.length) : x.set m (x[m]?.getD 0 + 1) = zIV x m (m + 1) := by
 have := fillS_set (x := x) (m := m) (j := m) (Nat.le_refl _) hm
 rw [show m + 1 - m = 1 by omega] at this
 unfold zIV at this ⊢
 rw [<- this]
 simp [upF]
theorem fillS_done {n k m : Nat} {x : List Int} (hl : x.length = k) (hk : k <= n) (hm : m < k) (ht : zMR n k x (m + 1)) (hlt : x[m]?.getD 0 < (n : Int) - k + m) : zHT n x = some (zIV x m k) := by
 have h1 := tail_drop hl hk (by omega) ht
 have hml : m < x.length := by omega
 have hx : x = x.take m ++ x[m] :: upF ((n : Int) - (k - (m + 1) : Nat)) (k - (m + 1)) := by
  rw [<- h1, <- List.drop_eq_getElem_cons hml, List.take_append_drop]
 have hd : x[m]?.getD 0 = x[m] := by rw [List.getElem?_eq_getElem hml]; rfl
 rw [hd] at hlt
 have h2 := nextS_at (n := (n : Int)) (m := k - (m + 1)) (d := x[m]) (by omega) (x.take m)
 rw [<- hx] at h2
 rw [h2]
 unfold zIV
 rw [hd, List.drop_eq_nil_of_le (by omega), List.append_nil, show k - (m + 1) + 1 = k - m by omega]
theorem zJZ {α : Type} {l : List α} {i : Nat} {x : α} (h : l[i]? = some x) : l.take i ++ [x] = l.take (i + 1) := by
 obtain ⟨hi, rfl⟩ := List.getElem?_eq_some_iff.1 h
 rw [List.take_succ_eq_append_getElem hi]
theorem take_all_at {α : Type} {l : List α} {i : Nat} {x : α} (h : l[i]? = some x) (hn : l[i + 1]? = none) : l.take (i + 1) = l := by
 exact List.take_of_length_le (List.getElem?_eq_none_iff.1 hn)
end
section
open Go.RowKit
attribute [local go_sem] Oper.semAt_some
theorem allI_upF (n : Nat) : allI n = upF 0 n := by
 have := upF_range n 0
 rw [show ((0 : Nat) : Int) = 0 from rfl] at this
 rw [this]
 unfold allI
 rw [List.range_eq_range']
theorem iter_sets (w0 : World) (n k kb nb : Nat) (hn : n <= 1000) (hk : k <= 1000) (hk1 : 1 <= k) (hkb : kb < w0.heap.size) (hnb : nb < w0.heap.size) (hf0 : w0.cell? ⟨kb, 0, none⟩ = some (.int .i64 k)) (hf1 : w0.cell? ⟨nb, 0, none⟩ = some (.int .i64 n)) :
 IterInts Tryz.prog 3 222 #[.pointer (some ⟨kb, 0, none⟩), .pointer (some ⟨nb, 0, none⟩)] (comb n k 0) (fun q => q = kb ∨ q = nb) w0 := by
 obtain ⟨xs, hxs⟩ := exq (comb n k 0)
 have hfacts : ∀ x ∈ xs, x.length = k ∧ x.Pairwise (· < ·) ∧ (∀ y ∈ x, y < (n : Int)) ∧ ∀ j : Nat, (0 : Int) <= x[j]?.getD 0 := fun x hx => by
  rw [hxs] at hx
  obtain ⟨h1, h2⟩ := zJA n k 0 x hx
  exact ⟨zCN n k 0 x hx, h1, fun y hy => by have := (h2 y hy).2; omega, fun j => by
   rcases Nat.lt_or_ge j x.length with h | h
   ·rw [List.getElem?_eq_getElem h]; have := (h2 _ (List.getElem_mem h)).1; simp; omega
   ·rw [List.getElem?_eq_none h]; simp⟩
 have hchn : Chn n none xs := by rw [hxs]; have := zOY n k 0; rwa [Int.zero_add] at this
 have hhead : k <= n -> xs[0]? = some (upF 0 k) := fun hkn => by
  rw [hxs]
  obtain ⟨t, ht⟩ := zML n k 0 hkn
  rw [ht]; rfl
 have hnil : ¬ k <= n -> xs = [] := fun h => by rw [hxs]; exact zEK n k 0 (by omega)
 rw [<- hxs]
 have HF := hid hfacts
 have HC := hid hchn
 have HH := hid hhead
 have HNL := hid hnil
 clear hfacts hchn hhead hnil hxs
 intro l J Jx W hb hJ hY h0
 have hg0 : W.cell? ⟨kb, 0, none⟩ = some (.int .i64 k) := (hb.cell (p := ⟨kb, 0, none⟩) hkb).trans hf0
 have hg1 : W.cell? ⟨nb, 0, none⟩ = some (.int .i64 n) := (hb.cell (p := ⟨nb, 0, none⟩) hnb).trans hf1
 have hkW : kb < W.heap.size := Nat.lt_of_lt_of_le hkb hb.size
 have hnW : nb < W.heap.size := Nat.lt_of_lt_of_le hnb hb.size
 have HJ := hid hJ
 have HY := hid hY
 have H0 := hid h0
 have HALL := hid (all_c W k hk)
 clear hJ hY h0 hf0 hf1 hb
 refine callsIn_of_wp Tryz.func222 rfl trivial ?_ rfl
 simp only [Tryz.ntmps222, List.size_toArray, List.length_cons, List.length_nil, Nat.reduceAdd, Nat.reduceSub, Array.replicate_succ, Array.replicate_zero, List.push_toArray, List.append_toArray, List.nil_append, List.cons_append]
 gi_wp2_with (refine ⟨trivial, rfl, ?_⟩; gi_at_call 194; refine (callsIn_wide.2 HALL.out).mono ?_; rintro e w1 ⟨v, rfl, ho1, hb1⟩; refine Stop.of ?_)
 refine Stop.go ?_
 obtain ⟨it, cap, rfl, hit, hr1⟩ := zIB ho1 (allI_len k) hk1
 rw [allI_upF] at hr1
 have hJ1 : J it [] w1 := HJ.out it _ _ _ hit (H0.out it hit) (Keep.of_below hb1)
 have hkb1 := hb1.block kb hkW
 have hnb1 := hb1.block nb hnW
 have hs1 := hb1.size
 clear ho1 HALL
 by_cases hkn : k <= n
 ·have hhead := HH.out hkn
  have hit1 := hr1.lt
  have HIT := hid hit
  clear hit
  gi_wp2
  gi_loopg [] xs.length (fun (g : Nat) wr => ∃ (i : Nat) (x : List Int), g = xs.length - i ∧ xs[i]? = some x ∧ J it (xs.take i) wr ∧ zBO wr it x ∧ wr.heap[kb]? = W.heap[kb]? ∧ wr.heap[nb]? = W.heap[nb]? ∧ W.heap.size <= wr.heap.size)
  case atStart => exact ⟨0, upF 0 k, by omega, hhead, by rw [List.take_zero]; exact hJ1, hr1, hkb1, hnb1, hs1⟩
  case round =>
   obtain ⟨i, x, rfl, hx, hJk, hrk, hfk, hfn, hsz⟩ := hrel
   have hxm : x ∈ xs := List.mem_of_getElem? hx
   obtain ⟨hxl, hxp, hxb, hxn⟩ := HF.out x hxm
   have hil : i < xs.length := (List.getElem?_eq_some_iff.1 hx).1
   obtain ⟨sp, hrow⟩ := hrk
   have hyk := HY.out it (xs.take i) x cap sp wr (by rw [zJZ hx]; exact List.take_prefix _ _) HIT.out (Array.getElem?_eq_some_iff.1 hrow).1 hJk hrow
   rw [hxl, zJZ hx] at hyk
   have hw0 : wr.cell? ⟨kb, 0, none⟩ = some (.int .i64 k) := (World.cell?_of_block (a := ⟨kb, 0, none⟩) hfk).trans hg0
   have hw1 : wr.cell? ⟨nb, 0, none⟩ = some (.int .i64 n) := (World.cell?_of_block (a := ⟨nb, 0, none⟩) hfn).trans hg1
   have hkn' : (k : Int) <= (n : Int) := by omega
   have HRK := hid (show zBO wr it x from ⟨sp, hrow⟩)
   have HFK := hid hfk
   have HFN := hid hfn
   have HX := hid hx
   have HXL := hid hxl
   have HXP := hid hxp
   have HXB := hid hxb
   have HXN := hid hxn
   clear hrow hJk hfk hfn hx hxm hxl hxp hxb hxn hhead hJ1 hr1 hkb1 hnb1
   obtain ⟨fn, tmps, assign, body, hy, hR⟩ := hyk
   gi_wp2
   refine ⟨rfl, hR.mono ?_⟩
   clear hR hy
   rintro e W3 (⟨rfl, hJ3, hs3, hk3⟩ | ⟨rfl, hJx⟩)
   ·have hr3 : zBO W3 it x := HRK.out.keep (hk3 it (Or.inr rfl))
    have hfk3 : W3.heap[kb]? = W.heap[kb]? := (hk3 kb (Or.inl (Or.inl rfl))).trans HFK.out
    have hfn3 : W3.heap[nb]? = W.heap[nb]? := (hk3 nb (Or.inl (Or.inr rfl))).trans HFN.out
    have hg30 : W3.cell? ⟨kb, 0, none⟩ = some (.int .i64 k) := (World.cell?_of_block (a := ⟨kb, 0, none⟩) hfk3).trans hg0
    have hg31 : W3.cell? ⟨nb, 0, none⟩ = some (.int .i64 n) := (World.cell?_of_block (a := ⟨nb, 0, none⟩) hfn3).trans hg1
    have HR3 := hid hr3
    have HK3 := hid hfk3
    have HN3 := hid hfn3
    have HJ3 := hid hJ3
    clear hr3 hfk3 hfn3 hJ3 hk3 hw0 hw1 HRK HFK HFN
    gi_wp2
    gi_loopw [5] (fun i5 wi => ∃ i0 : Int, i5 = .int .i64 i0 ∧ -1 <= i0 ∧ i0 < k ∧ zMR n k x (i0 + 1).toNat ∧ Below W3.heap.size W3 wi) (fun i5 _ => (intOf i5 + 1).toNat)
    case atStart =>
     refine ⟨k - 1, by first | rfl | (congr 1), by omega, by omega, ?_, Below.refl _ _⟩
     intro j h1 h2
     omega
    case round =>
     obtain ⟨i0, rfl, hi1, hi2, hT, hbi⟩ := hrel
     have hgk : wr.cell? ⟨kb, 0, none⟩ = some (.int .i64 k) := (hbi.cell (p := ⟨kb, 0, none⟩) (by show kb < _; omega)).trans hg30
     have hgn : wr.cell? ⟨nb, 0, none⟩ = some (.int .i64 n) := (hbi.cell (p := ⟨nb, 0, none⟩) (by show nb < _; omega)).trans hg31
     have hri := HR3.out.keep (hbi.block it HR3.out.lt)
     have HBI := hid hbi
     clear hbi
     by_cases h0 : 0 <= i0
     ·obtain ⟨m, rfl⟩ := Int.eq_ofNat_of_zero_le h0
      have e1 : ((m : Int) + 1).toNat = m + 1 := by omega
      rw [e1] at hT
      have hmk : m < k := by omega
      have hle := tail_le HXL.out HXP.out HXB.out hmk hT
      have hc : wr.cell? ⟨it, m, none⟩ = some (.int .i64 (x[m]?.getD 0)) := hri.cell (by rw [HXL.out]; exact hmk)
      have hw1 : wrap64 ((n : Int) - k) = (n : Int) - k := by unfold wrap64; omega
      have hw2 : wrap64 ((n : Int) - k + m) = (n : Int) - k + m := by unfold wrap64; omega
      have hz := hri.frozen m
      have hlt3 := hri.lt
      have HRI := hid hri
      clear hri
      have hm0 : (0 : Int) <= (m : Int) := by omega
      have hm1 : (m : Int) < (k : Int) := by omega
      have HT := hid hT
      by_cases he : x[m]?.getD 0 = (n : Int) - k + m
      ·have hst := tail_step HXL.out hmk hT he
       have hbe : (x[m]?.getD 0 == (n : Int) - k + m) = true := by simpa using he
       have HST := hid hst
       clear he hst hT hle
       gi_wp2
       gi_quiet (fail)
       gi_wp2
       refine ⟨⟨(m : Int) - 1, rfl, by omega, by omega, ?_, zAG HBI.out nq⟩, ?_⟩
       ·rw [show ((m : Int) - 1 + 1).toNat = m by omega]; exact HST.out
       ·simp [intOf]
      ·have hbe : (x[m]?.getD 0 == (n : Int) - k + m) = false := by simpa using he
       have hlt : x[m]?.getD 0 < (n : Int) - k + m := by omega
       have HLT := hid hlt
       clear he hT hle hlt
       gi_wp2
       gi_quiet (fail)
       have HRQ := hid (show zBO (wr.drewN nq) it x from HRI.out)
       have HBQ := hid (zAG HBI.out nq)
       have hgk2 : (wr.drewN nq).cell? ⟨kb, 0, none⟩ = some (.int .i64 k) := hgk
       have hc2 : (wr.drewN nq).cell? ⟨it, m, none⟩ = some (.int .i64 (x[m]?.getD 0)) := hc
       have hz2 : (wr.drewN nq).frozen? ⟨it, m, none⟩ = false := hz
       have hlt2 : it < (wr.drewN nq).heap.size := hlt3
       clear HRI HBI hgk hgn hc hz hlt3
       generalize wr.drewN nq = w4 at HRQ HBQ hgk2 hc2 hz2 hlt2 ⊢
       have hv : wrap64 (x[m]?.getD 0 + 1) = x[m]?.getD 0 + 1 := by
        have h1 := HLT.out
        have h2 : (0 : Int) <= x[m]?.getD 0 := HXN.out m
        unfold wrap64; omega
       have HV := hid hv
       clear hv
       have HKS := hid (HRQ.out.set m (by rw [HXL.out]; exact hmk) (x[m]?.getD 0 + 1))
       rw [fillS_start (by rw [HXL.out]; exact hmk)] at HKS
       have HW9 := hid (show wrap64 ((m : Int) + 1) = ((m + 1 : Nat) : Int) by unfold wrap64; omega)
       gi_wp2
       gi_loopw [6] (fun v wj => ∃ j : Nat, m + 1 <= j ∧ j <= k ∧ v = .int .i64 j ∧ zBO wj it (zIV x m j) ∧ Keep (fun q => q ≠ it) w4 wj) (fun v _ => k - (intOf v).toNat)
       case atStart => exact ⟨m + 1, Nat.le_refl _, by omega, by rw [show ((m : Int) + 1) = ((m + 1 : Nat) : Int) by omega], by have h := HKS.out; with_reducible (first | (rw [HV.out]; exact h) | exact h), Keep.set _ _ _ _⟩
       case round =>
        obtain ⟨j, hj1, hj2, rfl, hrj, hkj⟩ := hrel
        have hgj : wr.cell? ⟨kb, 0, none⟩ = some (.int .i64 k) := hkj.cell hgk2 (by have := HIT.out; omega)
        by_cases hjk : j < k
        ·have hlen := fillS_len (m := m) (j := j) (x := x) (by omega) (show j <= x.length by rw [HXL.out]; omega)
         have hget := fillS_get (x := x) (show m < j by omega) (by rw [HXL.out]; omega)
         have hset := fillS_set (x := x) (show m <= j by omega) (by rw [HXL.out]; omega)
         have hcj := hrj.cell (j := j - 1) (by rw [hlen, HXL.out]; omega)
         rw [hget] at hcj
         have hzj := hrj.frozen j
         have hcj2 := hrj.cell (j := j) (by rw [hlen, HXL.out]; exact hjk)
         obtain ⟨u, hu⟩ := exq ((zIV x m j)[j]?.getD 0)
         rw [<- hu] at hcj2
         have hltj := hrj.lt
         have hwj : wrap64 ((j : Int) - 1) = ((j - 1 : Nat) : Int) := by unfold wrap64; omega
         have hwv : wrap64 (x[m]?.getD 0 + ((j - m : Nat) : Int) + 1) = x[m]?.getD 0 + ((j + 1 - m : Nat) : Int) := by
          have h1 := HLT.out
          have h2 : (0 : Int) <= x[m]?.getD 0 := HXN.out m
          unfold wrap64; omega
         have HSJ := hid (hrj.set j (by rw [hlen, HXL.out]; exact hjk) (x[m]?.getD 0 + ((j + 1 - m : Nat) : Int)))
         rw [hset] at HSJ
         have i1 : (0 : Int) <= ((j - 1 : Nat) : Int) := by omega
         have i2 : ((j - 1 : Nat) : Int) < (k : Int) := by omega
         have i3 : (0 : Int) <= (j : Int) := by omega
         have i4 : (j : Int) < (k : Int) := by omega
         have HKJ := hid hkj
         obtain ⟨y, hy⟩ := exq (x[m]?.getD 0 + ((j - m : Nat) : Int))
         obtain ⟨z, hz⟩ := exq (x[m]?.getD 0 + ((j + 1 - m : Nat) : Int))
         rw [<- hy, <- hz] at hwv
         rw [<- hy] at hcj
         rw [<- hz] at HSJ
         obtain ⟨p, hp⟩ := exq (j - 1)
         rw [<- hp] at hcj hwj i1 i2
         have hjp : (j : Int) - 1 = (p : Int) := by omega
         clear hrj hkj hlen hget hset hy hz hp hu
         gi_wp2
         refine ⟨⟨j + 1, by omega, by omega, ?_, HSJ.out, HKJ.out.trans (Keep.set _ _ _ _)⟩, by simp [intOf]; omega⟩
         rw [show ((j : Int) + 1) = ((j + 1 : Nat) : Int) by omega]
        ·obtain rfl : j = k := by omega
         have hnx := HC.out.at HX.out
         rw [fillS_done HXL.out hkn hmk HT.out HLT.out] at hnx
         have hi1 : i + 1 < xs.length := (List.getElem?_eq_some_iff.1 hnx).1
         have HNX := hid hnx
         have HKJ := hid hkj
         have HRJ := hid hrj
         clear hnx hkj hrj
         gi_wp2
         gi_roundg (xs.length - (i + 1))
         case measure => omega
         case rel =>
          refine ⟨i + 1, zIV x m j, rfl, HNX.out, ?_, HRJ.out, ?_, ?_, ?_⟩
          ·exact HJ.out it _ W3 _ HIT.out HJ3.out ((Keep.of_below HBQ.out).trans HKJ.out)
          ·exact (HKJ.out.block kb (by have := HBQ.out.size; omega) (by have := HIT.out; omega)).trans ((HBQ.out.block kb (by omega)).trans HK3.out)
          ·exact (HKJ.out.block nb (by have := HBQ.out.size; omega) (by have := HIT.out; omega)).trans ((HBQ.out.block nb (by omega)).trans HN3.out)
          ·have := HKJ.out.size; have := HBQ.out.size; omega
     ·obtain rfl : i0 = -1 := by omega
      have hn0 : decide ((0 : Int) <= -1) = false := by decide
      have HT := hid hT
      clear hT
      gi_wp2
      gi_quiet (fail)
      gi_wp2
      refine bodyPost_ret (results_none rfl _ _ _) rfl ?_
      refine ⟨⟨_, rfl⟩, .inl ⟨it, HIT.out, ?_⟩⟩
      have hnx := HC.out.at HX.out
      rw [next_none HXL.out hkn (by simpa using HT.out)] at hnx
      rw [<- take_all_at HX.out hnx]
      exact HJ.out it _ W3 _ HIT.out HJ3.out (Keep.of_below (zAG HBI.out _))
   ·gi_wp2
    refine bodyPost_ret (results_none rfl _ _ _) rfl ?_
    exact ⟨⟨_, rfl⟩, .inr ⟨_, List.take_prefix _ _, hJx⟩⟩
 ·have HNIL := hid (HNL.out hkn)
  have hkb' : w1.cell? ⟨kb, 0, none⟩ = some (.int .i64 k) := (World.cell?_of_block (a := ⟨kb, 0, none⟩) hkb1).trans hg0
  have hnb' : w1.cell? ⟨nb, 0, none⟩ = some (.int .i64 n) := (World.cell?_of_block (a := ⟨nb, 0, none⟩) hnb1).trans hg1
  have hd : decide ((k : Int) <= (n : Int)) = false := by simp; omega
  have HJ1 := hid hJ1
  have HIT := hid hit
  clear hJ1 hit hr1
  gi_wp2
  gi_loopw [] (fun wr => ∃ q, wr = w1.drewN q) (fun _ => 0)
  case atStart => exact ⟨0, rfl⟩
  case round =>
   obtain ⟨q, rfl⟩ := hrel
   have hkb2 : (w1.drewN q).cell? ⟨kb, 0, none⟩ = some (.int .i64 k) := hkb'
   have hnb2 : (w1.drewN q).cell? ⟨nb, 0, none⟩ = some (.int .i64 n) := hnb'
   gi_wp2
   go_end0
   refine ⟨⟨_, rfl⟩, .inl ⟨it, HIT.out, ?_⟩⟩
   rw [HNIL.out]
   exact HJ.out it _ _ _ HIT.out HJ1.out ((Keep.refl _ _).drewN q)
end
section
open Go.RowKit
theorem sets_c (w : World) (n k : Int) :
 Calls Tryz.prog 178 #[.int .i64 n, .int .i64 k] w fun e w' => e = .returned (.func (.func 222) #[] #[.pointer (some ⟨w.heap.size + 1, 0, none⟩), .pointer (some ⟨w.heap.size, 0, none⟩)]) ∧
  w' = (w.alloc (.cells #[.int .i64 n] 3)).alloc (.cells #[.int .i64 k] 3) := by
 have hmf : ∀ (fn : Fn) (first cap : Array Value) (w : World), (Instr.makeFunc fn first cap).run Tryz.prog w = .ok (.func fn first cap) w := fun _ _ _ _ => rfl
 go_enter Tryz.func178, Tryz.ntmps178
 go_wp2
 go_ret
 exact ⟨by simp, rfl⟩
end
section
open Go.RowKit
theorem zJL (n lo hi : Int) (w : World) : Calls Tryz.prog 131 #[.int .i64 n, .int .i64 lo, .int .i64 hi] w fun e w' => e = .returned (.bool (inB n lo hi)) ∧ w = w' := by
 by_cases h1 : lo <= n <;> by_cases h2 : n <= hi
 all_goals
  go_enter Tryz.func131, Tryz.ntmps131
  go_wp2
  go_ret
  exact ⟨zAV (by simp [inB, h1, h2]), rfl⟩
theorem zHC (n lo hi : Int) (w : World) : Calls Tryz.prog 174 #[.int .i64 n, .int .i64 lo, .int .i64 hi] w fun e w' => e = .returned (.bool (inB n lo hi)) ∧ w = w' := by
 by_cases h1 : lo <= n <;> by_cases h2 : n <= hi
 all_goals
  go_enter Tryz.func174, Tryz.ntmps174
  go_wp2
  go_ret
  exact ⟨zAV (by simp [inB, h1, h2]), rfl⟩
theorem zHO {α : Type} {p : α -> Bool} {l : List α} {k : Nat} (hk : k < l.length) (h : p l[k] = false) : l.all p = false := by
 rw [List.all_eq_false]; exact ⟨l[k], List.getElem_mem hk, by simp [h]⟩
theorem zJC {α : Type} {p : α -> Bool} {l : List α} (h : ∀ j (hj : j < l.length), p l[j] = true) : l.all p = true := by
 rw [List.all_eq_true]
 intro x hx
 obtain ⟨i, hi, e⟩ := List.getElem_of_mem hx
 rw [<- e]; exact h i hi
theorem r2row_c (w : World) (a : Option Addr) (n cap : Nat) (l : List Int) (hn : l.length = n) (hm : n <= maxLen) (H : zAK w a l) :
 Calls Tryz.prog 130 #[.slice a n cap] w fun e w' => e = .returned (.bool (zGL l)) ∧ w = w' := by
 have HN := hid hn
 have HH := hid H
 clear hn H
 unfold maxLen at hm
 go_enter Tryz.func130, Tryz.ntmps130
 go_wp2
 go_loop [7] (fun i => ∃ k : Nat, k <= n ∧ i = .int .i64 k ∧ ∀ j (hj : j < l.length), j < k -> inB l[j] (-1) 1 = true) (fun i => n - (intOf i).toNat)
 case atStart => exact ⟨0, Nat.zero_le _, rfl, fun i _ h => by omega⟩
 case round =>
  obtain ⟨k, hk, rfl, hno⟩ := hrel
  have HNO := hid hno
  clear hno
  by_cases hlt : k < n
  ·have hkl : k < l.length := by rw [HN.out]; exact hlt
   obtain ⟨b, off, rfl, hbs, hc⟩ := HH.out k hkl
   have hg : l[k]?.getD 0 = l[k] := by rw [List.getElem?_eq_getElem hkl]; rfl
   rw [hg] at hc
   obtain ⟨B, hB⟩ := exq (inB l[k] (-1) 1)
   have HW := hid (fun W => zJL l[k] (-1) 1 W)
   rw [<- hB] at HW
   have HBB := hid hB
   have HKL := hid hkl
   clear hg hB
   cases B
   ·go_wp2_with (go_at_call 131; refine (HW.out _).mono ?_; rintro e w1 ⟨rfl, rfl⟩)
    go_ret
    refine ⟨zAV ?_, rfl⟩
    unfold zGL
    rw [zHO HKL.out HBB.out.symm]; simp
   ·go_wp2_with (go_at_call 131; refine (HW.out _).mono ?_; rintro e w1 ⟨rfl, rfl⟩)
    go_round
    case rel =>
     refine ⟨k + 1, by omega, by go_num, fun j hj hjk => ?_⟩
     by_cases e : j = k
     ·subst e; exact HBB.out.symm
     ·exact HNO.out j hj (by omega)
    case measure => simp [intOf]; omega
  ·go_wp2_with (go_at_call 131; refine (zJL _ _ _ _).mono ?_; rintro e w1 ⟨rfl, rfl⟩)
   go_ret
   refine ⟨zAV ?_, rfl⟩
   unfold zGL
   rw [HN.out, zJC (fun j hj => HNO.out j hj (by have := HN.out; omega))]; simp
theorem zLP (w : World) (a : Option Addr) (n cap : Nat) (M : Mask) (hn : M.length = n) (hm : n <= maxLen) (H : zAO w a M) :
 Calls Tryz.prog 68 #[.slice a n cap] w fun e w' => e = .returned (.bool (okM M)) ∧ w = w' := by
 have HN := hid hn
 have HH := hid H
 clear hn H
 unfold maxLen at hm
 go_enter Tryz.func68, Tryz.ntmps68
 go_wp2
 go_loop [7] (fun i => ∃ k : Nat, k <= n ∧ i = .int .i64 k ∧ ∀ j (hj : j < M.length), j < k -> (decide (M[j].length = zAF M) && zGL M[j]) = true) (fun i => n - (intOf i).toNat)
 case atStart => exact ⟨0, Nat.zero_le _, rfl, fun i _ h => by omega⟩
 case round =>
  obtain ⟨k, hk, rfl, hno⟩ := hrel
  have HNO := hid hno
  clear hno
  by_cases hlt : k < n
  ·have hkl : k < M.length := by rw [HN.out]; exact hlt
   obtain ⟨b, off, ra, rn, rc, rfl, hbs, hc, hrn, hrm, hri⟩ := HH.out k hkl
   obtain ⟨b', off', qa, qn, qc, e0, hbs', hc0, hqn, _, _⟩ := HH.out 0 (by omega)
   cases e0
   rw [Nat.add_zero] at hc0
   have hcol : zAF M = qn := by unfold zAF; rw [List.getElem?_eq_getElem (by omega), <- hqn]; rfl
   have HW := hid (r2row_c w ra rn rc M[k] hrn hrm hri)
   obtain ⟨B, hB⟩ := exq (zGL M[k])
   rw [<- hB] at HW
   have HBB := hid hB
   have HKL := hid hkl
   have HCol := hid hcol
   have HRN := hid hrn
   unfold maxLen at hrm
   have h0 : 0 < n := by omega
   clear hB hcol hrn hqn hri
   cases B
   ·go_wp2_with (go_at_call 130; refine HW.out.mono ?_; rintro e w1 ⟨rfl, rfl⟩)
    go_ret
    refine ⟨zAV ?_, rfl⟩
    unfold okM
    rw [zHO HKL.out (by rw [<- HBB.out]; simp)]; simp
   ·by_cases hq : rn = qn
    ·have hd : ((rn : Int) != (qn : Int)) = false := by simp [hq]
     have HQ := hid hq
     clear hq
     go_wp2_with (go_at_call 130; refine HW.out.mono ?_; rintro e w1 ⟨rfl, rfl⟩)
     go_round
     case rel =>
      refine ⟨k + 1, by omega, by go_num, fun j hj hjk => ?_⟩
      by_cases e : j = k
      ·subst e; rw [<- HBB.out, HCol.out, HRN.out, HQ.out]; simp
      ·exact HNO.out j hj (by omega)
     case measure => simp [intOf]; omega
    ·have hd : ((rn : Int) != (qn : Int)) = true := by simp; omega
     have HQ := hid hq
     clear hq
     go_wp2_with (go_at_call 130; refine HW.out.mono ?_; rintro e w1 ⟨rfl, rfl⟩)
     go_ret
     refine ⟨zAV ?_, rfl⟩
     unfold okM
     rw [zHO HKL.out (by rw [HCol.out, HRN.out]; simp [HQ.out])]; simp
  ·go_wp2_with (go_at_call 131; refine (zJL _ _ _ _).mono ?_; rintro e w1 ⟨rfl, rfl⟩)
   go_ret
   refine ⟨zAV ?_, rfl⟩
   unfold okM
   rw [HN.out, zJC (fun j hj => HNO.out j hj (by have := HN.out; omega))]; simp
end
section
open Go.RowKit
theorem gcd_tmod (p q : Int) : Int.gcd q (p.tmod q) = Int.gcd p q := by
 unfold Int.gcd
 rw [Int.natAbs_tmod]
 rcases Nat.eq_zero_or_pos q.natAbs with h | h
 ·rw [h]; simp
 ·exact gcd_mod _ _ h
theorem zHS (w : World) (a b : Int) (ha : -4611686018427387904 <= a ∧ a <= 4611686018427387904) (hb : -4611686018427387904 <= b ∧ b <= 4611686018427387904) :
 Calls Tryz.prog 211 #[.int .i64 a, .int .i64 b] w fun e w' => e = .returned (.int .i64 (Int.gcd a b : Nat)) ∧ ∃ k, w' = w.drewN k := by
 obtain ⟨G, hG⟩ : ∃ G : Nat, G = Int.gcd a b := ⟨_, rfl⟩
 rw [<- hG]
 have HG := hid hG
 clear hG
 obtain ⟨ha1, ha2⟩ := ha
 obtain ⟨hb1, hb2⟩ := hb
 go_enter Tryz.func211, Tryz.ntmps211
 go_wp2
 go_loopw [0, 1] (fun u v wr => ∃ p q : Int, u = .int .i64 p ∧ v = .int .i64 q ∧ -4611686018427387904 <= p ∧ p <= 4611686018427387904 ∧ -4611686018427387904 <= q ∧ q <= 4611686018427387904 ∧ Int.gcd p q = G ∧ ∃ k, wr = w.drewN k) (fun _ v _ => (intOf v).natAbs)
 case atStart => exact ⟨a, b, rfl, rfl, ha1, ha2, hb1, hb2, HG.out.symm, 0, rfl⟩
 case round =>
  obtain ⟨p, q, rfl, rfl, hp1, hp2, hq1, hq2, hg, k, rfl⟩ := hrel
  have HGG := hid hg
  clear hg
  by_cases h0 : q = 0
  ·subst h0
   have hn : IntKind.i64.wrap (-p) = -p := IntWalk.i64_in _ (by omega)
   have HGP := hid (show max p (-p) = ((G : Nat) : Int) by
    have := HGG.out
    rw [Int.gcd_zero_right] at this
    omega)
   go_wp2
   all_goals
    go_ret
    exact ⟨zCS (by have := HGP.out; omega), _, rfl⟩
  ·have hne : (q != 0) = true := by simpa using h0
   have hlt : (p.tmod q).natAbs < q.natAbs := by rw [Int.natAbs_tmod]; exact Nat.mod_lt _ (by omega)
   have hw : IntKind.i64.wrap (p.tmod q) = p.tmod q := IntWalk.i64_in _ (by omega)
   have HGM := hid ((gcd_tmod p q).trans HGG.out)
   have HLT := hid hlt
   clear hlt
   go_wp2
   go_quiet (fail)
   go_wp2
   have h1 := HLT.out
   exact ⟨⟨q, p.tmod q, rfl, rfl, hq1, hq2, by omega, by omega, HGM.out, _, zMJ _ _ _⟩, by show (p.tmod q).natAbs < q.natAbs; exact h1⟩
theorem zIH (w : World) (a : Option Addr) (n cap : Nat) (l : List Int) (hn : l.length = n) (hm : n <= 1000) (H : zAK w a l) (hB : BndL 4611686018427387904 l) :
 Calls Tryz.prog 226 #[.slice a n cap] w fun e w' => ∃ v, e = .returned v ∧ w'.ownsRow w.heap.size 3 1 v n ((zDB l).map (Value.int .i64)) ∧ Below w.heap.size w w' := by
 have HN := hid hn
 have HH := hid H
 have HBL := hid hB
 have HGT := hid (fun (k : Nat) (hk : k < l.length) => gcdL_take hk)
 have HG0 := hid (fun k => zFT (l.take k))
 have HGL := hid (fun (k : Nat) => gcdL_le (hB.take k))
 clear hn H hB
 go_enter Tryz.func226, Tryz.ntmps226
 go_wp2
 go_loopw [3, 11] (fun g i wr => ∃ k : Nat, k <= n ∧ i = .int .i64 k ∧ g = .int .i64 (gcdL (l.take k)) ∧ Below w.heap.size w wr) (fun _ i _ => n - (intOf i).toNat)
 case atStart => exact ⟨0, Nat.zero_le _, rfl, rfl, Below.refl _ _⟩
 case round =>
  obtain ⟨k, hk, rfl, rfl, hbk⟩ := hrel
  by_cases hlt : k < n
  ·have hkl : k < l.length := by rw [HN.out]; exact hlt
   obtain ⟨b, off, rfl, hbs, hc⟩ := (HH.out.below hbk) k hkl
   have hbd := HBL.out.get hkl
   have hg := HGT.out k hkl
   have hg0 := HG0.out k
   have hgl := HGL.out k
   obtain ⟨x, hx⟩ := exq (l[k]?.getD 0)
   rw [<- hx] at hc hbd hg
   obtain ⟨G, hG⟩ := exq (gcdL (l.take k))
   rw [<- hG] at hg hg0 hgl ⊢
   have HD := hid (zHS wr G x (by omega) (by omega))
   rw [<- hg] at HD
   have HB := hid hbk
   clear hg hG hx hkl hbk
   go_wp2_with (go_at_call 211; refine HD.out.mono ?_; rintro e w1 ⟨rfl, q, rfl⟩)
   exact ⟨⟨k + 1, by omega, by go_num, rfl, zAG HB.out _⟩, by simp [intOf]; omega⟩
  ·obtain rfl : k = n := by omega
   have e : l.take k = l := List.take_of_length_le (by rw [HN.out]; exact Nat.le_refl _)
   have hg0 := HG0.out k
   have hgl := HGL.out k
   rw [e] at hg0 hgl ⊢
   obtain ⟨G, hG⟩ := exq (gcdL l)
   rw [<- hG] at hg0 hgl ⊢
   have HG := hid hG
   have HB := hid hbk
   have hpf : zDB l = l.map (fun x => x.tdiv (max G 1)) := by unfold zDB; rw [<- HG.out]
   have HPF := hid hpf
   obtain ⟨d, hd⟩ := exq (max G 1)
   have HD := hid hd
   have hd1 : 1 <= d := by omega
   clear e hG hbk hpf hd
   obtain ⟨w1, hw1⟩ := exq (wr)
   subst hw1
   go_wp2
   go_loopw [6, 21] (fun v i wr => ∃ t : Nat, t <= k ∧ i = .int .i64 t ∧ wr.ownsRow w.heap.size 3 1 v t ((l.take t).map (fun x => Value.int .i64 (x.tdiv d))) ∧ Below w.heap.size w wr) (fun _ i _ => k - (intOf i).toNat)
   case atStart => exact ⟨0, Nat.zero_le _, rfl, World.ownsRow_nil _ _ _ _, HB.out⟩
   case round =>
    obtain ⟨t, ht, rfl, hown, hbt⟩ := hrel
    by_cases hlt : t < k
    ·have htl : t < l.length := by rw [HN.out]; exact hlt
     obtain ⟨b, off, rfl, hbs, hc⟩ := (HH.out.below hbt) t htl
     have hbd := HBL.out.get htl
     have hsn : (l.take (t + 1)).map (fun x => Value.int .i64 (x.tdiv d)) = (l.take t).map (fun x => Value.int .i64 (x.tdiv d)) ++ [.int .i64 ((l[t]?.getD 0).tdiv d)] := by
      rw [List.take_succ_eq_append_getElem htl, List.map_append, List.getElem?_eq_getElem htl]; rfl
     obtain ⟨x, hx⟩ := exq (l[t]?.getD 0)
     rw [<- hx] at hc hbd hsn
     obtain ⟨va, vc, rfl⟩ := zAC hown
     have htd := zKO hd1 (show -(4611686018427387904 : Int) <= x ∧ x <= 4611686018427387904 by omega)
     have hwq : IntKind.i64.wrap (x.tdiv d) = x.tdiv d := IntWalk.i64_in _ (by omega)
     have HSN := hid hsn
     have HO := hid hown
     have HBT := hid hbt
     have M1 := hid (show t + 1 <= maxLen by unfold maxLen; omega)
     have M2 := hid (show (t + 1) * 8 <= 140737488355328 by omega)
     have M3 := hid (Nat.le_trans hbt.size (zBY wr (.cells #[.int .i64 (x.tdiv d)] 3)))
     clear hown hbt hsn hx htl htd
     rcases Int.lt_or_le G 1 with hG1 | hG1
     ·obtain rfl : d = 1 := by have := HD.out; omega
      have hGG : ¬ (1 <= G) := by omega
      rw [Int.tdiv_one] at HSN M3 hwq
      go_wp2_with (at_builtin; refine zAN _ rfl (.tmp 25) (.tmp 30) 24 rfl w.heap.size 3 (.int .i64 0) 1 8 Tryz.underlying24 zDR rfl Nat.one_pos (.slice va t vc) t _ rfl (HO.out.alloc _) (some ⟨wr.heap.size, 0, none⟩) 1 1 [.int .i64 x] rfl rfl zBR (zBL wr _ _) (zDU _) M1.out M2.out M3.out ?_; refine Stop.of ?_)
      refine Stop.go ?_
      intro a3 c3 w3 own3 g3
      have hB3 : Below w.heap.size w w3 := (HBT.out.alloc HBT.out.size _).grown g3 M3.out (fun k hk => (HO.out.lt k hk).1)
      go_wp2
      refine ⟨⟨t + 1, by omega, by go_num, ?_, hB3⟩, by simp [intOf]; omega⟩
      rw [HSN.out]
      simpa using own3
     ·obtain rfl : d = G := by have := HD.out; omega
      have hgz : ¬ (d = 0) := by omega
      go_wp2_with (at_builtin; refine zAN _ rfl (.tmp 25) (.tmp 30) 24 rfl w.heap.size 3 (.int .i64 0) 1 8 Tryz.underlying24 zDR rfl Nat.one_pos (.slice va t vc) t _ rfl (HO.out.alloc _) (some ⟨wr.heap.size, 0, none⟩) 1 1 [.int .i64 (x.tdiv d)] rfl rfl zBR (zBL wr _ _) (zDU _) M1.out M2.out M3.out ?_; refine Stop.of ?_)
      refine Stop.go ?_
      intro a3 c3 w3 own3 g3
      have hB3 : Below w.heap.size w w3 := (HBT.out.alloc HBT.out.size _).grown g3 M3.out (fun k hk => (HO.out.lt k hk).1)
      go_wp2
      refine ⟨⟨t + 1, by omega, by go_num, ?_, hB3⟩, by simp [intOf]; omega⟩
      rw [HSN.out]
      simpa using own3
    ·obtain rfl : t = k := by omega
     rw [List.take_of_length_le (by rw [HN.out]; exact Nat.le_refl _)] at hown
     go_wp2
     go_ret
     refine ⟨_, rfl, ?_, hbt⟩
     rw [HPF.out, <- HD.out, List.map_map]
     exact hown
theorem r3scaled_c (w : World) (a : Option Addr) (n cap : Nat) (l : List Int) (hn : l.length = n) (hm : n <= 1000) (H : zAK w a l) (hB : BndL 4611686018427387904 l) :
 Calls Tryz.prog 185 #[.slice a n cap, .int .i64 (-1)] w fun e w' => ∃ v, e = .returned v ∧ w'.ownsRow w.heap.size 3 1 v n ((negF l).map (Value.int .i64)) ∧ Below w.heap.size w w' := by
 have HN := hid hn
 have HH := hid H
 have HBL := hid hB
 have HPF := hid (show negF l = l.map (fun x => -x) from rfl)
 clear hn H hB
 go_enter Tryz.func185, Tryz.ntmps185
 go_wp2
 go_loopw [5, 10] (fun v i wr => ∃ t : Nat, t <= n ∧ i = .int .i64 t ∧ wr.ownsRow w.heap.size 3 1 v t ((l.take t).map (fun x => Value.int .i64 (-x))) ∧ Below w.heap.size w wr) (fun _ i _ => n - (intOf i).toNat)
 case atStart => exact ⟨0, Nat.zero_le _, rfl, World.ownsRow_nil _ _ _ _, Below.refl _ _⟩
 case round =>
  obtain ⟨t, ht, rfl, hown, hbt⟩ := hrel
  by_cases hlt : t < n
  ·have htl : t < l.length := by rw [HN.out]; exact hlt
   obtain ⟨b, off, rfl, hbs, hc⟩ := (HH.out.below hbt) t htl
   have hbd := HBL.out.get htl
   have hsn : (l.take (t + 1)).map (fun x => Value.int .i64 (-x)) = (l.take t).map (fun x => Value.int .i64 (-x)) ++ [.int .i64 (-(l[t]?.getD 0))] := by
    rw [List.take_succ_eq_append_getElem htl, List.map_append, List.getElem?_eq_getElem htl]; rfl
   obtain ⟨x, hx⟩ := exq (l[t]?.getD 0)
   rw [<- hx] at hc hbd hsn
   obtain ⟨y, hy⟩ := exq (-x)
   obtain ⟨va, vc, rfl⟩ := zAC hown
   have hwq : wrap64 (-x) = y := by unfold wrap64; omega
   rw [<- hy] at hsn
   have HSN := hid hsn
   have HO := hid hown
   have HBT := hid hbt
   have M1 := hid (show t + 1 <= maxLen by unfold maxLen; omega)
   have M2 := hid (show (t + 1) * 8 <= 140737488355328 by omega)
   have M3 := hid (Nat.le_trans hbt.size (zBY wr (.cells #[.int .i64 y] 3)))
   clear hown hbt hsn hx htl hbd hy
   go_wp2_with (at_builtin; refine zAN _ rfl (.tmp 14) (.tmp 18) 24 rfl w.heap.size 3 (.int .i64 0) 1 8 Tryz.underlying24 zDR rfl Nat.one_pos (.slice va t vc) t _ rfl (HO.out.alloc _) (some ⟨wr.heap.size, 0, none⟩) 1 1 [.int .i64 y] rfl rfl zBR (zBL wr _ _) (zDU _) M1.out M2.out M3.out ?_; refine Stop.of ?_)
   refine Stop.go ?_
   intro a3 c3 w3 own3 g3
   have hB3 : Below w.heap.size w w3 := (HBT.out.alloc HBT.out.size _).grown g3 M3.out (fun k hk => (HO.out.lt k hk).1)
   go_wp2
   refine ⟨⟨t + 1, by omega, by go_num, ?_, hB3⟩, by simp [intOf]; omega⟩
   rw [HSN.out]
   simpa using own3
  ·obtain rfl : t = n := by omega
   rw [List.take_of_length_le (by rw [HN.out]; exact Nat.le_refl _)] at hown
   go_wp2
   go_ret
   refine ⟨_, rfl, ?_, hbt⟩
   rw [HPF.out, List.map_map]
   exact hown
end
section
open Go.RowKit
def zIP (p : List Int) (j : Nat) (r : List Int) (k : Nat) : List Int := (List.range k).map (fun c => vec r c * vec p j - vec p c * vec r j)
theorem mixTo_len (p : List Int) (j : Nat) (r : List Int) (k : Nat) : (zIP p j r k).length = k := by simp [zIP]
theorem mixTo_succ (p : List Int) (j : Nat) (r : List Int) (k : Nat) : zIP p j r (k + 1) = zIP p j r k ++ [vec r k * vec p j - vec p k * vec r j] := by
 unfold zIP; rw [List.range_succ, List.map_append]; rfl
theorem mixTo_all {p r : List Int} (j : Nat) (h : p.length = r.length) : zBA p j r = zDB (zIP p j r r.length) := by
 unfold zBA zIP
 congr 1
 refine List.ext_getElem (by simp [h]) fun i h1 h2 => ?_
 simp only [List.length_zipWith, List.length_map, List.length_range] at h1 h2
 simp only [List.getElem_zipWith, List.getElem_map, List.getElem_range]
 rw [zCQ (show i < r.length by omega), zCQ (show i < p.length by omega)]
theorem zLM (w : World) (a a2 : Option Addr) (n cap cap2 : Nat) (r p : List Int) (hn : r.length = n) (hn2 : p.length = n) (hm : n <= 1000) (H : zAK w a r) (H2 : zAK w a2 p) (hB : BndL 1073741824 r) (hB2 : BndL 1073741824 p) (j : Nat) (hj : j < n) :
 Calls Tryz.prog 251 #[.slice a n cap, .slice a2 n cap2, .int .i64 j] w fun e w' => ∃ v base, e = .returned v ∧ w.heap.size <= base ∧ w'.ownsRow base 3 1 v n ((zBA p j r).map (Value.int .i64)) ∧ Below w.heap.size w w' := by
 rw [mixTo_all j (show p.length = r.length by omega), hn]
 have HN := hid hn
 have HN2 := hid hn2
 have HH := hid H
 have HH2 := hid H2
 have HB := hid hB
 have HB2 := hid hB2
 clear hn hn2 H H2 hB hB2
 go_enter Tryz.func251, Tryz.ntmps251
 go_wp2
 go_loopw [7, 11] (fun v i wr => ∃ k : Nat, k <= n ∧ i = .int .i64 k ∧ wr.ownsRow w.heap.size 3 1 v k ((zIP p j r k).map (Value.int .i64)) ∧ Below w.heap.size w wr) (fun _ i _ => n - (intOf i).toNat)
 case atStart => exact ⟨0, Nat.zero_le _, rfl, World.ownsRow_nil _ _ _ _, Below.refl _ _⟩
 case round =>
  obtain ⟨k, hk, rfl, hown, hbt⟩ := hrel
  by_cases hlt : k < n
  ·obtain ⟨b, off, rfl, hbs, hc1⟩ := HH.out k (by rw [HN.out]; exact hlt)
   obtain ⟨b', off', e', _, hc2⟩ := HH.out j (by rw [HN.out]; exact hj)
   cases e'
   obtain ⟨b2, off2, rfl, hbs2, hc3⟩ := HH2.out k (by rw [HN2.out]; exact hlt)
   obtain ⟨b2', off2', e', _, hc4⟩ := HH2.out j (by rw [HN2.out]; exact hj)
   cases e'
   have d1 := HB.out.get (show k < r.length by rw [HN.out]; exact hlt)
   have d2 := HB.out.get (show j < r.length by rw [HN.out]; exact hj)
   have d3 := HB2.out.get (show k < p.length by rw [HN2.out]; exact hlt)
   have d4 := HB2.out.get (show j < p.length by rw [HN2.out]; exact hj)
   have hsn : (zIP p j r (k + 1)).map (Value.int .i64) = (zIP p j r k).map (Value.int .i64) ++ [.int .i64 (r[k]?.getD 0 * p[j]?.getD 0 - p[k]?.getD 0 * r[j]?.getD 0)] := by rw [mixTo_succ, List.map_append]; rfl
   obtain ⟨x, hx⟩ := exq (r[k]?.getD 0)
   obtain ⟨rj, hrj⟩ := exq (r[j]?.getD 0)
   obtain ⟨y, hy⟩ := exq (p[k]?.getD 0)
   obtain ⟨pj, hpj⟩ := exq (p[j]?.getD 0)
   rw [<- hx] at hc1 d1 hsn
   rw [<- hrj] at hc2 d2 hsn
   rw [<- hy] at hc3 d3 hsn
   rw [<- hpj] at hc4 d4 hsn
   have e1 := zGN (show -(1073741824 : Int) <= x ∧ x <= 1073741824 by omega) (show -(1073741824 : Int) <= pj ∧ pj <= 1073741824 by omega)
   have e2 := zGN (show -(1073741824 : Int) <= y ∧ y <= 1073741824 by omega) (show -(1073741824 : Int) <= rj ∧ rj <= 1073741824 by omega)
   obtain ⟨m1, hm1⟩ := exq (x * pj)
   obtain ⟨m2, hm2⟩ := exq (y * rj)
   rw [<- hm1, <- hm2] at hsn
   rw [<- hm1] at e1
   rw [<- hm2] at e2
   obtain ⟨z, hz⟩ := exq (m1 - m2)
   rw [<- hz] at hsn
   have w1 : IntKind.i64.wrap (x * pj) = m1 := by rw [<- hm1]; exact IntWalk.i64_in _ (by omega)
   have w2 : IntKind.i64.wrap (y * rj) = m2 := by rw [<- hm2]; exact IntWalk.i64_in _ (by omega)
   have w3 : IntKind.i64.wrap (m1 - m2) = z := by rw [<- hz]; exact IntWalk.i64_in _ (by omega)
   obtain ⟨va, vc, rfl⟩ := zAC hown
   have HSN := hid hsn
   have HO := hid hown
   have HBT := hid hbt
   have HS := hid (fun (X : World) (hX : Below w.heap.size w X) => show X.cell? ⟨b, off + k, none⟩ = some (.int .i64 x) ∧ X.cell? ⟨b, off + j, none⟩ = some (.int .i64 rj) ∧ X.cell? ⟨b2, off2 + k, none⟩ = some (.int .i64 y) ∧ X.cell? ⟨b2, off2 + j, none⟩ = some (.int .i64 pj) from
    have hbw := hX
    ⟨(hbw.cell (p := ⟨b, off + k, none⟩) hbs).trans hc1, (hbw.cell (p := ⟨b, off + j, none⟩) hbs).trans hc2, (hbw.cell (p := ⟨b2, off2 + k, none⟩) hbs2).trans hc3, (hbw.cell (p := ⟨b2, off2 + j, none⟩) hbs2).trans hc4⟩)
   have M1 := hid (show k + 1 <= maxLen by unfold maxLen; omega)
   have M2 := hid (show (k + 1) * 8 <= 140737488355328 by omega)
   have M3 := hid hbt.size
   have i1 : (0 : Int) <= (k : Int) := by omega
   have i2 : (k : Int) < (n : Int) := by omega
   have i3 : (0 : Int) <= (j : Int) := by omega
   have i4 : (j : Int) < (n : Int) := by omega
   have hbsw : b < w.heap.size ∧ b2 < w.heap.size := ⟨hbs, hbs2⟩
   clear hown hbt hsn hx hrj hy hpj hm1 hm2 hz hc1 hc2 hc3 hc4 d1 d2 d3 d4 e1 e2
   go_wp2
   refine zNE (fun fr fr' X => ∃ v14 v15 v16 v17 v18 v19 v20 v21 v22 v23 v24 v25 v26 v27 v28 v29 v30 v31 v32 v33 v34 v35, fr' = (((((((((((((((((((((((fr.put (some 14) v14).put (some 15) v15).put (some 16) v16).put (some 17) v17).put (some 18) v18).put (some 19) v19).put (some 20) v20).put (some 21) v21).put (some 22) v22).put (some 23) v23).put (some 24) v24).put (some 25) v25).put (some 26) v26).put (some 27) v27).put (some 28) v28).put (some 29) v29).put (some 30) v30).put (some 31) v31).put (some 32) v32).put (some 33) v33).put (some 34) v34).put (some 35) v35).put (some 7) v35) ∧ (∃ a3 c3, v35 = .slice a3 (k + 1) c3) ∧ X.ownsRow w.heap.size 3 1 v35 (k + 1) ((zIP p j r (k + 1)).map (Value.int .i64)) ∧ Below w.heap.size w X) ?_ ?_
   ·refine zAH (fun j' X => wAll j' = true -> X.cell? ⟨b, off + k, none⟩ = some (.int .i64 x) ∧ X.cell? ⟨b, off + j, none⟩ = some (.int .i64 rj) ∧ X.cell? ⟨b2, off2 + k, none⟩ = some (.int .i64 y) ∧ X.cell? ⟨b2, off2 + j, none⟩ = some (.int .i64 pj)) (by kernel_rfl) ?_
    have hbd : Below w.heap.size w wr.drew := HBT.out.drew
    have HO2 := hid (zBI HO.out ((Below.refl _ wr).drew))
    have HB3 := hid hbd
    generalize wr.drew = wd at hbd HO2 HB3 ⊢
    refine AnyT.tD (i := 0) (v := .slice va k vc) rfl rfl (by rintro w' ⟨q1, q2, q3, q4⟩; go_simp) (HS.out _ hbd) ?_; go_frame
    refine AnyT.tD (i := 1) (v := .slice (some ⟨b, off, none⟩) n cap) rfl rfl (by rintro w' ⟨q1, q2, q3, q4⟩; go_simp) (HS.out _ hbd) ?_; go_frame
    refine AnyT.tD (i := 2) (v := .int .i64 k) rfl rfl (by rintro w' ⟨q1, q2, q3, q4⟩; go_simp) (HS.out _ hbd) ?_; go_frame
    refine AnyT.tD (i := 3) (v := .pointer (some ⟨b, off + k, none⟩)) rfl rfl (by rintro w' ⟨q1, q2, q3, q4⟩; go_simp) (HS.out _ hbd) ?_; go_frame
    refine AnyT.tD (i := 4) (v := .int .i64 x) rfl rfl (by rintro w' ⟨q1, q2, q3, q4⟩; go_simp) (HS.out _ hbd) ?_; go_frame
    refine AnyT.tD (i := 5) (v := .slice (some ⟨b2, off2, none⟩) n cap2) rfl rfl (by rintro w' ⟨q1, q2, q3, q4⟩; go_simp) (HS.out _ hbd) ?_; go_frame
    refine AnyT.tD (i := 6) (v := .int .i64 j) rfl rfl (by rintro w' ⟨q1, q2, q3, q4⟩; go_simp) (HS.out _ hbd) ?_; go_frame
    refine AnyT.tD (i := 7) (v := .pointer (some ⟨b2, off2 + j, none⟩)) rfl rfl (by rintro w' ⟨q1, q2, q3, q4⟩; go_simp) (HS.out _ hbd) ?_; go_frame
    refine AnyT.tD (i := 8) (v := .int .i64 pj) rfl rfl (by rintro w' ⟨q1, q2, q3, q4⟩; go_simp) (HS.out _ hbd) ?_; go_frame
    refine AnyT.tD (i := 9) (v := .int .i64 m1) rfl rfl (by rintro w' ⟨q1, q2, q3, q4⟩; go_simp) (HS.out _ hbd) ?_; go_frame
    refine AnyT.tD (i := 10) (v := .slice (some ⟨b2, off2, none⟩) n cap2) rfl rfl (by rintro w' ⟨q1, q2, q3, q4⟩; go_simp) (HS.out _ hbd) ?_; go_frame
    refine AnyT.tD (i := 11) (v := .int .i64 k) rfl rfl (by rintro w' ⟨q1, q2, q3, q4⟩; go_simp) (HS.out _ hbd) ?_; go_frame
    refine AnyT.tD (i := 12) (v := .pointer (some ⟨b2, off2 + k, none⟩)) rfl rfl (by rintro w' ⟨q1, q2, q3, q4⟩; go_simp) (HS.out _ hbd) ?_; go_frame
    refine AnyT.tD (i := 13) (v := .int .i64 y) rfl rfl (by rintro w' ⟨q1, q2, q3, q4⟩; go_simp) (HS.out _ hbd) ?_; go_frame
    refine AnyT.tD (i := 14) (v := .slice (some ⟨b, off, none⟩) n cap) rfl rfl (by rintro w' ⟨q1, q2, q3, q4⟩; go_simp) (HS.out _ hbd) ?_; go_frame
    refine AnyT.tD (i := 15) (v := .int .i64 j) rfl rfl (by rintro w' ⟨q1, q2, q3, q4⟩; go_simp) (HS.out _ hbd) ?_; go_frame
    refine AnyT.tD (i := 16) (v := .pointer (some ⟨b, off + j, none⟩)) rfl rfl (by rintro w' ⟨q1, q2, q3, q4⟩; go_simp) (HS.out _ hbd) ?_; go_frame
    refine AnyT.tD (i := 17) (v := .int .i64 rj) rfl rfl (by rintro w' ⟨q1, q2, q3, q4⟩; go_simp) (HS.out _ hbd) ?_; go_frame
    refine AnyT.tD (i := 18) (v := .int .i64 m2) rfl rfl (by rintro w' ⟨q1, q2, q3, q4⟩; go_simp) (HS.out _ hbd) ?_; go_frame
    refine AnyT.tD (i := 19) (v := .int .i64 z) rfl rfl (by rintro w' ⟨q1, q2, q3, q4⟩; go_simp) (HS.out _ hbd) ?_; go_frame
    refine AnyT.nx (i := 20) rfl ?_
    go_wp2
    have hbA := hbd.alloc hbd.size (.cells #[.int .i64 z] 3)
    refine ⟨fun _ => HS.out _ hbA, ?_⟩
    refine AnyT.nx (i := 21) rfl ?_
    (refine zAN _ rfl (.tmp 14) (.tmp 34) 24 rfl w.heap.size 3 (.int .i64 0) 1 8 Tryz.underlying24 zDR rfl Nat.one_pos (.slice va k vc) k _ rfl (HO2.out.alloc _) (some ⟨wd.heap.size, 0, none⟩) 1 1 [.int .i64 z] rfl rfl zBR (zBL wd _ _) (zDU _) M1.out M2.out (Nat.le_trans HB3.out.size (zBY _ _)) ?_)
    intro a3 c3 w3 own3 g3
    have hb3 := hbA.grown g3 hbA.size (fun q hq => (HO2.out.lt q hq).1)
    refine ⟨fun _ => HS.out _ hb3, ?_⟩
    refine AnyT.tD (i := 22) (v := .slice a3 (k + 1) c3) rfl rfl (by rintro w' ⟨q1, q2, q3, q4⟩; go_simp) (HS.out _ hb3) ?_; go_frame
    exact ⟨by kernel_rfl, rfl, .slice va k vc, .slice (some ⟨b, off, none⟩) n cap, .int .i64 k, .pointer (some ⟨b, off + k, none⟩), .int .i64 x, .slice (some ⟨b2, off2, none⟩) n cap2, .int .i64 j, .pointer (some ⟨b2, off2 + j, none⟩), .int .i64 pj, .int .i64 m1, .slice (some ⟨b2, off2, none⟩) n cap2, .int .i64 k, .pointer (some ⟨b2, off2 + k, none⟩), .int .i64 y, .slice (some ⟨b, off, none⟩) n cap, .int .i64 j, .pointer (some ⟨b, off + j, none⟩), .int .i64 rj, .int .i64 m2, .int .i64 z, .slice (some ⟨wd.heap.size, 0, none⟩) 1 1, .slice a3 (k + 1) c3, (by first | rfl | go_frame), ⟨a3, c3, rfl⟩, by rw [HSN.out]; exact own3, hb3⟩
   ·rintro a5 w5 ⟨v14, v15, v16, v17, v18, v19, v20, v21, v22, v23, v24, v25, v26, v27, v28, v29, v30, v31, v32, v33, v34, v35, rfl, ⟨a3, c3, rfl⟩, ho5, hb5⟩
    go_frame
    go_wp2
    exact ⟨⟨k + 1, by omega, by go_num, ho5, hb5⟩, by simp [intOf]; omega⟩
  ·obtain rfl : k = n := by omega
   have hmb : BndL 4611686018427387904 (zIP p j r k) := by
    intro x hx
    unfold zIP at hx
    obtain ⟨c, hc, rfl⟩ := List.mem_map.1 hx
    have hck := List.mem_range.1 hc
    have d1 := HB.out.get (show c < r.length by rw [HN.out]; exact hck)
    have d2 := HB.out.get (show j < r.length by rw [HN.out]; exact hj)
    have d3 := HB2.out.get (show c < p.length by rw [HN2.out]; exact hck)
    have d4 := HB2.out.get (show j < p.length by rw [HN2.out]; exact hj)
    have e1 := zGN (show -(1073741824 : Int) <= r[c]?.getD 0 ∧ r[c]?.getD 0 <= 1073741824 by omega) (show -(1073741824 : Int) <= p[j]?.getD 0 ∧ p[j]?.getD 0 <= 1073741824 by omega)
    have e2 := zGN (show -(1073741824 : Int) <= p[c]?.getD 0 ∧ p[c]?.getD 0 <= 1073741824 by omega) (show -(1073741824 : Int) <= r[j]?.getD 0 ∧ r[j]?.getD 0 <= 1073741824 by omega)
    show -((4611686018427387904 : Nat) : Int) <= r[c]?.getD 0 * p[j]?.getD 0 - p[c]?.getD 0 * r[j]?.getD 0 ∧ r[c]?.getD 0 * p[j]?.getD 0 - p[c]?.getD 0 * r[j]?.getD 0 <= ((4611686018427387904 : Nat) : Int)
    omega
   obtain ⟨va, vc, rfl, hi, _⟩ := zCW hown (mixTo_len p j r k)
   have HP := hid (zIH wr va k vc (zIP p j r k) (mixTo_len p j r k) hm hi hmb)
   have HBT := hid hbt
   clear hown hi hmb hbt
   go_wp2_with (go_at_call 226; refine HP.out.mono ?_; rintro e w4 ⟨v4, rfl, ho4, hb4⟩; refine Stop.of ?_)
   refine Stop.go ?_
   have HO4 := hid ho4
   have hb := zAA HBT.out hb4
   clear ho4 hb4
   go_wp2
   go_ret
   exact ⟨v4, wr.heap.size, rfl, HBT.out.size, HO4.out, hb⟩
end
section
open Go.RowKit
def HeadV (W : World) (xs : List Value) (L : List (List Int)) : Prop :=
 xs.length = L.length ∧ ∀ j (hj : j < L.length), ∃ ra rn rc, xs[j]? = some (.slice ra rn rc) ∧ L[j].length = rn ∧ rn <= maxLen ∧ zAK W ra L[j]
theorem rows_of_own {W : World} {base n c : Nat} {T : TypeId} {a : Option Addr} {xs : List Value} {L : List (List Int)} (h : W.ownsRow base T 1 (.slice a n c) n xs) (hv : HeadV W xs L) (hl : L.length = n) : zAO W a L := by
 intro j hj
 rcases h.2 with ⟨_, h0⟩ | ⟨g, cap, cur, e, hg, hh, rest⟩
 ·omega
 ·cases e
  have hlt := (Array.getElem?_eq_some_iff.1 hh).1
  have hc : W.cell? ⟨g, j, none⟩ = xs[j]? := World.ownsRow.cellAt (w := W) (base := base) (e := T) (size := 1) (g := g) (n := n) (cap := c) (xs := xs) h j (by omega)
  obtain ⟨ra, rn, rc, h1, h2, h3, h4⟩ := hv.2 j hj
  exact ⟨g, 0, ra, rn, rc, rfl, hlt, by rw [Nat.zero_add, hc]; exact h1, h2, h3, h4⟩
end
end Go.Proofs.YtlffndehhhpgjaaGreat
