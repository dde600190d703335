/- Walks and plain laws for LinPossibleRow, part 2. -/
import Derived.Test.YtfipebkhomppmaaGreatRows
import Derived.WalkKit
import Derived.BigQuiet
import Derived.Deep.QuietTactic
import Derived.Shelf.Abstract
import Derived.Deep.OwnRows
import Derived.RangeFuncNested
import Derived.RangeFuncBound
import Derived.RangeFuncCalls
import Derived.RangeFuncLeaves
import Derived.Shelf.RegionOpen
import Derived.OwnWalkIn
import Derived.TacticsInMore
import Derived.LoopNIn
import Derived.LoopIn
import Derived.Laws.EntriesVeiled
import Derived.Laws.AppendOwnNone
import Derived.IntWalk
import Derived.Deep.RegionHeld3
import Derived.Test.YtfipebkhomppmaaGreatPkLinPossibleRow1
namespace Go.Proofs.YtfipebkhomppmaaGreat
section
set_option linter.unusedVariables false

theorem Sp.mono {B B' : Vec → Prop} (h : ∀ v, B v → B' v) {v : Vec} (hv : Sp B v) : Sp B' v := hv.trans fun u hu => .of (h u hu)
theorem RB.mono {K K' : Nat} (h : K ≤ K') {W : Nat → Vec} {v : Vec} (hv : Sp (RB K W) v) : Sp (RB K' W) v := hv.mono fun u ⟨k, hk, e⟩ => ⟨k, by omega, e⟩

theorem Sp.split {K : Nat} {W : Nat → Vec} {v : Vec} (h : Sp (RB (K + 1) W) v) : ∃ n a : Int, n ≠ 0 ∧ Sp (RB K W) (fun c => n * v c + a * W K c) := by
  induction h with
  | of hb =>
    obtain ⟨k, hk, rfl⟩ := hb
    by_cases e : k = K
    · subst e; exact ⟨1, -1, by decide, Sp.zero.congr fun c => by grind⟩
    · exact ⟨1, 0, by decide, (RB.sp (by omega : k < K)).congr fun c => by grind⟩
  | zero => exact ⟨1, 0, by decide, Sp.zero.congr fun c => by simp⟩
  | add _ _ h1 h2 =>
    obtain ⟨n, a, hn, h1⟩ := h1
    obtain ⟨m, b, hm, h2⟩ := h2
    exact ⟨n * m, m * a + n * b, Int.mul_ne_zero hn hm, (Sp.lin m n h1 h2).congr fun c => by grind⟩
  | mul x _ h1 =>
    obtain ⟨n, a, hn, h1⟩ := h1
    exact ⟨n, x * a, hn, (Sp.mul x h1).congr fun c => by grind⟩
  | div hx _ h1 =>
    obtain ⟨n, a, hn, h1⟩ := h1
    exact ⟨n * _, a, Int.mul_ne_zero hn hx, h1.congr fun c => by grind⟩

theorem Red.le : ∀ {K : Nat} {K' : Nat} {J' : Nat → Nat} {R' : Nat → Vec} {W : Nat → Vec}, Red K' J' R' → (∀ k, k < K' → Sp (RB K W) (R' k)) → K' ≤ K
  | 0, K', J', R', W, h, hs => by
    rcases Nat.eq_zero_or_pos K' with e | e
    · omega
    · exfalso
      have : ∀ {v : Vec}, Sp (RB 0 W) v → ∀ c, v c = 0 := by
        intro v hv
        induction hv with
        | of hb => obtain ⟨k, hk, _⟩ := hb; omega
        | zero => intro c; rfl
        | add _ _ h1 h2 => intro c; simp only [h1, h2]; rfl
        | mul x _ h1 => intro c; simp only [h1]; simp
        | div hx _ h1 => intro c; exact eq_zero_of_mul hx (h1 c)
      exact h.piv 0 e (this (hs 0 e) _)
  | K + 1, K', J', R', W, h, hs => by
    rcases Classical.em (∀ k, k < K' → Sp (RB K W) (R' k)) with c | c
    · have := Red.le h c; omega
    · obtain ⟨k0, c⟩ := Classical.not_forall.1 c
      obtain ⟨hk0, c⟩ := Classical.not_imp.1 c
      obtain ⟨n, a, hn, h0⟩ := (hs k0 hk0).split
      have ha : a ≠ 0 := fun e => c (Sp.div hn (h0.congr fun c => by rw [e]; grind))
      obtain ⟨K1, rfl⟩ : ∃ K1, K' = K1 + 1 := ⟨K' - 1, by omega⟩
      have hch : ∀ k, ∃ m b : Int, k < K1 + 1 → m ≠ 0 ∧ Sp (RB K W) (fun c => m * R' k c + b * W K c) := by
        intro k
        by_cases hk : k < K1 + 1
        · obtain ⟨m, b, hm, hh⟩ := (hs k hk).split; exact ⟨m, b, fun _ => ⟨hm, hh⟩⟩
        · exact ⟨0, 0, fun h => absurd h hk⟩
      obtain ⟨sk, hsk⟩ : ∃ sk : Nat → Nat, sk = fun k => if k < k0 then k else k + 1 := ⟨_, rfl⟩
      have sk1 : ∀ k, k < K1 → sk k < K1 + 1 ∧ sk k ≠ k0 := by
        intro k hk; rw [hsk]; simp only []
        split <;> constructor <;> omega
      have sk2 : ∀ k q, sk k = sk q → k = q := by
        intro k q e; rw [hsk] at e; simp only [] at e
        split at e <;> split at e <;> omega
      have hch2 : ∀ k, ∃ V : Vec, k < K1 → Sp (RB K W) V ∧ ∃ x y : Int, x ≠ 0 ∧ ∀ c, V c = x * R' (sk k) c + y * R' k0 c := by
        intro k
        by_cases hk : k < K1
        · obtain ⟨m, b, hmb⟩ := hch (sk k)
          obtain ⟨hm, hh⟩ := hmb (sk1 k hk).1
          refine ⟨fun c => a * (m * R' (sk k) c + b * W K c) + (-b) * (n * R' k0 c + a * W K c), fun _ => ⟨Sp.lin a (-b) hh h0, a * m, -b * n, Int.mul_ne_zero ha hm, fun c => by grind⟩⟩
        · exact ⟨fun _ => 0, fun h => absurd h hk⟩
      have hV := Classical.choose_spec (Classical.axiomOfChoice hch2)
      obtain ⟨V, hV⟩ := Classical.axiomOfChoice hch2
      have : K1 ≤ K := Red.le (K := K) (J' := fun k => J' (sk k)) (R' := V) (W := W) ⟨fun k hk => by
          obtain ⟨_, x, y, hx, e⟩ := hV k hk
          obtain ⟨s1, s2⟩ := sk1 k hk
          rw [e, h.off k0 hk0 (sk k) s1 (Ne.symm s2)]
          have := h.piv (sk k) s1
          intro h9
          exact this (eq_zero_of_mul hx (by simpa using h9)),
        fun k hk q hq hne => by
          obtain ⟨_, x, y, hx, e⟩ := hV k hk
          obtain ⟨s1, s2⟩ := sk1 k hk
          obtain ⟨t1, t2⟩ := sk1 q hq
          rw [e, h.off k0 hk0 (sk q) t1 (Ne.symm t2), h.off (sk k) s1 (sk q) t1 (fun e => hne (sk2 _ _ e))]
          simp⟩ (fun k hk => (hV k hk).1)
      omega

theorem Sp.map {B B' : Vec → Prop} (f : Vec → Vec) (h0 : f (fun _ => 0) = fun _ => 0) (ha : ∀ u v, f (fun c => u c + v c) = fun c => f u c + f v c) (hm : ∀ (k : Int) u, f (fun c => k * u c) = fun c => k * f u c)
    (hB : ∀ v, B v → Sp B' (f v)) {v : Vec} (h : Sp B v) : Sp B' (f v) := by
  induction h with
  | of hb => exact hB _ hb
  | zero => rw [h0]; exact .zero
  | add _ _ h1 h2 => rw [ha]; exact .add h1 h2
  | mul k _ h1 => rw [hm]; exact .mul k h1
  | div hk _ h1 => rw [hm] at h1; exact .div hk h1

def colsF (M : List (List Int)) (S : List Int) : List (List Int) := M.map (fun r => S.map (fun j => vec r j.toNat))
def pickV (S : List Int) (v : Vec) : Vec := fun c => match S[c]? with | some j => v j.toNat | none => 0
theorem colsF_vec (r : List Int) (S : List Int) : vec (S.map (fun j => vec r j.toNat)) = pickV S (vec r) := by
  funext c
  unfold pickV
  show ((S.map (fun j => vec r j.toNat))[c]?).getD 0 = _
  rw [List.getElem?_map]
  cases S[c]? <;> rfl
theorem colsF_rowv (M : List (List Int)) (S : List Int) (q : Nat) : rowv (colsF M S) q = pickV S (rowv M q) := by
  unfold rowv colsF
  rw [List.getElem?_map]
  cases M[q]? with
  | none => funext c; unfold pickV; cases S[c]? <;> simp [vec]
  | some r => simp only [Option.map_some, Option.getD_some]; exact colsF_vec r S
theorem colsF_len (M : List (List Int)) (S : List Int) : (colsF M S).length = M.length := by simp [colsF]
theorem colsF_wid (M : List (List Int)) (S : List Int) : ∀ r ∈ colsF M S, r.length = S.length := by
  intro r hr
  obtain ⟨r', _, rfl⟩ := List.mem_map.1 hr
  simp
theorem colsF_le {M : List (List Int)} (h : ∀ r ∈ M, ∀ c, -1 ≤ vec r c ∧ vec r c ≤ 1) (S : List Int) : ∀ r ∈ colsF M S, ∀ c, -1 ≤ vec r c ∧ vec r c ≤ 1 := by
  intro r hr c
  obtain ⟨r', hr', rfl⟩ := List.mem_map.1 hr
  rw [colsF_vec]
  unfold pickV
  split
  · exact h r' hr' _
  · decide

structure MaskOk (M : List (List Int)) (n : Nat) : Prop where
  wid : ∀ r ∈ M, r.length = n
  le6 : M.length ≤ 6
  one : ∀ r ∈ M, ∀ c, -1 ≤ vec r c ∧ vec r c ≤ 1
theorem MaskOk.cols {M : List (List Int)} {n : Nat} (h : MaskOk M n) (S : List Int) : MaskOk (colsF M S) S.length :=
  ⟨colsF_wid M S, by rw [colsF_len]; exact h.le6, colsF_le h.one S⟩
theorem MaskOk.inv {M : List (List Int)} {n : Nat} (h : MaskOk M n) (t : Nat) : RInv n M.length (rowv M) t (pRed M t).1 (pRed M t).2 :=
  pRed_inv M h.wid t (fun j _ q => rowv_le (by decide) (fun r hr => h.one r hr j) q)
theorem MaskOk.below {M : List (List Int)} {n : Nat} (h : MaskOk M n) {q : Nat} (h1 : (pRed M n).2.length ≤ q) (h2 : q < M.length) (c : Nat) : rowv (pRed M n).1 q c = 0 := by
  rcases Nat.lt_or_ge c n with hc | hc
  · exact (h.inv n).zero q h1 h2 c hc
  · exact rowv_wid (h.inv n).wid q hc

def rankF (M : List (List Int)) (n : Nat) : Nat := (pRed M n).2.length
end

section
set_option linter.unusedVariables false

def spreadF (n : Nat) (S l : List Int) (k : Nat) : List Int := (List.range k).foldl (fun h i => h.set (S[i]?.getD 0).toNat (l[i]?.getD 0)) (List.replicate n 0)
theorem spreadF_succ (n : Nat) (S l : List Int) (k : Nat) : spreadF n S l (k + 1) = (spreadF n S l k).set (S[k]?.getD 0).toNat (l[k]?.getD 0) := by
  unfold spreadF; rw [List.range_succ, List.foldl_append]; rfl
theorem spreadF_len (n : Nat) (S l : List Int) : ∀ k, (spreadF n S l k).length = n
  | 0 => by simp [spreadF]
  | k + 1 => by rw [spreadF_succ, List.length_set]; exact spreadF_len n S l k

theorem vec_set {h : List Int} {c i : Nat} {x : Int} (hc : c < h.length) : vec (h.set c x) i = if i = c then x else vec h i := by
  unfold vec
  by_cases e : i = c
  · subst e; rw [if_pos rfl, List.getElem?_set_self hc]; rfl
  · rw [if_neg e, List.getElem?_set_ne (Ne.symm e)]

def SetOk (n : Nat) (S : List Int) : Prop := S.Pairwise (· < ·) ∧ ∀ y ∈ S, 0 ≤ y ∧ y < (n : Int)
theorem SetOk.get {n : Nat} {S : List Int} (h : SetOk n S) {i : Nat} (hi : i < S.length) : 0 ≤ S[i] ∧ S[i] < n := h.2 _ (List.getElem_mem hi)
theorem SetOk.inj {n : Nat} {S : List Int} (h : SetOk n S) {i j : Nat} (hi : i < S.length) (hj : j < S.length) (e : S[i] = S[j]) : i = j := by
  rcases Nat.lt_trichotomy i j with c | c | c
  · have := List.pairwise_iff_getElem.1 h.1 i j hi hj c; omega
  · exact c
  · have := List.pairwise_iff_getElem.1 h.1 j i hj hi c; omega

def firstNz : List Int → Int
  | [] => 0
  | x :: l => if x = 0 then firstNz l else x
theorem firstNz_at : ∀ {l : List Int} {i : Nat}, (∀ j, j < i → vec l j = 0) → vec l i ≠ 0 → firstNz l = vec l i
  | [], i, _, h => by simp [vec] at h
  | x :: l, 0, _, h => by
    have h' : x ≠ 0 := by simpa [vec] using h
    unfold firstNz; rw [if_neg h']; simp [vec]
  | x :: l, i + 1, h0, h => by
    have h1 := h0 0 (by omega)
    have h' : x = 0 := by simpa [vec] using h1
    unfold firstNz; rw [if_pos h']
    have := firstNz_at (l := l) (i := i) (fun j hj => by have := h0 (j + 1) (by omega); simpa [vec] using this) (by simpa [vec] using h)
    rw [this]; simp [vec]

def primV (h : List Int) : List Int := if firstNz (shortF h) < 0 then negF (shortF h) else shortF h

def kerSP (M : List (List Int)) (S : List Int) : List (List Int) := kernP (pRed (colsF M S) S.length).1 (pRed (colsF M S) S.length).2 S.length
def circ1P (M : List (List Int)) (n : Nat) (S : List Int) : Option (List Int) :=
  match kerSP M S with
  | [l] => if l.contains 0 then none else some (primV (spreadF n S l S.length))
  | _ => none
def circP (M : List (List Int)) (n : Nat) : List (List Int) := (List.range (min (rankF M n + 1) n)).flatMap fun k => (comb n (k + 1) 0).filterMap (circ1P M n)
theorem comb_ok {n k : Nat} {S : List Int} (h : S ∈ comb n k 0) : SetOk n S := by
  obtain ⟨h1, h2⟩ := comb_asc n k 0 S h
  exact ⟨h1, fun y hy => by have := h2 y hy; omega⟩

theorem rank_le {M : List (List Int)} {n : Nat} (h : MaskOk M n) : rankF M n ≤ M.length := (h.inv n).K_le

end

section
set_option linter.unusedVariables false

def ofF (n d : Int) : Int × Int :=
  let g : Int := (Int.gcd n d : Nat)
  if d < 0 then (n.tdiv (-g), d.tdiv (-g)) else (n.tdiv g, d.tdiv g)
def ratioF (n d : Int) : Int × Int := (n.tdiv (Int.gcd n d : Nat), d.tdiv (Int.gcd n d : Nat))
theorem ofF_pos {n d : Int} (h : 0 < d) : ofF n d = ratioF n d := by unfold ofF ratioF; simp only []; rw [if_neg (by omega)]

def withY (R : List (List Int)) (y : List Int) : List (List Int) := List.zipWith (fun r v => r ++ [v]) R y
theorem withY_len {R : List (List Int)} {y : List Int} (h : y.length = R.length) : (withY R y).length = R.length := by simp [withY, h]
theorem withY_mem {R : List (List Int)} {y : List Int} {r : List Int} (h : r ∈ withY R y) : ∃ r' ∈ R, ∃ v ∈ y, r = r' ++ [v] := by
  unfold withY at h
  obtain ⟨i, hi, rfl⟩ := List.mem_iff_getElem.1 h
  rw [List.getElem_zipWith]
  simp at hi
  exact ⟨_, List.getElem_mem (by omega), _, List.getElem_mem (by omega), rfl⟩
theorem vec_snoc_lt {r : List Int} {v : Int} {c : Nat} (h : c < r.length) : vec (r ++ [v]) c = vec r c := by
  unfold vec; rw [List.getElem?_append_left h]

structure MaskY (R : List (List Int)) (n : Nat) (Y : Nat) : Prop where
  wid : ∀ r ∈ R, r.length = n + 1
  le6 : R.length ≤ 6
  one : ∀ r ∈ R, ∀ c, c < n → -1 ≤ vec r c ∧ vec r c ≤ 1
  all : ∀ r ∈ R, ∀ x ∈ r, -(Y : Int) ≤ x ∧ x ≤ Y
theorem MaskOk.addY {M : List (List Int)} {n : Nat} (h : MaskOk M n) {y : List Int} (hy : y.length = M.length) {Y : Nat} (hY1 : 1 ≤ Y) (hY : ∀ v ∈ y, -(Y : Int) ≤ v ∧ v ≤ Y) : MaskY (withY M y) n Y := by
  refine ⟨fun r hr => ?_, by rw [withY_len hy]; exact h.le6, fun r hr c hc => ?_, fun r hr x hx => ?_⟩
  · obtain ⟨r', h1, v, _, rfl⟩ := withY_mem hr
    simp [h.wid r' h1]
  · obtain ⟨r', h1, v, _, rfl⟩ := withY_mem hr
    rw [vec_snoc_lt (by rw [h.wid r' h1]; exact hc)]; exact h.one r' h1 c
  · obtain ⟨r', h1, v, h2, rfl⟩ := withY_mem hr
    rcases List.mem_append.1 hx with hx | hx
    · obtain ⟨c, hc, rfl⟩ := List.mem_iff_getElem.1 hx
      have := h.one r' h1 c
      rw [vec_lt hc] at this; omega
    · simp at hx; subst hx; exact hY _ h2

def solveP (R : List (List Int)) (n : Nat) : List (Int × Int) × Int :=
  let s := pRed R n
  if (s.1.drop s.2.length).any (nz n) then ([], 8)
  else if s.2.length < n then ([], 11)
  else ((List.range n).map fun k => ofF (vec (s.1[k]?.getD []) n) (vec (s.1[k]?.getD []) (jf s.2 k)), 0)
def solvedR (R : List (List Int)) (n : Nat) : List (Int × Int) × Int × Bool :=
  let s := rRed R (n + 1)
  if n ∈ s.piv then ([], 0, false)
  else ((List.range s.piv.length).foldl (fun out i => out.set (jf s.piv i) (ratioF (vec (s.done[i]?.getD []) n) (vec (s.done[i]?.getD []) (jf s.piv i)))) (List.replicate n (0, 1)), (n : Int) - s.piv.length, true)
theorem asc_le : ∀ {J : List Nat} {a b : Nat}, J.Pairwise (· < ·) → (∀ x ∈ J, a ≤ x ∧ x < b) → J.length ≤ b - a
  | [], a, b, _, _ => Nat.zero_le _
  | x :: J, a, b, hp, hb => by
    rw [List.pairwise_cons] at hp
    have hx := hb x (by simp)
    have := asc_le (a := x + 1) (b := b) hp.2 (fun y hy => by have := hp.1 y hy; have := hb y (by simp [hy]); omega)
    simp only [List.length_cons]; omega
theorem asc_full : ∀ {J : List Nat} {a n : Nat}, J.Pairwise (· < ·) → (∀ x ∈ J, a ≤ x ∧ x < a + n) → J.length = n → J = List.range' a n
  | [], a, n, _, _, h => by simp at h; subst h; rfl
  | x :: J, a, 0, _, _, h => by simp at h
  | x :: J, a, n + 1, hp, hb, h => by
    rw [List.pairwise_cons] at hp
    have hx := hb x (by simp)
    have hlen : J.length = n := by simpa using h
    -- all others lie above x
    have hxa : x = a := by
      rcases Nat.lt_or_ge a x with c | c
      · exfalso
        have h2 := asc_le (a := a + 1) (b := a + (n + 1)) (List.pairwise_cons.2 hp) (fun y hy => by
          have := hb y hy
          rcases List.mem_cons.1 hy with rfl | hy'
          · omega
          · have := hp.1 y hy'; omega)
        simp at h2; omega
      · omega
    subst hxa
    rw [List.range'_succ]
    congr 1
    exact asc_full hp.2 (fun y hy => by have := hp.1 y hy; have := hb y (by simp [hy]); omega) hlen

end

section
set_option linter.unusedVariables false

def dotS (u v : Vec) (n : Nat) : Int := sm (fun c => u c * v c) n

theorem dotS_sp {B : Vec → Prop} {h : Vec} {n : Nat} (hB : ∀ u, B u → dotS u h n = 0) {v : Vec} (hv : Sp B v) : dotS v h n = 0 := by
  unfold dotS at *
  induction hv with
  | of hb => exact hB _ hb
  | zero => rw [sm_congr (g := fun _ => 0) (fun k _ => by simp), sm_zero]
  | @add u v _ _ h1 h2 => rw [sm_congr (g := fun c => u c * h c + v c * h c) (fun k _ => by grind), sm_add, h1, h2]; rfl
  | @mul k u _ h1 => rw [sm_congr (g := fun c => k * (u c * h c)) (fun k _ => by grind), sm_mul, h1]; simp
  | @div k u hk _ h1 =>
    rw [sm_congr (g := fun c => k * (u c * h c)) (fun k _ => by grind), sm_mul] at h1
    exact eq_zero_of_mul hk h1

abbrev RP (M : List (List Int)) (n : Nat) : List (List Int) := (pRed M n).1
abbrev JP (M : List (List Int)) (n : Nat) : List Nat := (pRed M n).2

theorem MaskOk.rp_le {M : List (List Int)} {n : Nat} (h : MaskOk M n) (k c : Nat) : -720 ≤ vec ((RP M n)[k]?.getD []) c ∧ vec ((RP M n)[k]?.getD []) c ≤ 720 := by
  cases hk : (RP M n)[k]? with
  | none => simp [vec]
  | some r =>
    have := (pRed_le (n := n) (Y := 1) h.wid h.le6 (fun r hr c _ => h.one r hr c) (fun r hr => mem_vec (P := fun x => -((1 : Nat) : Int) ≤ x ∧ x ≤ ((1 : Nat) : Int)) fun c => by have := h.one r hr c; omega) (Nat.le_refl n) r (List.mem_of_getElem? hk)).2
    have h2 := vec_le (Y := 720) (by decide) (fun x hx => by have := this x hx; omega) c
    simpa using h2

theorem MaskOk.span {M : List (List Int)} {n : Nat} (h : MaskOk M n) {v : Vec} : Sp (RB (JP M n).length (rowv (RP M n))) v ↔ Sp (RB M.length (rowv M)) v :=
  (h.inv n).span (fun q h1 h2 c => h.below h1 h2 c)

def IsKer (M : List (List Int)) (n : Nat) (v : Vec) : Prop := ∀ q, q < M.length → dotS (rowv M q) v n = 0
theorem MaskOk.ker_iff {M : List (List Int)} {n : Nat} (h : MaskOk M n) {v : Vec} : IsKer M n v ↔ ∀ k, k < (JP M n).length → dotS (rowv (RP M n) k) v n = 0 := by
  constructor
  · intro hk k hlt
    exact dotS_sp (B := RB M.length (rowv M)) (fun u ⟨q, hq, e⟩ => e ▸ hk q hq) (h.span.1 (RB.sp hlt))
  · intro hk q hq
    exact dotS_sp (B := RB (JP M n).length (rowv (RP M n))) (fun u ⟨k, hlt, e⟩ => e ▸ hk k hlt) (h.span.2 (RB.sp hq))

theorem MaskOk.dot_row {M : List (List Int)} {n : Nat} (h : MaskOk M n) (v : Vec) {k : Nat} (hk : k < (JP M n).length) :
    dotS (rowv (RP M n) k) v n = rowv (RP M n) k (jf (JP M n) k) * v (jf (JP M n) k) + sm (fun c => if c ∈ JP M n then 0 else rowv (RP M n) k c * v c) n := by
  have hi := h.inv n
  have hjl := hi.lt _ (jf_mem hk)
  unfold dotS
  rw [sm_congr (g := fun c => (if c = jf (JP M n) k then rowv (RP M n) k c * v c else 0) + (if c ∈ JP M n then 0 else rowv (RP M n) k c * v c)) (fun c _ => ?_), sm_add, sm_single hjl (fun c _ hne => if_neg hne), if_pos rfl]
  by_cases hc : c ∈ JP M n
  · obtain ⟨i, hlt, rfl⟩ := mem_jf hc
    rw [if_pos hc]
    by_cases e : i = k
    · subst e; simp
    · rw [hi.ech.red.off k hk i hlt (Ne.symm e)]; simp
  · rw [if_neg hc, if_neg (fun e : c = jf (JP M n) k => hc (by rw [e]; exact jf_mem hk))]; simp

theorem MaskOk.raw {M : List (List Int)} {n : Nat} (h : MaskOk M n) {f : Nat} (hf : f < n) (hfJ : f ∉ JP M n) :
    ∃ t : Int, 0 < t ∧ t ≤ 720 ∧ vec (rawP (RP M n) (JP M n) n f) f = t ∧ (∀ c, c ∉ JP M n → c ≠ f → vec (rawP (RP M n) (JP M n) n f) c = 0) ∧
      ∀ i, i < (JP M n).length → vec (rawP (RP M n) (JP M n) n f) (jf (JP M n) i) * rowv (RP M n) i (jf (JP M n) i) = -(rowv (RP M n) i f) * t := by
  obtain ⟨d, d1, d2, hk⟩ := pRed_ok (n := n) h.wid h.le6 (fun r hr c _ => h.one r hr c)
  obtain ⟨a1, a2, a3, a4, a5⟩ := rawP_vals hk hf hfJ
  refine ⟨timesP (RP M n) f (JP M n) 0 1, a1, ?_, by rw [a4 f hfJ, if_pos rfl], fun c hc hne => by rw [a4 c hc, if_neg hne], a5⟩
  have h9 := Int.le_of_dvd (by omega) a2
  have h8 : timesP (RP M n) f (JP M n) 0 1 ≤ (d : Int) := h9
  omega

theorem MaskOk.raw_ker {M : List (List Int)} {n : Nat} (h : MaskOk M n) {f : Nat} (hf : f < n) (hfJ : f ∉ JP M n) : IsKer M n (vec (rawP (RP M n) (JP M n) n f)) := by
  obtain ⟨t, ht, _, h1, h2, h3⟩ := h.raw hf hfJ
  rw [h.ker_iff]
  intro k hk
  rw [h.dot_row _ hk]
  have : sm (fun c => if c ∈ JP M n then 0 else rowv (RP M n) k c * vec (rawP (RP M n) (JP M n) n f) c) n = rowv (RP M n) k f * t := by
    rw [sm_single hf (fun c _ hne => ?_), if_neg hfJ, h1]
    by_cases hc : c ∈ JP M n
    · rw [if_pos hc]
    · rw [if_neg hc, h2 c hc hne]; simp
  rw [this]
  have := h3 k hk
  grind

theorem IsKer.short {M : List (List Int)} {n : Nat} {l : List Int} (h : IsKer M n (vec l)) : IsKer M n (vec (shortF l)) := by
  obtain ⟨g, hg, e⟩ := shortF_mul l
  intro q hq
  have := h q hq
  unfold dotS at *
  rw [sm_congr (g := fun c => g * (rowv M q c * vec (shortF l) c)) (fun c _ => by rw [← e c]; grind), sm_mul] at this
  exact eq_zero_of_mul (g := g) (by omega) this

theorem shortF_le (l : List Int) (c : Nat) : (vec (shortF l) c).natAbs ≤ (vec l c).natAbs := by
  obtain ⟨g, hg, e⟩ := shortF_mul l
  rw [← e c, Int.natAbs_mul]
  exact Nat.le_mul_of_pos_left _ (by omega)

theorem MaskOk.kern {M : List (List Int)} {n : Nat} (h : MaskOk M n) {l : List Int} (hl : l ∈ kernP (RP M n) (JP M n) n) :
    IsKer M n (vec l) ∧ l.length = n ∧ (∀ c, (vec l c).natAbs ≤ 518400) ∧ ∃ f, f < n ∧ 0 < vec l f := by
  unfold kernP at hl
  obtain ⟨f, hf, rfl⟩ := List.mem_map.1 hl
  obtain ⟨hf1, hf2⟩ := List.mem_filter.1 hf
  have hfn : f < n := by simpa using hf1
  have hfJ : f ∉ JP M n := by simpa using hf2
  obtain ⟨t, ht, ht2, h1, h2, h3⟩ := h.raw hfn hfJ
  refine ⟨(h.raw_ker hfn hfJ).short, by unfold kerP rawP; rw [shortF_len, fillF_len]; simp, fun c => ?_, f, hfn, short_pos (by rw [h1]; exact ht)⟩
  refine Nat.le_trans (shortF_le _ c) ?_
  by_cases hc : c ∈ JP M n
  · obtain ⟨i, hi, rfl⟩ := mem_jf hc
    have e := h3 i hi
    have hp : 0 < rowv (RP M n) i (jf (JP M n) i) := ((h.inv n).pp i hi).2
    have hb := h.rp_le i f
    have e2 := congrArg Int.natAbs e
    rw [Int.natAbs_mul, Int.natAbs_mul, Int.natAbs_neg] at e2
    have h5 : (vec (rawP (RP M n) (JP M n) n f) (jf (JP M n) i)).natAbs ≤ (rowv (RP M n) i f).natAbs * t.natAbs := by
      rw [← e2]; exact Nat.le_mul_of_pos_right _ (by omega)
    refine Nat.le_trans h5 ?_
    show _ ≤ 720 * 720
    exact Nat.mul_le_mul (by unfold rowv; omega) (by omega)
  · by_cases e : c = f
    · subst e; rw [h1]; omega
    · rw [h2 c hc e]; simp

end

section
set_option linter.unusedVariables false

end
end Go.Proofs.YtfipebkhomppmaaGreat

namespace Go.Proofs.YtfipebkhomppmaaGreat
open Go.RowKit
set_option linter.unusedVariables false

def Stop (P : Prop) : Prop := P
theorem Stop.of {P : Prop} (h : Stop P) : P := h
theorem Stop.go {P : Prop} (h : P) : Stop P := h
theorem hid {p : Prop} (h : p) : Hid p := h

def IntsAt (w : World) (a : Option Addr) (l : List Int) : Prop :=
  ∀ j, j < l.length → ∃ b off, a = some ⟨b, off, none⟩ ∧ b < w.heap.size ∧ w.cell? ⟨b, off + j, none⟩ = some (.int .i64 (l[j]?.getD 0))

theorem IntsAt.below {w w' : World} {a : Option Addr} {l : List Int} (h : IntsAt w a l) (hb : Below w.heap.size w w') : IntsAt w' a l := by
  intro j hj
  obtain ⟨b, off, e, hlt, hc⟩ := h j hj
  exact ⟨b, off, e, Nat.lt_of_lt_of_le hlt hb.size, (hb.cell (p := ⟨b, off + j, none⟩) hlt).trans hc⟩

theorem chain {a b c : World} (h : Below a.heap.size a b) (k : Below b.heap.size b c) : Below a.heap.size a c := h.trans (k.mono h.size)

theorem below_drewN {B : Nat} {a w : World} (h : Below B a w) (n : Nat) : Below B a (w.drewN n) := ⟨h.os, h.tape, h.output, h.size, h.block⟩

theorem meas {n k : Nat} (h : k < n) : n - (intOf (.int .i64 ((k : Int) + 1))).toNat < n - (intOf (.int .i64 (k : Int))).toNat := by simp [intOf]; omega
theorem cast1 (k : Nat) : Value.int .i64 ((k : Int) + 1) = Value.int .i64 ((k + 1 : Nat) : Int) := by congr 1

theorem ret_int {k : IntKind} {a b : Int} (h : a = b) : Ending.returned (.int k a) = .returned (.int k b) := by rw [h]
theorem ret_bool {a b : Bool} (h : a = b) : Ending.returned (.bool a) = .returned (.bool b) := by rw [h]

def idxP {α : Type} (p : α → Bool) : List α → Nat → Int
  | [], _ => -1
  | x :: l, k => if p x then (k : Int) else idxP p l (k + 1)

theorem idxP_neg {α : Type} (p : α → Bool) : ∀ (l : List α) (k : Nat), (∀ x ∈ l, p x = false) → idxP p l k = -1
  | [], _, _ => rfl
  | x :: l, k, h => by
    unfold idxP
    rw [if_neg (by rw [h x (by simp)]; simp), idxP_neg p l (k + 1) (fun y hy => h y (by simp [hy]))]

theorem idxP_at {α : Type} (p : α → Bool) : ∀ (l : List α) (k j : Nat) (x : α), l[j]? = some x → p x = true → (∀ i y, i < j → l[i]? = some y → p y = false) → idxP p l k = ((k + j : Nat) : Int)
  | [], _, j, x, h, _, _ => by simp at h
  | y :: l, k, 0, x, h, hp, _ => by
    simp at h; subst h; unfold idxP; rw [if_pos hp]; simp
  | y :: l, k, j + 1, x, h, hp, hn => by
    have h0 := hn 0 y (by omega) rfl
    unfold idxP
    rw [if_neg (by rw [h0]; simp), idxP_at p l (k + 1) j x (by simpa using h) hp (fun i z hi hz => hn (i + 1) z (by omega) (by simpa using hz))]
    congr 1; omega

theorem idxP_ge {α : Type} (p : α → Bool) : ∀ (l : List α) (k : Nat), (0 ≤ idxP p l k) = (l.any p = true)
  | [], k => by simp [idxP]
  | x :: l, k => by
    unfold idxP
    by_cases h : p x = true
    · simp [h]
    · rw [if_neg h, idxP_ge p l (k + 1)]; simp [h]

def PredI (P : Program) (g : Nat) (lb : Array Value) (w : World) (p : Int → Bool) : Prop :=
  ∀ (x : Int) (W : World), Below w.heap.size w W → Calls P g (#[.int .i64 x] ++ lb) W fun e W' => e = .returned (.bool (p x)) ∧ Below W.heap.size W W'

theorem getD_lt {l : List Int} {k : Nat} (h : k < l.length) : l[k]? = some (l[k]?.getD 0) := by
  simp [List.getElem?_eq_getElem h]

structure Cel where
  row : List Int
  lo : Int
  hi : Int

def CelV (w : World) (v : Value) (c : Cel) : Prop :=
  ∃ ra n cap, v = .agg #[.slice ra n cap, .int .i64 c.lo, .int .i64 c.hi] ∧ c.row.length = n ∧ n ≤ maxLen ∧ IntsAt w ra c.row

theorem CelV.below {w w' : World} {v : Value} {c : Cel} (h : CelV w v c) (hb : Below w.heap.size w w') : CelV w' v c := by
  obtain ⟨ra, n, cap, e, hn, hm, hi⟩ := h
  exact ⟨ra, n, cap, e, hn, hm, hi.below hb⟩

def CellsAt (w : World) (a : Option Addr) (l : List Cel) : Prop :=
  ∀ j (hj : j < l.length), ∃ b off ra n cap, a = some ⟨b, off, none⟩ ∧ b < w.heap.size ∧
    w.cell? ⟨b, off + j * 3, none⟩ = some (.slice ra n cap) ∧ w.cell? ⟨b, off + j * 3 + 1, none⟩ = some (.int .i64 l[j].lo) ∧ w.cell? ⟨b, off + j * 3 + 2, none⟩ = some (.int .i64 l[j].hi) ∧
    l[j].row.length = n ∧ n ≤ maxLen ∧ IntsAt w ra l[j].row

theorem CellsAt.below {w w' : World} {a : Option Addr} {l : List Cel} (h : CellsAt w a l) (hb : Below w.heap.size w w') : CellsAt w' a l := by
  intro j hj
  obtain ⟨b, off, ra, n, cap, e, hlt, h0, h1, h2, hn, hm, hi⟩ := h j hj
  exact ⟨b, off, ra, n, cap, e, Nat.lt_of_lt_of_le hlt hb.size, (hb.cell (p := ⟨b, _, none⟩) hlt).trans h0, (hb.cell (p := ⟨b, _, none⟩) hlt).trans h1, (hb.cell (p := ⟨b, _, none⟩) hlt).trans h2, hn, hm, hi.below hb⟩

end Go.Proofs.YtfipebkhomppmaaGreat

namespace Go.Proofs.YtfipebkhomppmaaGreat
open Go.RowKit
set_option linter.unusedVariables false

structure Keep (S : Nat → Prop) (A B : World) : Prop where
  os : B.os = A.os
  tape : B.tape = A.tape
  output : B.output = A.output
  size : A.heap.size ≤ B.heap.size
  block : ∀ k, k < A.heap.size → S k → B.heap[k]? = A.heap[k]?

theorem Keep.refl (S : Nat → Prop) (A : World) : Keep S A A := ⟨rfl, rfl, rfl, Nat.le_refl _, fun _ _ _ => rfl⟩
theorem Keep.trans {S : Nat → Prop} {A B C : World} (h : Keep S A B) (k : Keep S B C) : Keep S A C :=
  ⟨k.os.trans h.os, k.tape.trans h.tape, k.output.trans h.output, Nat.le_trans h.size k.size, fun i hi hs => (k.block i (Nat.lt_of_lt_of_le hi h.size) hs).trans (h.block i hi hs)⟩
theorem Keep.drewN {S : Nat → Prop} {A B : World} (h : Keep S A B) (n : Nat) : Keep S A (B.drewN n) := ⟨h.os, h.tape, h.output, h.size, h.block⟩
theorem Keep.mono {S T : Nat → Prop} {A B : World} (h : Keep S A B) (hs : ∀ k, T k → S k) : Keep T A B := ⟨h.os, h.tape, h.output, h.size, fun k hk ht => h.block k hk (hs k ht)⟩
theorem Keep.of_below {S : Nat → Prop} {A B : World} (h : Below A.heap.size A B) : Keep S A B := ⟨h.os, h.tape, h.output, h.size, fun k hk _ => h.block k hk⟩
theorem Keep.grown {A B : World} {row : Option Nat} (h : A.grownBy B row) : Keep (fun k => some k ≠ row) A B := ⟨h.os, h.tape, h.output, h.size, fun k hk hs => h.block k hk hs⟩
theorem Keep.put (A : World) (l : Nat) (o : Obj) : Keep (fun k => k ≠ l) A (A.putObj l o) := (Keep.grown (grownBy_putObj' A l o)).mono fun k hk e => hk (by cases e; rfl)
theorem Keep.set (A : World) (b o : Nat) (v : Value) : Keep (fun k => k ≠ b) A (A.setCell ⟨b, o, none⟩ v) :=
  ⟨rfl, rfl, rfl, by simp [World.setCell], fun k _ hs => Below.heap_setCell _ _ _ _ hs⟩
theorem Keep.below {S : Nat → Prop} {A B w : World} {N : Nat} (h : Keep S A B) (hb : Below N w A) (hN : N ≤ A.heap.size) (hs : ∀ k, k < N → S k) : Below N w B :=
  hb.trans ⟨h.os, h.tape, h.output, h.size, fun k hk => h.block k (by omega) (hs k hk)⟩
theorem Keep.cell {S : Nat → Prop} {A B : World} (h : Keep S A B) {b o : Nat} {v : Value} (hc : A.cell? ⟨b, o, none⟩ = some v) (hs : S b) : B.cell? ⟨b, o, none⟩ = some v :=
  (World.cell?_of_block (a := ⟨b, o, none⟩) (h.block b (World.block_lt_of_cell? A ⟨b, o, none⟩ hc) hs)).trans hc

def IntRow (w : World) (E : TypeId) (b : Nat) (l : List Int) : Prop := w.heap[b]? = some (.cells (l.map (Value.int .i64)).toArray E (0, 0))
theorem IntRow.lt {w : World} {E : TypeId} {b : Nat} {l : List Int} (h : IntRow w E b l) : b < w.heap.size := (Array.getElem?_eq_some_iff.1 h).1
theorem IntRow.cell {w : World} {E : TypeId} {b : Nat} {l : List Int} (h : IntRow w E b l) {j : Nat} (hj : j < l.length) : w.cell? ⟨b, j, none⟩ = some (.int .i64 (l[j]?.getD 0)) := by
  simp [World.cell?, show w.heap[b]? = _ from h, hj]
theorem IntRow.frozen {w : World} {E : TypeId} {b : Nat} {l : List Int} (h : IntRow w E b l) (j : Nat) : w.frozen? ⟨b, j, none⟩ = false := by
  simp [World.frozen?, show w.heap[b]? = _ from h]
theorem IntRow.keep {w w' : World} {E : TypeId} {b : Nat} {l : List Int} (h : IntRow w E b l) (hk : w'.heap[b]? = w.heap[b]?) : IntRow w' E b l := hk.trans h
theorem IntRow.set {w : World} {E : TypeId} {b : Nat} {l : List Int} (h : IntRow w E b l) (j : Nat) (n : Int) : IntRow (w.setCell ⟨b, j, none⟩ (.int .i64 n)) E b (l.set j n) := by
  obtain ⟨hlt, hk⟩ := Array.getElem?_eq_some_iff.1 h
  unfold IntRow
  show (w.heap.modify b _)[b]? = _
  rw [Array.getElem?_eq_getElem (by rw [Array.size_modify]; exact hlt), Array.getElem_modify_self, hk]
  simp [List.map_set]
theorem IntRow.ints {w : World} {E : TypeId} {b : Nat} {l : List Int} (h : IntRow w E b l) : IntsAt w (some ⟨b, 0, none⟩) l :=
  fun j hj => ⟨b, 0, rfl, h.lt, by rw [Nat.zero_add]; exact h.cell hj⟩
theorem IntRow.made (w : World) (E : TypeId) (n : Nat) : IntRow (w.alloc (.cells (madeCells #[.int .i64 0] n) E)) E w.heap.size (List.replicate n 0) := by
  have e : madeCells #[Value.int .i64 0] n = ((List.replicate n (0 : Int)).map (Value.int .i64)).toArray := by
    apply Array.toList_inj.1
    rw [toList_madeCells_one]; simp
  unfold IntRow
  rw [← e]
  exact World.alloc_heap_new _ _

def IterInts (P : Program) (E : TypeId) (g : Nat) (lb : Array Value) (xs : List (List Int)) (fp : Nat → Prop) (w0 : World) : Prop :=
  ∀ (l : Nat) (J : Nat → List (List Int) → World → Prop) (Jx : List (List Int) → World → Prop) (W : World), Below w0.heap.size w0 W →
    (∀ it s A B, W.heap.size ≤ it → J it s A → Keep (fun k => k ≠ it) A B → J it s B) →
    (∀ it pre x cap sp W1, pre ++ [x] <+: xs → W.heap.size ≤ it → it < W1.heap.size → J it pre W1 → W1.heap[it]? = some (.cells (x.map (Value.int .i64) ++ sp).toArray E (0, 0)) →
      YieldAt Fence.wide 0 P l #[.slice (some ⟨it, 0, none⟩) x.length cap] W1 fun e W' =>
        (e = .returned (.bool true) ∧ J it (pre ++ [x]) W' ∧ W1.heap.size ≤ W'.heap.size ∧ (∀ k, fp k ∨ k = it → W'.heap[k]? = W1.heap[k]?)) ∨ (e = .returned (.bool false) ∧ Jx (pre ++ [x]) W')) →
    (∀ it, W.heap.size ≤ it → J it [] W) →
    CallsIn Fence.wide 0 P g (#[.func (.yield l) #[] #[]] ++ lb) W fun e W' => (∃ v, e = .returned v) ∧ ((∃ it, W.heap.size ≤ it ∧ J it xs W') ∨ (∃ pre, pre <+: xs ∧ Jx pre W'))

def roundEnd (S : Nat → Prop) (I : List (List Int) → World → Prop) (Ix : Code → List (List Int) → World → Prop) (xs : List (List Int)) (W : World) : Exit → Act → World → Prop
  | .normal, _, W' => W.heap.size ≤ W'.heap.size ∧ (∀ k, S k → W'.heap[k]? = W.heap[k]?) ∧ I xs W'
  | .ret, _, W' => W.heap.size ≤ W'.heap.size ∧ (∀ k, S k → W'.heap[k]? = W.heap[k]?) ∧ Ix .ret xs W'
  | .exit id, _, W' => W.heap.size ≤ W'.heap.size ∧ (∀ k, S k → W'.heap[k]? = W.heap[k]?) ∧ Ix (.exit id) xs W'
  | .goto t, _, W' => W.heap.size ≤ W'.heap.size ∧ (∀ k, S k → W'.heap[k]? = W.heap[k]?) ∧ Ix (.goto t) xs W'
  | .panic _, _, _ => False
  | .outgrown, _, _ => False

theorem range_ints {P : Program} {E : TypeId} {g : Operand} {p : Tmp} {assign body : Code} {Q : Exit → Act → World → Prop} {a : Act} {w : World}
    {gf : Nat} {lb : Array Value} (hg : a.eval g = .func (.func gf) #[] lb) (eg : ∀ args w, (callFunc gf args).run P w = .ok (.enter gf args) w)
    {xs : List (List Int)} {fp : Nat → Prop} {w0 : World} (hseq : IterInts P E gf lb xs fp w0) (hb0 : Below w0.heap.size w0 w) (hfp : ∀ k, fp k → k < w.heap.size)
    (I : Nat → List (List Int) → World → Prop) (Ix : Code → List (List Int) → World → Prop)
    (hI : ∀ it s A B, w.heap.size + 2 ≤ it → I it s A → Keep (fun k => k ≠ w.heap.size ∧ k ≠ w.heap.size + 1 ∧ k ≠ it) A B → I it s B)
    (hIx : ∀ c s A B, Ix c s A → Keep (fun k => k ≠ w.heap.size ∧ k ≠ w.heap.size + 1) A B → Ix c s B)
    (h0 : ∀ it, w.heap.size + 2 ≤ it → I it [] w) (a₁ : Value → Act)
    (hassign : ∀ (l : Nat) (v : Value) (W : World) (K : Act → World → Prop), K (a₁ v) W →
      assign.wpIn (Fence.wide.inRound l) 0 P (Exit.then K (fun _ _ _ => False)) { tmps := a.tmps.setIfInBounds p v, defers := [] } W)
    (hbody : ∀ (l it : Nat) (pre : List (List Int)) (x : List Int) (cap : Nat) (sp : List Value) (W : World), w.heap.size + 2 ≤ it → pre ++ [x] <+: xs → I it pre W → it < W.heap.size →
      W.heap[it]? = some (.cells (x.map (Value.int .i64) ++ sp).toArray E (0, 0)) →
      (∃ o, W.heap[w.heap.size]? = some o ∧ o.isCells = false) → (∃ o, W.heap[w.heap.size + 1]? = some o ∧ o.isCells = false) →
      body.wpIn (Fence.wide.inRound l) 0 P (roundEnd (fun k => fp k ∨ k = w.heap.size ∨ k = w.heap.size + 1 ∨ k = it) (I it) Ix (pre ++ [x]) W) (a₁ (.slice (some ⟨it, 0, none⟩) x.length cap)) W)
    (hdone : ∀ (it : Nat) (W : World), w.heap.size + 2 ≤ it → I it xs W → W.heap[w.heap.size]? = some (.deferred (some [])) → Q .normal { a with defers := { target := .collected w.heap.size, args := #[] } :: a.defers } W)
    (hstop : ∀ (c : Code) (pre : List (List Int)) (W : World), pre <+: xs → Ix c pre W → W.heap[w.heap.size]? = some (.deferred (some [])) → c.wpIn Fence.wide 0 P Q { a with defers := { target := .collected w.heap.size, args := #[] } :: a.defers } W) :
    (Code.rangeFunc g #[p] assign body).wpIn Fence.wide 0 P Q a w := by
  refine wpIn_rangeFunc ?_
  intro fn hfn
  obtain ⟨rec, hrec⟩ : ∃ rec : LoopState → Option Code → Loop, rec = fun st pe => { state := st, pending := pe, fn, tmps := a.tmps, params := #[p], assign, body, defers := w.heap.size } := ⟨_, rfl⟩
  obtain ⟨W1, hW1⟩ : ∃ W1, (w.alloc (.deferred (some []))).alloc (.loop (rec .ready none)) = W1 := ⟨_, rfl⟩
  have hsz1 : W1.heap.size = w.heap.size + 2 := by rw [← hW1]; simp
  have hL1 : W1.heap[w.heap.size + 1]? = some (.loop (rec .ready none)) := by
    rw [← hW1]; have := World.alloc_heap_new (w.alloc (.deferred (some []))) (.loop (rec .ready none)); rwa [World.size_alloc] at this
  have hK1 : W1.heap[w.heap.size]? = some (.deferred (some [])) := by
    rw [← hW1]; exact (Below.heap_alloc _ _ _ (by simp)).trans (World.alloc_heap_new w _)
  have hbw : Below w.heap.size w W1 := by rw [← hW1]; exact ((Below.refl _ w).alloc (Nat.le_refl _) _).alloc (by simp) _
  refine ⟨w.heap.size + 1, [{ target := .collected w.heap.size, args := #[] }], W1, { target := .fn (.func gf) lb, args := #[.func (.yield (w.heap.size + 1)) #[] #[]] }, W1, gf,
    #[.func (.yield (w.heap.size + 1)) #[] #[]] ++ lb, W1, ?_, ?_, ?_, ?_, fun h => by simp [Fence.wide] at h, ?_⟩
  · rw [← hW1, hrec]; exact run_enterLoop_outer _ _ _ _ _
  · simp only [resolve, hg]
    simp [go_sem]
  · intro f' hf'; exact trivial
  · simp [invoke, go_sem, eg]
  · refine (hseq (w.heap.size + 1)
      (fun it pre W => I it pre W ∧ W.heap[w.heap.size + 1]? = some (.loop (rec .ready none)) ∧ W.heap[w.heap.size]? = some (.deferred (some [])))
      (fun pre W => ∃ c, Ix c pre W ∧ W.heap[w.heap.size + 1]? = some (.loop (rec .done (some c))) ∧ W.heap[w.heap.size]? = some (.deferred (some [])))
      W1 (chain hb0 hbw) ?_ ?_ ?_).mono ?_
    · rintro it s A B hit ⟨hi, hl, hk⟩ hAB
      rw [hsz1] at hit
      exact ⟨hI it s A B hit hi (hAB.mono fun k hk => hk.2.2), (hAB.block _ (Array.getElem?_eq_some_iff.1 hl).1 (by omega)).trans hl, (hAB.block _ (Array.getElem?_eq_some_iff.1 hk).1 (by omega)).trans hk⟩
    · rintro it pre x cap sp W hpre hit hitW ⟨hi, hl, hk⟩ hx
      rw [hsz1] at hit
      have hlt : w.heap.size + 1 < W.heap.size := (Array.getElem?_eq_some_iff.1 hl).1
      have hy := run_yield (P := P) (args := #[.slice (some ⟨it, 0, none⟩) x.length cap]) hl (by rw [hrec]; simp)
      rw [hrec] at hy
      have hy' : (Instr.yield (w.heap.size + 1) #[.slice (some ⟨it, 0, none⟩) x.length cap]).run P W = .ok (.round (w.heap.size + 1) fn (a.tmps.setIfInBounds p (.slice (some ⟨it, 0, none⟩) x.length cap)) assign body) W := by
        simpa using hy
      refine ⟨fn, _, assign, body, hy', roundIn_of_wpIn hfn ?_⟩
      refine hassign _ (.slice (some ⟨it, 0, none⟩) x.length cap) W _ ?_
      refine ⟨_, run_beginRound hl (by rw [hrec]), ?_⟩
      have hl2 : (W.putObj (w.heap.size + 1) (.loop { rec .ready none with state := .busy })).heap[w.heap.size + 1]? = some (.loop { rec .ready none with state := .busy }) := World.putObj_heap_same hlt
      have hx2 : (W.putObj (w.heap.size + 1) (.loop { rec .ready none with state := .busy })).heap[it]? = some (.cells (x.map (Value.int .i64) ++ sp).toArray E (0, 0)) := (World.putObj_heap_other (by omega)).trans hx
      have hkp := Keep.put W (w.heap.size + 1) (.loop { rec .ready none with state := .busy })
      refine wpIn_mono (hbody _ it pre x cap sp _ hit hpre (hI it _ _ _ hit hi (hkp.mono fun k hk => hk.2.1)) (Nat.lt_of_lt_of_le hitW hkp.size) hx2 ⟨_, (World.putObj_heap_other (by omega)).trans hk, rfl⟩ ⟨_, hl2, rfl⟩) ?_
      have fin : ∀ (jump : Option Code) (W3 : World), (∀ k, (fp k ∨ k = w.heap.size ∨ k = w.heap.size + 1 ∨ k = it) → W3.heap[k]? = (W.putObj (w.heap.size + 1) (.loop { rec .ready none with state := .busy })).heap[k]?) →
          (Instr.endRound (w.heap.size + 1) jump).run P W3 = .ok (.bool jump.isNone) (W3.putObj (w.heap.size + 1) (.loop (rec (if jump.isNone then .ready else .done) jump))) ∧
          W3.heap[w.heap.size + 1]? = some (.loop { rec .ready none with state := .busy }) ∧
          (W3.putObj (w.heap.size + 1) (.loop (rec (if jump.isNone then .ready else .done) jump))).heap[w.heap.size + 1]? = some (.loop (rec (if jump.isNone then .ready else .done) jump)) ∧
          (W3.putObj (w.heap.size + 1) (.loop (rec (if jump.isNone then .ready else .done) jump))).heap[w.heap.size]? = some (.deferred (some [])) := fun jump W3 hk3 => by
        have hl3 := (hk3 (w.heap.size + 1) (by simp)).trans hl2
        have := run_endRound (P := P) jump hl3
        rw [hrec] at this ⊢
        refine ⟨this, by rw [hrec] at hl3; exact hl3, World.putObj_heap_same (Array.getElem?_eq_some_iff.1 hl3).1, (World.putObj_heap_other (by omega)).trans ((hk3 w.heap.size (by simp)).trans ((World.putObj_heap_other (by omega)).trans hk))⟩
      rintro e a3 W3 hp
      have keepP : ∀ (o : Obj), Keep (fun k => k ≠ w.heap.size ∧ k ≠ w.heap.size + 1) W3 (W3.putObj (w.heap.size + 1) o) := fun o => (Keep.put W3 (w.heap.size + 1) o).mono fun k hk => hk.2
      cases e with
      | normal =>
        obtain ⟨hs3, hk3, hi3⟩ := hp
        obtain ⟨hr, hl3, hl4, hk4⟩ := fin none W3 hk3
        refine ⟨_, _, hr, .inl ⟨rfl, ⟨hI it _ _ _ hit hi3 ((Keep.put W3 _ _).mono fun k hk => hk.2.1), hl4, hk4⟩, ?_, ?_⟩⟩
        · exact Nat.le_trans (Nat.le_trans hkp.size hs3) (keepP _).size
        · intro k hk
          have hne : k ≠ w.heap.size + 1 := by
            rcases hk with hk | hk
            · have := hfp k hk; omega
            · omega
          exact (World.putObj_heap_other hne).trans ((hk3 k (by rcases hk with hk | hk <;> simp [hk])).trans (World.putObj_heap_other hne))
      | ret =>
        obtain ⟨hs3, hk3, hi3⟩ := hp
        obtain ⟨hr, hl3, hl4, hk4⟩ := fin (some .ret) W3 hk3
        exact ⟨_, _, hr, .inr ⟨rfl, .ret, hIx _ _ _ _ hi3 (keepP _), hl4, hk4⟩⟩
      | exit id =>
        obtain ⟨hs3, hk3, hi3⟩ := hp
        obtain ⟨hr, hl3, hl4, hk4⟩ := fin (some (.exit id)) W3 hk3
        exact ⟨_, _, hr, .inr ⟨rfl, .exit id, hIx _ _ _ _ hi3 (keepP _), hl4, hk4⟩⟩
      | goto t =>
        obtain ⟨hs3, hk3, hi3⟩ := hp
        obtain ⟨hr, hl3, hl4, hk4⟩ := fin (some (.goto t)) W3 hk3
        exact ⟨_, _, hr, .inr ⟨rfl, .goto t, hIx _ _ _ _ hi3 (keepP _), hl4, hk4⟩⟩
      | panic ch => exact hp.elim
      | outgrown => exact hp.elim
    · intro it hit
      rw [hsz1] at hit
      exact ⟨hI it _ _ _ hit (h0 it hit) (Keep.of_below hbw), hL1, hK1⟩
    · rintro e W2 ⟨⟨v, rfl⟩, (⟨it, hit, hi, hl, hk⟩ | ⟨pre, hSp, c, hi, hl, hk⟩)⟩
      · rw [hsz1] at hit
        refine ⟨none, _, by have := run_endLoop (P := P) hl (by rw [hrec]; simp); rw [hrec] at this; exact this, hdone it _ hit (hI it _ _ _ hit hi ((Keep.put W2 _ _).mono fun k hk => hk.2.1)) ((World.putObj_heap_other (by omega)).trans hk)⟩
      · refine ⟨some c, _, by have := run_endLoop (P := P) hl (by rw [hrec]; simp); rw [hrec] at this; exact this, hstop c pre _ hSp (hIx _ _ _ _ hi ((Keep.put W2 _ _).mono fun k hk => hk.2)) ((World.putObj_heap_other (by omega)).trans hk)⟩
end Go.Proofs.YtfipebkhomppmaaGreat

namespace Go.Proofs.YtfipebkhomppmaaGreat
open Go.RowKit
set_option linter.unusedVariables false

def RowsAt (w : World) (a : Option Addr) (ls : List (List Int)) : Prop :=
  ∀ j (hj : j < ls.length), ∃ b off ra n cap, a = some ⟨b, off, none⟩ ∧ b < w.heap.size ∧ w.cell? ⟨b, off + j, none⟩ = some (.slice ra n cap) ∧ ls[j].length = n ∧ n ≤ maxLen ∧ IntsAt w ra ls[j]
theorem RowsAt.below {w w' : World} {a : Option Addr} {l : List (List Int)} (h : RowsAt w a l) (hb : Below w.heap.size w w') : RowsAt w' a l := by
  intro j hj
  obtain ⟨b, off, ra, n, cap, e, hlt, h0, hn, hm, hi⟩ := h j hj
  exact ⟨b, off, ra, n, cap, e, Nat.lt_of_lt_of_le hlt hb.size, (hb.cell (p := ⟨b, _, none⟩) hlt).trans h0, hn, hm, hi.below hb⟩

def ElemI (E : TypeId) (W : World) (base : Nat) (S : Nat → Prop) (v : Value) (l : List Int) : Prop :=
  ∃ a n cap, v = .slice a n cap ∧ l.length = n ∧ n ≤ maxLen ∧ ∀ j, j < l.length → ∃ b off, a = some ⟨b, off, none⟩ ∧ S b ∧ b < W.heap.size ∧
    (b < base ∨ ∃ c f, W.heap[b]? = some (.cells c E f)) ∧ W.cell? ⟨b, off + j, none⟩ = some (.int .i64 (l[j]?.getD 0))

theorem ElemI.keep {E : TypeId} {W W' : World} {base : Nat} {S T : Nat → Prop} {v : Value} {l : List Int} (h : ElemI E W base S v l) (hk : Keep T W W')
    (hT : ∀ b, S b → b < W.heap.size → (b < base ∨ ∃ c f, W.heap[b]? = some (.cells c E f)) → T b) : ElemI E W' base S v l := by
  obtain ⟨a, n, cap, e, hn, hm, hj⟩ := h
  refine ⟨a, n, cap, e, hn, hm, fun j hlt => ?_⟩
  obtain ⟨b, off, e, hS, hb, hty, hc⟩ := hj j hlt
  have ht := hT b hS hb hty
  refine ⟨b, off, e, hS, Nat.lt_of_lt_of_le hb hk.size, ?_, hk.cell hc ht⟩
  rcases hty with h | ⟨c, f, h⟩
  · exact .inl h
  · exact .inr ⟨c, f, (hk.block b hb ht).trans h⟩

theorem ElemI.ints {E : TypeId} {W : World} {base : Nat} {S : Nat → Prop} {l : List Int} {a : Option Addr} {n cap : Nat} (h : ElemI E W base S (.slice a n cap) l) : l.length = n ∧ n ≤ maxLen ∧ IntsAt W a l := by
  obtain ⟨a', n', cap', e, hn, hm, hj⟩ := h
  cases e
  refine ⟨hn, hm, fun j hlt => ?_⟩
  obtain ⟨b, off, e, _, hb, _, hc⟩ := hj j hlt
  exact ⟨b, off, e, hb, hc⟩

theorem ElemI.own {E : TypeId} {W : World} {b0 base : Nat} {S : Nat → Prop} {v : Value} {l : List Int} (h : W.ownsRow b0 E 1 v l.length (l.map (Value.int .i64))) (hm : l.length ≤ maxLen) (hS : ∀ b, b0 ≤ b → S b) : ElemI E W base S v l := by
  obtain ⟨h1, h2⟩ := h
  rcases h2 with ⟨rfl, h0⟩ | ⟨g, cap, cur, rfl, hg, hh, hnc, hcm, hsz, htk⟩
  · exact ⟨none, 0, 0, rfl, h0, by unfold maxLen; omega, fun j hj => by omega⟩
  · refine ⟨_, _, cap, rfl, rfl, hm, fun j hj => ⟨g, 0, rfl, hS g hg, (Array.getElem?_eq_some_iff.1 hh).1, .inr ⟨cur, _, hh⟩, ?_⟩⟩
    rw [Nat.zero_add]
    have := World.ownsRow.cellAt (w := W) (base := b0) (e := E) (size := 1) (g := g) (n := l.length) (cap := cap) (xs := l.map (Value.int .i64)) ⟨h1, .inr ⟨g, cap, cur, rfl, hg, hh, hnc, hcm, hsz, htk⟩⟩ j (by omega)
    rw [this, List.getElem?_map, List.getElem?_eq_getElem hj]; rfl

theorem ownsRow_slice {W : World} {base : Nat} {e : TypeId} {size : Nat} {v : Value} {n : Nat} {xs : List Value} (h : W.ownsRow base e size v n xs) : ∃ a cap, v = .slice a n cap := by
  rcases h.2 with ⟨rfl, rfl⟩ | ⟨g, cap, cur, rfl, _⟩
  · exact ⟨_, _, rfl⟩
  · exact ⟨_, _, rfl⟩

def RowsO (E T : TypeId) (W : World) (base : Nat) (S : Nat → Prop) (v : Value) (ls : List (List Int)) : Prop :=
  ∃ vs, W.ownsRow base T 1 v ls.length vs ∧ (∀ k, v.ownBlock = some k → S k) ∧ ∀ j (hj : j < ls.length), ∃ u, vs[j]? = some u ∧ ElemI E W base S u ls[j]

theorem RowsO.nil (E T : TypeId) (W : World) (base : Nat) (S : Nat → Prop) : RowsO E T W base S (.slice none 0 0) [] :=
  ⟨[], World.ownsRow_nil _ _ _ _, fun k hk => by simp [Value.ownBlock] at hk, fun j hj => by simp at hj⟩

theorem RowsO.keep {E T : TypeId} {W W' : World} {base : Nat} {S : Nat → Prop} {v : Value} {ls : List (List Int)} (h : RowsO E T W base S v ls) (hk : Keep S W W') : RowsO E T W' base S v ls := by
  obtain ⟨vs, ho, hg, he⟩ := h
  refine ⟨vs, ⟨ho.1, ?_⟩, hg, fun j hj => ?_⟩
  · rcases ho.2 with hn | ⟨g, cap, cur, rfl, hb, hgg, rest⟩
    · exact .inl hn
    · exact .inr ⟨g, cap, cur, rfl, hb, (hk.block g (Array.getElem?_eq_some_iff.1 hgg).1 (hg g rfl)).trans hgg, rest⟩
  · obtain ⟨u, hu, hel⟩ := he j hj
    exact ⟨u, hu, hel.keep hk fun b hS _ _ => hS⟩

theorem RowsO.free {E T : TypeId} {W : World} {base : Nat} {S : Nat → Prop} {v : Value} {ls : List (List Int)} (h : RowsO E T W base S v ls) : RowsO E T W base (fun _ => True) v ls := by
  obtain ⟨vs, ho, hg, he⟩ := h
  refine ⟨vs, ho, fun _ _ => trivial, fun j hj => ?_⟩
  obtain ⟨u, hu, a, n, cap, e, hn, hm, hel⟩ := he j hj
  refine ⟨u, hu, a, n, cap, e, hn, hm, fun i hi => ?_⟩
  obtain ⟨b, off, e, _, rest⟩ := hel i hi
  exact ⟨b, off, e, trivial, rest⟩

theorem RowsO.snoc {E T : TypeId} (hET : E ≠ T) {W w1 w2 : World} {base : Nat} {S : Nat → Prop} {v v' u : Value} {ls : List (List Int)} {l : List Int} {vs : List Value}
    (ho : W.ownsRow base T 1 v ls.length vs) (he : ∀ j (hj : j < ls.length), ∃ u, vs[j]? = some u ∧ ElemI E W base S u ls[j]) (hu : ElemI E W base S u l)
    (hW1 : Below W.heap.size W w1) (hg : w1.grownBy w2 v.ownBlock) (ho' : w2.ownsRow base T 1 v' (ls.length + 1) (vs ++ [u])) (hS' : ∀ k, v'.ownBlock = some k → S k) : RowsO E T w2 base S v' (ls ++ [l]) := by
  have hlen : vs.length = ls.length := by have := ho.1; omega
  have hgb : ∀ b, (b < base ∨ ∃ c f, W.heap[b]? = some (.cells c E f)) → b < W.heap.size → w2.heap[b]? = W.heap[b]? := by
    intro b hty hb
    refine (hg.block b (Nat.lt_of_lt_of_le hb hW1.size) ?_).trans (hW1.block b hb)
    rcases ho.2 with ⟨rfl, _⟩ | ⟨g, cap, cur, rfl, hbg, hgg, _⟩
    · simp [Value.ownBlock]
    · intro e
      obtain rfl : b = g := by simpa [Value.ownBlock] using e
      rcases hty with h | ⟨c, f, h⟩
      · omega
      · rw [h] at hgg; cases hgg; exact hET rfl
  have hel : ∀ u l, ElemI E W base S u l → ElemI E w2 base S u l := by
    intro u l h
    refine h.keep (T := fun b => b < W.heap.size ∧ (b < base ∨ ∃ c f, W.heap[b]? = some (.cells c E f))) ⟨hg.os.trans hW1.os, hg.tape.trans hW1.tape, hg.output.trans hW1.output, Nat.le_trans hW1.size hg.size, fun k hk hT => hgb k hT.2 hk⟩ fun b _ hb hty => ⟨hb, hty⟩
  refine ⟨vs ++ [u], by simpa using ho', hS', fun j hj => ?_⟩
  by_cases e : j < ls.length
  · obtain ⟨u', hu', hel'⟩ := he j e
    refine ⟨u', by rw [List.getElem?_append_left (by omega)]; exact hu', ?_⟩
    rw [List.getElem_append_left e]
    exact hel _ _ hel'
  · have : j = ls.length := by simp at hj; omega
    subst this
    refine ⟨u, by rw [List.getElem?_append_right (by omega), hlen]; simp, ?_⟩
    simp only [List.getElem_append_right (Nat.le_refl _), Nat.sub_self, List.getElem_cons_zero]
    exact hel _ _ hu

theorem RowsO.reads {E T : TypeId} {W : World} {base : Nat} {S : Nat → Prop} {v : Value} {ls : List (List Int)} (h : RowsO E T W base S v ls) : ∃ a cap, v = .slice a ls.length cap ∧ ls.length ≤ maxLen ∧ RowsAt W a ls ∧ (a = none → ls = []) := by
  obtain ⟨vs, ho, hg, he⟩ := h
  rcases ho.2 with ⟨rfl, h0⟩ | ⟨g, cap, cur, rfl, hbg, hgg, hnc, hcm, hsz, htk⟩
  · have : ls = [] := List.eq_nil_of_length_eq_zero h0
    subst this
    exact ⟨none, 0, rfl, by simp, fun j hj => by simp at hj, fun _ => rfl⟩
  · refine ⟨_, cap, rfl, by omega, fun j hj => ?_, fun h => by cases h⟩
    obtain ⟨u, hu, hel⟩ := he j hj
    have hc := World.ownsRow.cellAt (w := W) (base := base) (e := T) (size := 1) (g := g) (n := ls.length) (cap := cap) (xs := vs) ⟨ho.1, .inr ⟨g, cap, cur, rfl, hbg, hgg, hnc, hcm, hsz, htk⟩⟩ j (by omega)
    obtain ⟨a', n', cap', rfl, h1, h2, h3⟩ := id hel
    obtain ⟨h1, h2, h3⟩ := hel.ints
    exact ⟨g, 0, a', n', cap', rfl, (Array.getElem?_eq_some_iff.1 hgg).1, by rw [Nat.zero_add, hc, hu], h1, h2, h3⟩
end Go.Proofs.YtfipebkhomppmaaGreat

namespace Go.Proofs.YtfipebkhomppmaaGreat
open Go.RowKit
set_option linter.unusedVariables false

def inB (n lo hi : Int) : Bool := decide (lo ≤ n) && decide (n ≤ hi)

theorem mwithin_c (n lo hi : Int) (w : World) : Calls Tryz.prog 72 #[.int .i64 n, .int .i64 lo, .int .i64 hi] w fun e w' => e = .returned (.bool (inB n lo hi)) ∧ w = w' := by
  by_cases h1 : lo ≤ n <;> by_cases h2 : n ≤ hi
  all_goals
    go_enter Tryz.func72, Tryz.ntmps72
    go_wp2
    go_ret
    exact ⟨ret_bool (by simp [inB, h1, h2]), rfl⟩

theorem indexI (w : World) (a : Option Addr) (n cap : Nat) (l : List Int) (hn : l.length = n) (hm : n ≤ maxLen) (H : IntsAt w a l) (g : Nat) (lb : Array Value) (p : Int → Bool)
    (eg : ∀ args w, (callFunc g args).run Tryz.prog w = .ok (.enter g args) w) (hp : PredI Tryz.prog g lb w p) :
    Calls Tryz.prog 71 #[.slice a n cap, .func (.func g) #[] lb] w fun e w' => e = .returned (.int .i64 (idxP p l 0)) ∧ Below w.heap.size w w' := by
  have HN := hid hn
  have HH := hid H
  have HP := hid hp
  clear hn H hp
  unfold maxLen at hm
  go_enter Tryz.func71, Tryz.ntmps71
  go_wp2
  go_loopw [8] (fun i wr => ∃ k : Nat, k ≤ n ∧ i = .int .i64 k ∧ Below w.heap.size w wr ∧ ∀ i y, i < k → l[i]? = some y → p y = false) (fun i _ => n - (intOf i).toNat)
  case atStart => exact ⟨0, Nat.zero_le _, rfl, Below.refl _ _, fun i y h => by omega⟩
  case round =>
    obtain ⟨k, hk, rfl, hb, hno⟩ := hrel
    have HNO := hid hno
    clear hno
    by_cases hlt : k < n
    · obtain ⟨b, off, rfl, hbs, hc⟩ := (HH.out.below hb) k (by rw [HN.out]; exact hlt)
      have hkk := getD_lt (l := l) (k := k) (by rw [HN.out]; exact hlt)
      have HK := hid hkk
      clear hkk
      cases hpx : p (l[k]?.getD 0)
      · go_wp2_with (refine (HP.out _ _ hb).mono ?_; rintro e w1 ⟨rfl, hb1⟩)
        refine ⟨⟨k + 1, by omega, by go_num, chain hb hb1, ?_⟩, by simp [intOf]; omega⟩
        intro i y hi hy
        by_cases e : i = k
        · subst e; rw [HK.out] at hy; cases hy; exact hpx
        · exact HNO.out i y (by omega) hy
      · go_wp2_with (refine (HP.out _ _ hb).mono ?_; rintro e w1 ⟨rfl, hb1⟩)
        go_ret
        refine ⟨ret_int ?_, chain hb hb1⟩
        rw [idxP_at p l 0 k _ HK.out hpx HNO.out]; simp
    · go_wp2
      go_ret
      refine ⟨ret_int ?_, hb⟩
      rw [idxP_neg]
      intro x hx
      obtain ⟨i, hi, e⟩ := List.getElem_of_mem hx
      exact HNO.out i x (by have := HN.out; omega) (by rw [List.getElem?_eq_getElem hi, e])

theorem containsI (w : World) (a : Option Addr) (n cap : Nat) (l : List Int) (hn : l.length = n) (hm : n ≤ maxLen) (H : IntsAt w a l) (g : Nat) (lb : Array Value) (p : Int → Bool)
    (eg : ∀ args w, (callFunc g args).run Tryz.prog w = .ok (.enter g args) w) (hp : PredI Tryz.prog g lb w p) :
    Calls Tryz.prog 40 #[.slice a n cap, .func (.func g) #[] lb] w fun e w' => e = .returned (.bool (l.any p)) ∧ Below w.heap.size w w' := by
  have HC := hid (indexI w a n cap l hn hm H g lb p eg hp)
  have HG := idxP_ge p l 0
  have HG' := hid HG
  clear hn H hp HG
  go_enter Tryz.func40, Tryz.ntmps40
  go_wp2_with (refine HC.out.mono ?_; rintro e w1 ⟨rfl, hb1⟩)
  go_ret
  refine ⟨ret_bool ?_, hb1⟩
  rw [Bool.eq_iff_iff, decide_eq_true_iff, HG'.out]

def SlV (w : World) (v : Value) (l : List Int) : Prop := ∃ ra n cap, v = .slice ra n cap ∧ l.length = n ∧ n ≤ maxLen ∧ IntsAt w ra l
theorem SlV.below {w w' : World} {v : Value} {l : List Int} (h : SlV w v l) (hb : Below w.heap.size w w') : SlV w' v l := by
  obtain ⟨ra, n, cap, e, hn, hm, hi⟩ := h
  exact ⟨ra, n, cap, e, hn, hm, hi.below hb⟩

def PredR (P : Program) (g : Nat) (lb : Array Value) (w : World) (p : List Int → Bool) : Prop :=
  ∀ (l : List Int) (v : Value) (W : World), Below w.heap.size w W → SlV W v l → Calls P g (#[v] ++ lb) W fun e W' => e = .returned (.bool (p l)) ∧ Below W.heap.size W W'

theorem indexR (w : World) (a : Option Addr) (n cap : Nat) (l : List (List Int)) (hn : l.length = n) (hm : n ≤ maxLen) (H : RowsAt w a l) (g : Nat) (lb : Array Value) (p : List Int → Bool)
    (eg : ∀ args w, (callFunc g args).run Tryz.prog w = .ok (.enter g args) w) (hp : PredR Tryz.prog g lb w p) :
    Calls Tryz.prog 85 #[.slice a n cap, .func (.func g) #[] lb] w fun e w' => e = .returned (.int .i64 (idxP p l 0)) ∧ Below w.heap.size w w' := by
  have HN := hid hn
  have HH := hid H
  have HP := hid hp
  clear hn H hp
  unfold maxLen at hm
  go_enter Tryz.func85, Tryz.ntmps85
  go_wp2
  go_loopw [8] (fun i wr => ∃ k : Nat, k ≤ n ∧ i = .int .i64 k ∧ Below w.heap.size w wr ∧ ∀ i y, i < k → l[i]? = some y → p y = false) (fun i _ => n - (intOf i).toNat)
  case atStart => exact ⟨0, Nat.zero_le _, rfl, Below.refl _ _, fun i y h => by omega⟩
  case round =>
    obtain ⟨k, hk, rfl, hb, hno⟩ := hrel
    have HNO := hid hno
    clear hno
    by_cases hlt : k < n
    · have hkl : k < l.length := by rw [HN.out]; exact hlt
      obtain ⟨b, off, ra, rn, rc, rfl, hbs, h0, hrn, hrm, hri⟩ := (HH.out.below hb) k hkl
      have HV := hid (show SlV wr (.slice ra rn rc) l[k] from ⟨ra, rn, rc, rfl, hrn, hrm, hri⟩)
      clear hrn hri
      have HK := hid (List.getElem?_eq_getElem hkl)
      cases hpx : p l[k]
      · go_wp2_with (refine (HP.out _ _ _ hb HV.out).mono ?_; rintro e w1 ⟨rfl, hb1⟩)
        refine ⟨⟨k + 1, by omega, by go_num, chain hb hb1, ?_⟩, by simp [intOf]; omega⟩
        intro i y hi hy
        by_cases e : i = k
        · subst e; rw [HK.out] at hy; cases hy; exact hpx
        · exact HNO.out i y (by omega) hy
      · go_wp2_with (refine (HP.out _ _ _ hb HV.out).mono ?_; rintro e w1 ⟨rfl, hb1⟩)
        go_ret
        refine ⟨ret_int ?_, chain hb hb1⟩
        rw [idxP_at p l 0 k _ HK.out hpx HNO.out]; simp
    · go_wp2
      go_ret
      refine ⟨ret_int ?_, hb⟩
      rw [idxP_neg]
      intro x hx
      obtain ⟨i, hi, e⟩ := List.getElem_of_mem hx
      exact HNO.out i x (by have := HN.out; omega) (by rw [List.getElem?_eq_getElem hi, e])

theorem containsR (w : World) (a : Option Addr) (n cap : Nat) (l : List (List Int)) (hn : l.length = n) (hm : n ≤ maxLen) (H : RowsAt w a l) (g : Nat) (lb : Array Value) (p : List Int → Bool)
    (eg : ∀ args w, (callFunc g args).run Tryz.prog w = .ok (.enter g args) w) (hp : PredR Tryz.prog g lb w p) :
    Calls Tryz.prog 103 #[.slice a n cap, .func (.func g) #[] lb] w fun e w' => e = .returned (.bool (l.any p)) ∧ Below w.heap.size w w' := by
  have HC := hid (indexR w a n cap l hn hm H g lb p eg hp)
  have HG := idxP_ge p l 0
  have HG' := hid HG
  clear hn H hp HG
  go_enter Tryz.func103, Tryz.ntmps103
  go_wp2_with (refine HC.out.mono ?_; rintro e w1 ⟨rfl, hb1⟩)
  go_ret
  refine ⟨ret_bool ?_, hb1⟩
  rw [Bool.eq_iff_iff, decide_eq_true_iff, HG'.out]

theorem allI1 (w : World) (b g : Nat) (lb : Array Value) (p : Int → Bool) (eg : ∀ args w, (callFunc g args).run Tryz.prog w = .ok (.enter g args) w) (hb : b < w.heap.size) (hc : w.cell? ⟨b, 0, none⟩ = some (.func (.func g) #[] lb)) (hp : PredI Tryz.prog g lb w p) :
    PredI Tryz.prog 115 #[.pointer (some ⟨b, 0, none⟩)] w (fun n => !p n) := by
  intro x W hbw
  have hc' : W.cell? ⟨b, 0, none⟩ = some (.func (.func g) #[] lb) := (hbw.cell (p := ⟨b, 0, none⟩) hb).trans hc
  have HP := hid (hp x W hbw)
  clear hp
  go_enter Tryz.func115, Tryz.ntmps115
  go_wp2_with (refine HP.out.mono ?_; rintro e w1 ⟨rfl, hb1⟩)
  go_ret
  exact ⟨rfl, hb1⟩

theorem allI_c (w : World) (a : Option Addr) (n cap : Nat) (l : List Int) (hn : l.length = n) (hm : n ≤ maxLen) (H : IntsAt w a l) (g : Nat) (lb : Array Value) (p : Int → Bool)
    (eg : ∀ args w, (callFunc g args).run Tryz.prog w = .ok (.enter g args) w) (hp : PredI Tryz.prog g lb w p) :
    Calls Tryz.prog 105 #[.slice a n cap, .func (.func g) #[] lb] w fun e w' => e = .returned (.bool (l.all p)) ∧ Below w.heap.size w w' := by
  have hb0 : Below w.heap.size w (w.alloc (.cells #[.func (.func g) #[] lb] 73)) := (Below.refl _ _).alloc (Nat.le_refl _) _
  have HC := hid (containsI (w.alloc (.cells #[.func (.func g) #[] lb] 73)) a n cap l hn hm (H.below hb0) 115 #[.pointer (some ⟨w.heap.size, 0, none⟩)] _ (enters_of Tryz.func115 (by kernel_rfl) rfl)
    (allI1 _ w.heap.size g lb p eg (by simp) (by rw [World.cell?_alloc_at _ _ _ _ rfl]; rfl) (fun x W h => hp x W (chain hb0 h))))
  clear hn H hp
  have hmf : ∀ (fn : Fn) (first cap : Array Value) (w : World), (Instr.makeFunc fn first cap).run Tryz.prog w = .ok (.func fn first cap) w := fun _ _ _ _ => rfl
  go_enter Tryz.func105, Tryz.ntmps105
  go_wp2_with (refine HC.out.mono ?_; rintro e w1 ⟨rfl, hb1⟩)
  go_ret
  exact ⟨ret_bool (by simp [List.all_eq_not_any_not]), chain hb0 hb1⟩

theorem allR1 (w : World) (b g : Nat) (lb : Array Value) (p : List Int → Bool) (eg : ∀ args w, (callFunc g args).run Tryz.prog w = .ok (.enter g args) w) (hb : b < w.heap.size) (hc : w.cell? ⟨b, 0, none⟩ = some (.func (.func g) #[] lb)) (hp : PredR Tryz.prog g lb w p) :
    PredR Tryz.prog 104 #[.pointer (some ⟨b, 0, none⟩)] w (fun n => !p n) := by
  intro x v W hbw hv
  have hc' : W.cell? ⟨b, 0, none⟩ = some (.func (.func g) #[] lb) := (hbw.cell (p := ⟨b, 0, none⟩) hb).trans hc
  have HP := hid (hp x v W hbw hv)
  obtain ⟨ra, rn, rc, rfl, _, _, _⟩ := hv
  clear hp
  go_enter Tryz.func104, Tryz.ntmps104
  go_wp2_with (refine HP.out.mono ?_; rintro e w1 ⟨rfl, hb1⟩)
  go_ret
  exact ⟨rfl, hb1⟩

theorem allR_c (w : World) (a : Option Addr) (n cap : Nat) (l : List (List Int)) (hn : l.length = n) (hm : n ≤ maxLen) (H : RowsAt w a l) (g : Nat) (lb : Array Value) (p : List Int → Bool)
    (eg : ∀ args w, (callFunc g args).run Tryz.prog w = .ok (.enter g args) w) (hp : PredR Tryz.prog g lb w p) :
    Calls Tryz.prog 73 #[.slice a n cap, .func (.func g) #[] lb] w fun e w' => e = .returned (.bool (l.all p)) ∧ Below w.heap.size w w' := by
  have hb0 : Below w.heap.size w (w.alloc (.cells #[.func (.func g) #[] lb] 68)) := (Below.refl _ _).alloc (Nat.le_refl _) _
  have HC := hid (containsR (w.alloc (.cells #[.func (.func g) #[] lb] 68)) a n cap l hn hm (H.below hb0) 104 #[.pointer (some ⟨w.heap.size, 0, none⟩)] _ (enters_of Tryz.func104 (by kernel_rfl) rfl)
    (allR1 _ w.heap.size g lb p eg (by simp) (by rw [World.cell?_alloc_at _ _ _ _ rfl]; rfl) (fun x v W h => hp x v W (chain hb0 h))))
  clear hn H hp
  have hmf : ∀ (fn : Fn) (first cap : Array Value) (w : World), (Instr.makeFunc fn first cap).run Tryz.prog w = .ok (.func fn first cap) w := fun _ _ _ _ => rfl
  go_enter Tryz.func73, Tryz.ntmps73
  go_wp2_with (refine HC.out.mono ?_; rintro e w1 ⟨rfl, hb1⟩)
  go_ret
  exact ⟨ret_bool (by simp [List.all_eq_not_any_not]), chain hb0 hb1⟩

abbrev Mask := List (List Int)
def okMRow (l : List Int) : Bool := inB l.length 1 10 && l.all (fun n => inB n (-1) 1)
def colsM (M : Mask) : Nat := (M[0]?.getD []).length
def okM (M : Mask) : Bool := inB M.length 1 6 && M.all (fun l => decide (l.length = colsM M) && okMRow l)

theorem row1 (w : World) : PredI Tryz.prog 106 #[] w (fun n => inB n (-1) 1) := by
  intro x W hb
  go_enter Tryz.func106, Tryz.ntmps106
  go_wp2_with (go_at_call 72; refine (mwithin_c _ _ _ _).mono ?_; rintro e w1 ⟨rfl, rfl⟩)
  go_ret
  exact ⟨rfl, Below.refl _ _⟩

theorem mrow_c (w : World) (a : Option Addr) (n cap : Nat) (l : List Int) (hn : l.length = n) (hm : n ≤ maxLen) (H : IntsAt w a l) :
    Calls Tryz.prog 75 #[.slice a n cap] w fun e w' => e = .returned (.bool (okMRow l)) ∧ Below w.heap.size w w' := by
  have HC := hid (allI_c w a n cap l hn hm H 106 #[] _ (enters_of Tryz.func106 (by kernel_rfl) rfl) (row1 w))
  have HN := hid hn
  clear hn H
  cases h : inB n 1 10
  all_goals
    have HQ := hid h
    go_enter Tryz.func75, Tryz.ntmps75
    go_wp2_with (first | (go_at_call 72; refine (mwithin_c _ _ _ _).mono ?_; rintro e w1 ⟨rfl, rfl⟩) | (refine HC.out.mono ?_; rintro e w1 ⟨rfl, hb1⟩))
    go_ret
    first
      | exact ⟨ret_bool (by unfold okMRow; rw [HN.out, HQ.out]; simp), hb1⟩
      | exact ⟨ret_bool (by unfold okMRow; rw [HN.out, HQ.out]; simp), Below.refl _ _⟩

theorem valid1 (w : World) (b : Nat) (a : Option Addr) (n cap : Nat) (M : Mask) (hn : M.length = n) (hm : n ≤ maxLen) (h0 : 0 < n) (H : RowsAt w a M) (hb : b < w.heap.size) (hc : w.cell? ⟨b, 0, none⟩ = some (.slice a n cap)) :
    PredR Tryz.prog 74 #[.pointer (some ⟨b, 0, none⟩)] w (fun l => decide (l.length = colsM M) && okMRow l) := by
  intro x v W hbw hv
  have hc' : W.cell? ⟨b, 0, none⟩ = some (.slice a n cap) := (hbw.cell (p := ⟨b, 0, none⟩) hb).trans hc
  obtain ⟨ra, rn, rc, rfl, hrn, hrm, hri⟩ := hv
  have HR := hid (mrow_c W ra rn rc x hrn hrm hri)
  obtain ⟨b', off, qa, qn, qc, rfl, hbs, hq0, hqn, hqm, hqi⟩ := (H.below hbw) 0 (by omega)
  have HCols : colsM M = qn := by unfold colsM; rw [List.getElem?_eq_getElem (by omega), ← hqn]; rfl
  have HCO := hid HCols
  have HRN := hid hrn
  unfold maxLen at hm
  simp only [Nat.add_zero] at hq0
  clear HCols hrn hri hqn hqi H hc
  by_cases h : rn = qn
  all_goals
    have hd : ((rn : Int) == (qn : Int)) = decide (rn = qn) := by rw [Bool.eq_iff_iff]; simp; omega
    have HQ := hid h
    first
      | rw [decide_eq_true h] at hd
      | rw [decide_eq_false h] at hd
    clear h
    go_enter Tryz.func74, Tryz.ntmps74
    go_wp2_with (go_at_call 75; refine HR.out.mono ?_; rintro e w1 ⟨rfl, hb1⟩)
    go_ret
    first
      | exact ⟨ret_bool (by rw [HRN.out, HCO.out, decide_eq_true HQ.out]; simp), hb1⟩
      | exact ⟨ret_bool (by rw [HRN.out, HCO.out, decide_eq_false HQ.out]; simp), Below.refl _ _⟩

theorem maskValid_c (w : World) (a : Option Addr) (n cap : Nat) (M : Mask) (hn : M.length = n) (hm : n ≤ maxLen) (H : RowsAt w a M) :
    Calls Tryz.prog 43 #[.slice a n cap] w fun e w' => e = .returned (.bool (okM M)) ∧ Below w.heap.size w w' := by
  have hb0 : Below w.heap.size w (w.alloc (.cells #[.slice a n cap] 23)) := (Below.refl _ _).alloc (Nat.le_refl _) _
  have hmf : ∀ (fn : Fn) (first cap : Array Value) (w : World), (Instr.makeFunc fn first cap).run Tryz.prog w = .ok (.func fn first cap) w := fun _ _ _ _ => rfl
  cases h : inB n 1 6
  · have HQ := hid h
    have HN := hid hn
    clear hn H
    go_enter Tryz.func43, Tryz.ntmps43
    go_wp2_with (go_at_call 72; refine (mwithin_c _ _ _ _).mono ?_; rintro e w1 ⟨rfl, rfl⟩)
    go_ret
    exact ⟨ret_bool (by unfold okM; rw [HN.out, HQ.out]; simp), hb0⟩
  · have h0 : 0 < n := by unfold inB at h; simp at h; omega
    have HC := hid (allR_c (w.alloc (.cells #[.slice a n cap] 23)) a n cap M hn hm (H.below hb0) 74 #[.pointer (some ⟨w.heap.size, 0, none⟩)] _ (enters_of Tryz.func74 (by kernel_rfl) rfl)
      (valid1 _ w.heap.size a n cap M hn hm h0 (H.below hb0) (by simp) (by rw [World.cell?_alloc_at _ _ _ _ rfl]; rfl)))
    have HQ := hid h
    have HN := hid hn
    clear hn H
    go_enter Tryz.func43, Tryz.ntmps43
    go_wp2_with (first | (go_at_call 72; refine (mwithin_c _ _ _ _).mono ?_; rintro e w1 ⟨rfl, rfl⟩) | (refine HC.out.mono ?_; rintro e w1 ⟨rfl, hb1⟩))
    go_ret
    exact ⟨ret_bool (by unfold okM; rw [HN.out, HQ.out]; simp), chain hb0 hb1⟩
end Go.Proofs.YtfipebkhomppmaaGreat

namespace Go.Proofs.YtfipebkhomppmaaGreat
open Go.RowKit
set_option linter.unusedVariables false

theorem run_append_nilsrc {P : Program} {w : World} (base : Nat) (t ty e : TypeId) (i : TypeInfo) (size c : Nat) (ht : P.underlying t = some (.slice e)) (hi : P.info? e = some i)
    (v : Value) (n : Nat) (xs : List Value) (hown : w.ownsRow base e size v n xs) : (Builtin.append_ #[t, t] ty #[v, .slice none 0 c]).run P w = .ok v w := by
  rcases hown.2 with ⟨rfl, rfl⟩ | ⟨g, cap, cur, rfl, _, _, hnc, _⟩
  · simp [Builtin.append_, run_underlying ht, sizeOf, typeInfo, hi, Builtin.lenOf, Builtin.firstCells]
  · simp [Builtin.append_, run_underlying ht, sizeOf, typeInfo, hi, Builtin.lenOf, Builtin.firstCells, hnc, storeCells]

theorem wpList_app {P : Program} (w : World) {ops : Array Oper} {rest : List Oper} {o : Oper} {a : Act} {Q : Exit → Act → World → Prop} (hgd : o.guard = none) (s x : Operand) (t : TypeId)
    (ho : o.op = .call { callee := .builtin .append, args := #[s, x], argTypes := #[t, t] })
    (base : Nat) (e : TypeId) (z : Value) (size bytes : Nat) (ht : P.underlying t = some (.slice e)) (hinfo : (P.info? e).map (fun i => (i.zero, i.size, i.bytes)) = some (some z, size, bytes))
    (hzs : z.cells.size = size) (hsz : 0 < size)
    (v : Value) (n : Nat) (xs : List Value) (hs : a.eval s = v) (hown : w.ownsRow base e size v n xs)
    (ao : Option Addr) (m c : Nat) (news : List Value) (hx : a.eval x = .slice ao m c) (hl : news.length = m * size) (hnone : ao = none → m = 0)
    (hnews : ∀ ad, ao = some ad → ∀ j u, news[j]? = some u → w.cell? (ad.add j) = some u) (h1 : ∀ u ∈ news, u.oneCell' = true)
    (h63 : n + m ≤ maxLen) (hbytes : (n + m) * bytes ≤ 140737488355328) (hbase : base ≤ w.heap.size)
    (h : ∀ a' c' w', w'.ownsRow base e size (.slice a' (n + m) c') (n + m) (xs ++ news) → w.grownBy w' v.ownBlock → wpList P ops Q rest (a.put o.dst (.slice a' (n + m) c')) w') : wpList P ops Q (o :: rest) a w := by
  obtain ⟨i, hi, hz, h2, h3⟩ := info_parts hinfo
  cases ao with
  | some ad =>
    refine wpList_append_own w hgd s x t ho base e i z size bytes ht hi hz h2 h3 hzs hsz v n xs hs hown ad m c news hx hl (hnews ad rfl) h1 h63 hbytes hbase ?_
    intro v' w' ho' hg _
    obtain ⟨a', c', rfl⟩ := ownsRow_slice ho'
    exact h a' c' w' ho' hg
  | none =>
    obtain rfl := hnone rfl
    have hnil : news = [] := List.eq_nil_of_length_eq_zero (by simpa using hl)
    subst hnil
    refine wpList_plain hgd fun K hK => ?_
    have hrun := run_append_nilsrc (P := P) (w := w) base t o.type e i size c ht hi v n xs hown
    obtain ⟨a', c', rfl⟩ := ownsRow_slice hown
    unfold Oper.wp
    simp [execOp, ho, resolve, invoke, builtin, hs, hx, hrun, Result.andThen]
    exact hK _ _ (h a' c' w (by simpa using hown) (World.grownBy.refl _ _))

theorem ints_news {w : World} {a : Option Addr} {l : List Int} (H : IntsAt w a l) : ∀ ad, a = some ad → ∀ j u, (l.map (Value.int .i64))[j]? = some u → w.cell? (ad.add j) = some u := by
  intro ad ha j u hu
  rw [List.getElem?_map] at hu
  obtain ⟨x, hx, rfl⟩ := Option.map_eq_some_iff.1 hu
  obtain ⟨hj, e⟩ := List.getElem?_eq_some_iff.1 hx
  obtain ⟨b, off, ea, hb, hc⟩ := H j hj
  rw [ha] at ea
  cases ea
  rw [Addr.add_lit, hc, hx]; rfl
theorem ints_none {w : World} {a : Option Addr} {l : List Int} (H : IntsAt w a l) : a = none → l.length = 0 := by
  intro ha
  rcases Nat.eq_zero_or_pos l.length with h | h
  · exact h
  · obtain ⟨_, _, e, _⟩ := H 0 h; rw [ha] at e; cases e
theorem one_news (w : World) (x : Value) (t : TypeId) : ∀ ad, (some ⟨w.heap.size, 0, none⟩ : Option Addr) = some ad → ∀ j u, [x][j]? = some u → (w.alloc (.cells #[x] t)).cell? (ad.add j) = some u := by
  intro ad e j u hu
  cases e
  match j, hu with
  | 0, hu =>
    simp at hu; subst hu
    rw [Addr.add_lit, World.cell?_alloc_at _ _ _ _ rfl]; rfl
theorem le_alloc (w : World) (o : Obj) : w.heap.size ≤ (w.alloc o).heap.size := by simp
theorem slice_oneCell (a : Option Addr) (n c : Nat) : ∀ u ∈ [Value.slice a n c], u.oneCell' = true := by intro u hu; simp at hu; subst hu; rfl
theorem no_none {α : Type} {a : α} {p : Prop} : some a = none → p := fun h => by cases h
theorem cells_set {w : World} {b : Nat} {c : Array Value} {E : TypeId} {f : Nat × Nat} (h : w.heap[b]? = some (.cells c E f)) (j : Nat) (v : Value) :
    (w.setCell ⟨b, j, none⟩ v).heap[b]? = some (.cells (c.setIfInBounds j v) E f) := by
  obtain ⟨hlt, hk⟩ := Array.getElem?_eq_some_iff.1 h
  show (w.heap.modify b _)[b]? = _
  rw [Array.getElem?_eq_getElem (by rw [Array.size_modify]; exact hlt), Array.getElem_modify_self, hk]
  rfl
theorem below_set {B : Nat} {a w : World} (h : Below B a w) {b : Nat} (hb : B ≤ b) (o : Nat) (v : Value) : Below B a (w.setCell ⟨b, o, none⟩ v) := h.setCell (p := ⟨b, o, none⟩) hb v
end Go.Proofs.YtfipebkhomppmaaGreat

namespace Go.Proofs.YtfipebkhomppmaaGreat
open Go.RowKit
set_option linter.unusedVariables false

theorem drewN_add (w : World) (a b : Nat) : (w.drewN a).drewN b = w.drewN (a + b) := by simp [World.drewN, Nat.add_assoc]
theorem gcd_mod (x y : Nat) (hy : 0 < y) : Nat.gcd y (x % y) = Nat.gcd x y := by rw [Nat.gcd_comm x y, Nat.gcd_rec y x, Nat.gcd_comm]

theorem divisor_c (w : World) (a b : Int) (ha : -4611686018427387904 ≤ a ∧ a ≤ 4611686018427387904) (hb : -4611686018427387904 ≤ b ∧ b ≤ 4611686018427387904) :
    Calls Tryz.prog 78 #[.int .i64 a, .int .i64 b] w fun e w' => e = .returned (.int .i64 (Int.gcd a b : Nat)) ∧ ∃ k, w' = w.drewN k := by
  obtain ⟨x, hx⟩ : ∃ x : Nat, x = a.natAbs := ⟨_, rfl⟩
  obtain ⟨y, hy⟩ : ∃ y : Nat, y = b.natAbs := ⟨_, rfl⟩
  have HG := hid (show Nat.gcd x y = Int.gcd a b by rw [hx, hy]; rfl)
  have hx2 : x ≤ 4611686018427387904 := by omega
  have hy2 : y ≤ 4611686018427387904 := by omega
  obtain ⟨ha1, ha2⟩ := ha
  obtain ⟨hb1, hb2⟩ := hb
  rcases Int.lt_or_le a 0 with sa | sa <;> rcases Int.lt_or_le b 0 with sb | sb
  all_goals
    have HX := hid hx
    have HY := hid hy
    clear hx hy
    go_enter Tryz.func78, Tryz.ntmps78
    go_wp2
    go_loopw [0, 1] (fun u v wr => ∃ p q : Nat, u = .int .i64 p ∧ v = .int .i64 q ∧ p ≤ 4611686018427387904 ∧ q ≤ 4611686018427387904 ∧ Nat.gcd p q = Nat.gcd x y ∧ ∃ k, wr = w.drewN k) (fun _ v _ => (intOf v).toNat)
    case atStart =>
      have h1 := HX.out
      have h2 := HY.out
      exact ⟨x, y, by congr 1; omega, by congr 1; omega, hx2, hy2, rfl, 0, rfl⟩
    case round =>
      obtain ⟨p, q, rfl, rfl, hp, hq, hg, k, rfl⟩ := hrel
      have HGG := hid hg
      clear hg
      by_cases h0 : q = 0
      · subst h0
        go_wp2
        go_ret
        refine ⟨ret_int ?_, _, rfl⟩
        have h1 := HGG.out
        rw [Nat.gcd_zero_right] at h1
        rw [h1, HG.out]
      · have hq1 : 1 ≤ q := by omega
        have hne : ((q : Int) != 0) = true := by simp; omega
        clear h0
        have hm1 : p % q < q := Nat.mod_lt _ hq1
        have hgm := gcd_mod p q hq1
        have HGM := hid (hgm.trans HGG.out)
        have HM := hid hm1
        have HE := hid (show ((p : Int) % (q : Int)) = ((p % q : Nat) : Int) by simp)
        clear hgm hm1
        go_wp2
        go_quiet (fail)
        go_wp2
        have hm1 := HM.out
        exact ⟨⟨q, p % q, rfl, by rw [HE.out], hq, by omega, HGM.out, _, drewN_add _ _ _⟩, by rw [HE.out]; simp [intOf]; omega⟩
end Go.Proofs.YtfipebkhomppmaaGreat

namespace Go.Proofs.YtfipebkhomppmaaGreat
open Go.RowKit
set_option linter.unusedVariables false

theorem r2within_c (n lo hi : Int) (w : World) : Calls Tryz.prog 90 #[.int .i64 n, .int .i64 lo, .int .i64 hi] w fun e w' => e = .returned (.bool (inB n lo hi)) ∧ w = w' := by
  by_cases h1 : lo ≤ n <;> by_cases h2 : n ≤ hi
  all_goals
    go_enter Tryz.func90, Tryz.ntmps90
    go_wp2
    go_ret
    exact ⟨ret_bool (by simp [inB, h1, h2]), rfl⟩
theorem r3within_c (n lo hi : Int) (w : World) : Calls Tryz.prog 67 #[.int .i64 n, .int .i64 lo, .int .i64 hi] w fun e w' => e = .returned (.bool (inB n lo hi)) ∧ w = w' := by
  by_cases h1 : lo ≤ n <;> by_cases h2 : n ≤ hi
  all_goals
    go_enter Tryz.func67, Tryz.ntmps67
    go_wp2
    go_ret
    exact ⟨ret_bool (by simp [inB, h1, h2]), rfl⟩

theorem all_stop {α : Type} {p : α → Bool} {l : List α} {k : Nat} (hk : k < l.length) (h : p l[k] = false) : l.all p = false := by
  rw [List.all_eq_false]; exact ⟨l[k], List.getElem_mem hk, by simp [h]⟩
theorem all_done {α : Type} {p : α → Bool} {l : List α} (h : ∀ j (hj : j < l.length), p l[j] = true) : l.all p = true := by
  rw [List.all_eq_true]
  intro x hx
  obtain ⟨i, hi, e⟩ := List.getElem_of_mem hx
  rw [← e]; exact h i hi

theorem r2row_c (w : World) (a : Option Addr) (n cap : Nat) (l : List Int) (hn : l.length = n) (hm : n ≤ maxLen) (H : IntsAt w a l) :
    Calls Tryz.prog 89 #[.slice a n cap] w fun e w' => e = .returned (.bool (okMRow l)) ∧ w = w' := by
  have HN := hid hn
  have HH := hid H
  clear hn H
  unfold maxLen at hm
  go_enter Tryz.func89, Tryz.ntmps89
  go_wp2
  go_loop [7] (fun i => ∃ k : Nat, k ≤ n ∧ i = .int .i64 k ∧ ∀ j (hj : j < l.length), j < k → inB l[j] (-1) 1 = true) (fun i => n - (intOf i).toNat)
  case atStart => exact ⟨0, Nat.zero_le _, rfl, fun i _ h => by omega⟩
  case round =>
    obtain ⟨k, hk, rfl, hno⟩ := hrel
    have HNO := hid hno
    clear hno
    by_cases hlt : k < n
    · have hkl : k < l.length := by rw [HN.out]; exact hlt
      obtain ⟨b, off, rfl, hbs, hc⟩ := HH.out k hkl
      have hg : l[k]?.getD 0 = l[k] := by rw [List.getElem?_eq_getElem hkl]; rfl
      rw [hg] at hc
      obtain ⟨B, hB⟩ : ∃ B, B = inB l[k] (-1) 1 := ⟨_, rfl⟩
      have HW := hid (fun W => r2within_c l[k] (-1) 1 W)
      rw [← hB] at HW
      have HBB := hid hB
      have HKL := hid hkl
      clear hg hB
      cases B
      · go_wp2_with (go_at_call 90; refine (HW.out _).mono ?_; rintro e w1 ⟨rfl, rfl⟩)
        go_ret
        refine ⟨ret_bool ?_, rfl⟩
        unfold okMRow
        rw [all_stop HKL.out HBB.out.symm]; simp
      · go_wp2_with (go_at_call 90; refine (HW.out _).mono ?_; rintro e w1 ⟨rfl, rfl⟩)
        go_round
        case rel =>
          refine ⟨k + 1, by omega, by go_num, fun j hj hjk => ?_⟩
          by_cases e : j = k
          · subst e; exact HBB.out.symm
          · exact HNO.out j hj (by omega)
        case measure => simp [intOf]; omega
    · go_wp2_with (go_at_call 90; refine (r2within_c _ _ _ _).mono ?_; rintro e w1 ⟨rfl, rfl⟩)
      go_ret
      refine ⟨ret_bool ?_, rfl⟩
      unfold okMRow
      rw [HN.out, all_done (fun j hj => HNO.out j hj (by have := HN.out; omega))]; simp

theorem r2Valid_c (w : World) (a : Option Addr) (n cap : Nat) (M : Mask) (hn : M.length = n) (hm : n ≤ maxLen) (H : RowsAt w a M) :
    Calls Tryz.prog 57 #[.slice a n cap] w fun e w' => e = .returned (.bool (okM M)) ∧ w = w' := by
  have HN := hid hn
  have HH := hid H
  clear hn H
  unfold maxLen at hm
  go_enter Tryz.func57, Tryz.ntmps57
  go_wp2
  go_loop [7] (fun i => ∃ k : Nat, k ≤ n ∧ i = .int .i64 k ∧ ∀ j (hj : j < M.length), j < k → (decide (M[j].length = colsM M) && okMRow M[j]) = true) (fun i => n - (intOf i).toNat)
  case atStart => exact ⟨0, Nat.zero_le _, rfl, fun i _ h => by omega⟩
  case round =>
    obtain ⟨k, hk, rfl, hno⟩ := hrel
    have HNO := hid hno
    clear hno
    by_cases hlt : k < n
    · have hkl : k < M.length := by rw [HN.out]; exact hlt
      obtain ⟨b, off, ra, rn, rc, rfl, hbs, hc, hrn, hrm, hri⟩ := HH.out k hkl
      obtain ⟨b', off', qa, qn, qc, e0, hbs', hc0, hqn, _, _⟩ := HH.out 0 (by omega)
      cases e0
      rw [Nat.add_zero] at hc0
      have hcol : colsM M = qn := by unfold colsM; rw [List.getElem?_eq_getElem (by omega), ← hqn]; rfl
      have HW := hid (r2row_c w ra rn rc M[k] hrn hrm hri)
      obtain ⟨B, hB⟩ : ∃ B, B = okMRow M[k] := ⟨_, rfl⟩
      rw [← hB] at HW
      have HBB := hid hB
      have HKL := hid hkl
      have HCol := hid hcol
      have HRN := hid hrn
      unfold maxLen at hrm
      have h0 : 0 < n := by omega
      clear hB hcol hrn hqn hri
      cases B
      · go_wp2_with (go_at_call 89; refine HW.out.mono ?_; rintro e w1 ⟨rfl, rfl⟩)
        go_ret
        refine ⟨ret_bool ?_, rfl⟩
        unfold okM
        rw [all_stop HKL.out (by rw [← HBB.out]; simp)]; simp
      · by_cases hq : rn = qn
        · have hd : ((rn : Int) != (qn : Int)) = false := by simp [hq]
          have HQ := hid hq
          clear hq
          go_wp2_with (go_at_call 89; refine HW.out.mono ?_; rintro e w1 ⟨rfl, rfl⟩)
          go_round
          case rel =>
            refine ⟨k + 1, by omega, by go_num, fun j hj hjk => ?_⟩
            by_cases e : j = k
            · subst e; rw [← HBB.out, HCol.out, HRN.out, HQ.out]; simp
            · exact HNO.out j hj (by omega)
          case measure => simp [intOf]; omega
        · have hd : ((rn : Int) != (qn : Int)) = true := by simp; omega
          have HQ := hid hq
          clear hq
          go_wp2_with (go_at_call 89; refine HW.out.mono ?_; rintro e w1 ⟨rfl, rfl⟩)
          go_ret
          refine ⟨ret_bool ?_, rfl⟩
          unfold okM
          rw [all_stop HKL.out (by rw [HCol.out, HRN.out]; simp [HQ.out])]; simp
    · go_wp2_with (go_at_call 90; refine (r2within_c _ _ _ _).mono ?_; rintro e w1 ⟨rfl, rfl⟩)
      go_ret
      refine ⟨ret_bool ?_, rfl⟩
      unfold okM
      rw [HN.out, all_done (fun j hj => HNO.out j hj (by have := HN.out; omega))]; simp

theorem sameInts_c (w : World) (a a2 : Option Addr) (n cap n2 cap2 : Nat) (l l2 : List Int) (hn : l.length = n) (hn2 : l2.length = n2) (hm : n ≤ maxLen) (hm2 : n2 ≤ maxLen) (H : IntsAt w a l) (H2 : IntsAt w a2 l2) :
    Calls Tryz.prog 47 #[.slice a n cap, .slice a2 n2 cap2] w fun e w' => e = .returned (.bool (decide (l = l2))) ∧ ∃ k, w' = w.drewN k := by
  have HN := hid hn
  have HN2 := hid hn2
  have HH := hid H
  have HH2 := hid H2
  clear hn hn2 H H2
  unfold maxLen at hm hm2
  by_cases hl : n = n2
  · have hd : ((n : Int) != (n2 : Int)) = false := by simp [hl]
    have HL := hid hl
    clear hl
    go_enter Tryz.func47, Tryz.ntmps47
    go_wp2
    go_loopw [13] (fun i wr => ∃ k : Nat, k ≤ n ∧ i = .int .i64 k ∧ (∃ q, wr = w.drewN q) ∧ ∀ j (hj : j < l.length) (hj2 : j < l2.length), j < k → l[j] = l2[j]) (fun i _ => n - (intOf i).toNat)
    case atStart => exact ⟨0, Nat.zero_le _, rfl, ⟨0, rfl⟩, fun i _ _ h => by omega⟩
    case round =>
      obtain ⟨k, hk, rfl, ⟨q, rfl⟩, hno⟩ := hrel
      have HNO := hid hno
      clear hno
      by_cases hlt : k < n
      · have hkl : k < l.length := by rw [HN.out]; exact hlt
        have hkl2 : k < l2.length := by rw [HN2.out, ← HL.out]; exact hlt
        obtain ⟨b, off, rfl, hbs, hc⟩ := HH.out k hkl
        obtain ⟨b2, off2, rfl, hbs2, hc2⟩ := HH2.out k hkl2
        have hg : l[k]?.getD 0 = l[k] := by rw [List.getElem?_eq_getElem hkl]; rfl
        have hg2 : l2[k]?.getD 0 = l2[k] := by rw [List.getElem?_eq_getElem hkl2]; rfl
        rw [hg] at hc
        rw [hg2] at hc2
        have hlt2 : k < n2 := by have := HL.out; omega
        have HKL := hid hkl
        have HKL2 := hid hkl2
        clear hg hg2
        by_cases he : l[k] = l2[k]
        · have hb : (l[k] != l2[k]) = false := by simp [he]
          have HE := hid he
          clear he
          go_wp2
          go_quiet (fail)
          go_wp2
          refine ⟨⟨k + 1, by omega, by go_num, ⟨_, rfl⟩, fun j hj hj2 hjk => ?_⟩, by simp [intOf]; omega⟩
          by_cases e : j = k
          · subst e; exact HE.out
          · exact HNO.out j hj hj2 (by omega)
        · have hb : (l[k] != l2[k]) = true := by simp [he]
          have HE := hid he
          clear he
          go_wp2
          go_quiet (fail)
          go_wp2
          go_ret
          refine ⟨ret_bool ?_, q + nq, drewN_add _ _ _⟩
          symm
          rw [decide_eq_false_iff_not]
          rintro rfl
          exact HE.out rfl
      · go_wp2
        go_ret
        refine ⟨ret_bool ?_, _, rfl⟩
        symm
        rw [decide_eq_true_iff]
        have h1 := HN.out
        have h2 := HN2.out
        have h3 := HL.out
        exact List.ext_getElem (by omega) fun i g1 g2 => HNO.out i g1 g2 (by omega)
  · have hd : ((n : Int) != (n2 : Int)) = true := by simp; omega
    have HL := hid hl
    clear hl
    go_enter Tryz.func47, Tryz.ntmps47
    go_wp2
    go_ret
    refine ⟨ret_bool ?_, 0, rfl⟩
    symm
    rw [decide_eq_false_iff_not]
    rintro rfl
    exact HL.out (HN.out.symm.trans HN2.out)

set_option maxHeartbeats 1000000 in
theorem sameLists_c (w : World) (a a2 : Option Addr) (n cap n2 cap2 : Nat) (A B : Mask) (hn : A.length = n) (hn2 : B.length = n2) (hm : n ≤ maxLen) (hm2 : n2 ≤ maxLen) (H : RowsAt w a A) (H2 : RowsAt w a2 B) :
    Calls Tryz.prog 19 #[.slice a n cap, .slice a2 n2 cap2] w fun e w' => e = .returned (.bool (decide (A = B))) ∧ ∃ k, w' = w.drewN k := by
  have HN := hid hn
  have HN2 := hid hn2
  have HH := hid H
  have HH2 := hid H2
  clear hn hn2 H H2
  unfold maxLen at hm hm2
  by_cases hl : n = n2
  · have hd : ((n : Int) != (n2 : Int)) = false := by simp [hl]
    have HL := hid hl
    clear hl
    go_enter Tryz.func19, Tryz.ntmps19
    go_wp2
    go_loopw [13] (fun i wr => ∃ k : Nat, k ≤ n ∧ i = .int .i64 k ∧ (∃ q, wr = w.drewN q) ∧ ∀ j (hj : j < A.length) (hj2 : j < B.length), j < k → A[j] = B[j]) (fun i _ => n - (intOf i).toNat)
    case atStart => exact ⟨0, Nat.zero_le _, rfl, ⟨0, rfl⟩, fun i _ _ h => by omega⟩
    case round =>
      obtain ⟨k, hk, rfl, hq, hno⟩ := hrel
      have hbw : Below w.heap.size w wr := by obtain ⟨q, rfl⟩ := hq; exact below_drewN (Below.refl _ _) q
      have HQ := hid hq
      have HNO := hid hno
      clear hno hq
      by_cases hlt : k < n
      · have hkl : k < A.length := by rw [HN.out]; exact hlt
        have hkl2 : k < B.length := by rw [HN2.out, ← HL.out]; exact hlt
        obtain ⟨b, off, ra, rn, rc, rfl, hbs, hc, hrn, hrm, hri⟩ := (HH.out.below hbw) k hkl
        obtain ⟨b', off', ra', rn', rc', rfl, hbs', hc', hrn', hrm', hri'⟩ := (HH2.out.below hbw) k hkl2
        have HI := hid (fun q2 => sameInts_c (wr.drewN q2) ra ra' rn rc rn' rc' A[k] B[k] hrn hrn' hrm hrm' (hri.below (below_drewN (Below.refl _ _) q2)) (hri'.below (below_drewN (Below.refl _ _) q2)))
        have hlt2 : k < n2 := by have := HL.out; omega
        have HKL := hid hkl
        have HKL2 := hid hkl2
        clear hri hri' hrn hrn'
        by_cases he : A[k] = B[k]
        · have HE := hid he
          have HS := hid (fun q2 => (HI.out q2).mono fun e w' ⟨h1, h2⟩ => show e = Ending.returned (.bool true) ∧ ∃ k, w' = (wr.drewN q2).drewN k from ⟨h1.trans (ret_bool (decide_eq_true he)), h2⟩)
          clear he HI
          go_wp2
          go_quiet ((go_at_call 47; exact Calls.quiet_of (HS.out _)))
          go_wp2
          refine ⟨⟨k + 1, by omega, by go_num, (by obtain ⟨q, e⟩ := HQ.out; exact ⟨_, by rw [e, drewN_add]⟩), fun j hj hj2 hjk => ?_⟩, by simp [intOf]; omega⟩
          by_cases e : j = k
          · subst e; exact HE.out
          · exact HNO.out j hj hj2 (by omega)
        · have HE := hid he
          have HS := hid (fun q2 => (HI.out q2).mono fun e w' ⟨h1, h2⟩ => show e = Ending.returned (.bool false) ∧ ∃ k, w' = (wr.drewN q2).drewN k from ⟨h1.trans (ret_bool (decide_eq_false he)), h2⟩)
          clear he HI
          go_wp2
          go_quiet ((go_at_call 47; exact Calls.quiet_of (HS.out _)))
          go_wp2
          go_ret
          refine ⟨ret_bool ?_, (by obtain ⟨q, e⟩ := HQ.out; exact ⟨_, by rw [e, drewN_add]⟩)⟩
          symm
          rw [decide_eq_false_iff_not]
          rintro rfl
          exact HE.out rfl
      · go_wp2
        go_ret
        refine ⟨ret_bool ?_, HQ.out⟩
        symm
        rw [decide_eq_true_iff]
        have h1 := HN.out
        have h2 := HN2.out
        have h3 := HL.out
        exact List.ext_getElem (by omega) fun i g1 g2 => HNO.out i g1 g2 (by omega)
  · have hd : ((n : Int) != (n2 : Int)) = true := by simp; omega
    have HL := hid hl
    clear hl
    go_enter Tryz.func19, Tryz.ntmps19
    go_wp2
    go_ret
    refine ⟨ret_bool ?_, 0, rfl⟩
    symm
    rw [decide_eq_false_iff_not]
    rintro rfl
    exact HL.out (HN.out.symm.trans HN2.out)
end Go.Proofs.YtfipebkhomppmaaGreat

namespace Go.Proofs.YtfipebkhomppmaaGreat
open Go.RowKit
set_option linter.unusedVariables false

section
variable {P : Program} {ops : Array Oper} {Q : Exit → Act → World → Prop} {md : Region.Mode} {S : World → Prop}

theorem wpOp_inRound (l n : Nat) {i : Nat} {K : Act → World → Prop} {a : Act} {w : World} (hd : ∀ o, ops[i]? = some o → (∀ c, o.op ≠ .defer c)) (hq : ¬ LetsOut Q)
    (h : wpOp P ops Q i K a w) : wpOpIn (Fence.wide.inRound l) n P ops Q i K a w := by
  unfold wpOp at h
  unfold wpOpIn
  cases ho : ops[i]? with
  | none => simpa [ho] using h
  | some o =>
    simp only [ho] at h ⊢
    split
    · rename_i hw
      simp only [hw, if_true] at h
      have h := h.resolve_right (fun x => hq x.2)
      refine ⟨fun f _ => trivial, ?_⟩
      rw [Fence.inRound_round, Oper.semAt_some l a.eval o (hd o ho)]
      unfold Oper.wp at h
      generalize (execOp a.eval o).run P w = r at *
      cases r with
      | ok x w' =>
        cases x <;> simp only [Oper.upon, Oper.uponIn] at h ⊢ <;> first
          | exact h
          | exact ⟨fun h => by simp [Fence.wide] at h, CallsIn.inRound l (callsIn_wide.2 h)⟩
          | (refine ⟨fun h => by simp [Fence.wide] at h, fun c cs _ => ?_⟩
             obtain ⟨v, w'', hr, hs⟩ := h c cs
             exact ⟨v, w'', hr, (StepsIn.of_steps hs).mono fun m _ => fenced_wide P m⟩)
      | halt x w' => cases x <;> simp only [Oper.upon, Oper.uponIn] at h ⊢ <;> exact h
    · rename_i hw
      simp only [hw] at h
      exact ⟨fun f _ => trivial, h⟩

def AnyT (P : Program) (md : Region.Mode) (ops : Array Oper) (Q : Exit → Act → World → Prop) (T : Nat → World → Prop) : Nat → Array Bool → Act → World → Prop
  | 0, listed, a, w => Region.ready md ops listed = [] ∧ Q .normal a w
  | fuel + 1, listed, a, w =>
    (Region.ready md ops listed = [] → Q .normal a w) ∧
    ∀ j ∈ Region.ready md ops listed, wpOp P ops Q j (fun a' w' => T j w' ∧ AnyT P md ops Q T fuel (listed.setIfInBounds j true) a' w') a w

variable {T : Nat → World → Prop}

theorem AnyT.any : ∀ (fuel : Nat) (listed : Array Bool) (a : Act) (w : World), AnyT P md ops Q T fuel listed a w → wpAny P md ops Q fuel listed a w
  | 0, _, _, _, h => h
  | fuel + 1, _, _, _, h => ⟨h.1, fun i hi => wpOp_mono (fun a' w' h' => AnyT.any fuel _ a' w' h'.2) (h.2 i hi)⟩

theorem AnyT.inRound (l n : Nat) (hd : ∀ (i : Nat) o, ops[i]? = some o → (∀ c, o.op ≠ .defer c)) (hq : ¬ LetsOut Q) : ∀ (fuel : Nat) (listed : Array Bool) (a : Act) (w : World),
    AnyT P md ops Q T fuel listed a w → wpAnyIn (Fence.wide.inRound l) n P md ops Q fuel listed a w
  | 0, _, _, _, h => h
  | fuel + 1, _, _, _, h => ⟨h.1, fun i hi => wpOpIn_mono (fun a' w' h' => AnyT.inRound l n hd hq fuel _ a' w' h'.2) (wpOp_inRound l n (hd i) hq (h.2 i hi))⟩

theorem AnyT.first {i : Nat} {oi : Oper} {v : Value} (hi : ops[i]? = some oi) (hsel : ∀ (j : Nat) (o : Oper) cs b, ops[j]? = some o → o.op ≠ .select cs b)
    (hQ : ∀ c a w, Q (.panic c) (a.put oi.dst v) w → Q (.panic c) a w)
    (hT : ∀ (j : Nat) oj, ops[j]? = some oj → (∀ e ∈ oj.after, Region.binds md e = true → e.on ≠ i) → ∀ w, T j w → S w) (hTi : ∀ w, S w → T i w) :
    ∀ (fuel : Nat) (listed : Array Bool) (a : Act) (w : World),
      (∀ j oj, ops[j]? = some oj → j ≠ i → listed.getD j true = false → (∀ e ∈ oj.after, Region.binds md e = true → e.on ≠ i) → oi.apart ops oj = true) →
      i ∈ Region.ready md ops listed → YieldsIf P ops S oi v a → S w →
      AnyT P md ops Q T fuel (listed.setIfInBounds i true) (a.put oi.dst v) w → AnyT P md ops Q T (fuel + 1) listed a w := by
  intro fuel
  induction fuel with
  | zero =>
    intro listed a w _ hr hy hS H
    refine ⟨fun h => (by rw [h] at hr; cases hr), fun j hj => ?_⟩
    by_cases e : j = i
    · subst e; exact hy.wpOp hi hS ⟨hTi w hS, H⟩
    · have h0 := ready_mono hj e
      rw [H.1] at h0; cases h0
  | succ fuel ih =>
    intro listed a w hfree hr hy hS H
    refine ⟨fun h => (by rw [h] at hr; cases hr), fun j hj => ?_⟩
    by_cases e : j = i
    · subst e; exact hy.wpOp hi hS ⟨hTi w hS, H⟩
    · obtain ⟨hun, oj, hoj, hall⟩ := mem_ready.1 hj
      have hnot : ∀ x ∈ oj.after, Region.binds md x = true → x.on ≠ i := by
        intro x hx hb heq
        have h1 := hall x hx hb
        have h0 := (mem_ready.1 hr).1
        rw [heq] at h1
        rcases Nat.lt_or_ge i listed.size with hlt | hge
        · simp [hlt] at h0 h1; rw [h0] at h1; cases h1
        · simp [Array.getElem?_eq_none hge] at h1
      refine wpOp_mono (fun a' w' h3 => ?_) (wpOp_putIf hoj (hfree j oj hoj e hun hnot) (fun cs b => hsel i oi cs b hi) (fun cs b => hsel j oj cs b hoj) hQ hy (H.2 j (ready_mono hj e)))
      have hS' := hT j oj hoj hnot w' h3.2.1
      refine ⟨h3.2.1, ih (listed.setIfInBounds j true) a' w' ?_ (ready_mono hr (fun h => e h.symm)) h3.1 hS' ?_⟩
      · intro k ok hk hki hkun hno
        refine hfree k ok hk hki ?_ hno
        by_cases hjk : j = k
        · subst hjk; exact hun
        · rwa [getD_set_ne true hjk] at hkun
      · rw [Array.setIfInBounds_comm _ _ e]; exact h3.2.2

def waits (md : Region.Mode) (ops : Array Oper) (i j : Nat) : Bool := match ops[j]? with | some o => o.after.any (fun e => Region.binds md e && e.on == i) | none => true

theorem AnyT.take {i : Nat} {oi : Oper} {v : Value} {fuel : Nat} {listed : Array Bool} {a : Act} {w : World} (hi : ops[i]? = some oi)
    (hs : Region.noSelect ops = true) (hf : Region.free md ops listed i = true) (hr : (Region.ready md ops listed).contains i = true)
    (hQ : ∀ c a w, Q (.panic c) (a.put oi.dst v) w → Q (.panic c) a w)
    (hT : ∀ j, waits md ops i j = false → ∀ w, T j w → S w) (hTi : ∀ w, S w → T i w) (hy : YieldsIf P ops S oi v a) (hS : S w)
    (h : AnyT P md ops Q T fuel (listed.setIfInBounds i true) (a.put oi.dst v) w) : AnyT P md ops Q T (fuel + 1) listed a w :=
  AnyT.first hi (Region.noSelect_spec hs) hQ (fun j oj hj hno w hw => hT j (by
    unfold waits; rw [hj]
    simp only [Array.any_eq_false]
    intro k hk
    have := hno oj.after[k] (Array.getElem_mem hk)
    cases hb : Region.binds md oj.after[k] <;> simp [hb] at this ⊢
    exact this) w hw) hTi fuel listed a w (Region.free_spec hi hf) (by simpa using hr) hy hS h

theorem AnyT.takeW {i : Nat} {oi : Oper} {v : Value} {fuel : Nat} {listed : Array Bool} {a : Act} {w : World} {Wf : Nat → Bool} (hi : ops[i]? = some oi)
    (hs : Region.noSelect ops = true) (hf : Region.free md ops listed i = true) (hr : (Region.ready md ops listed).contains i = true)
    (hQ : ∀ c a w, Q (.panic c) (a.put oi.dst v) w → Q (.panic c) a w)
    (hW : (List.range ops.size).all (fun j => waits md ops i j || Wf j) = true) (hw : Region.wanted oi (yielded ops a.tmps) = true) (hy : ∀ w, S w → (execOp a.eval oi).run P w = .ok (.value v) w) (hS : S w)
    (h : AnyT P md ops Q (fun j w => Wf j = true → S w) fuel (listed.setIfInBounds i true) (a.put oi.dst v) w) : AnyT P md ops Q (fun j w => Wf j = true → S w) (fuel + 1) listed a w :=
  AnyT.take hi hs hf hr hQ (fun j hj w hT => hT (by
    by_cases e : j < ops.size
    · have := List.all_eq_true.1 hW j (List.mem_range.2 e)
      rw [hj] at this; simpa using this
    · unfold waits at hj; rw [Array.getElem?_eq_none (by omega)] at hj; cases hj)) (fun w hS _ => hS) (.inl ⟨hw, hy⟩) hS h

theorem AnyT.next {i : Nat} {o : Oper} {fuel : Nat} {listed : Array Bool} {a : Act} {w : World} (hr : Region.ready md ops listed = [i]) (ho : ops[i]? = some o)
    (h : wpOp P ops Q i (fun a' w' => T i w' ∧ AnyT P md ops Q T fuel (listed.setIfInBounds i true) a' w') a w) : AnyT P md ops Q T (fuel + 1) listed a w :=
  ⟨fun h0 => (by rw [hr] at h0; cases h0), fun j hj => by rw [hr] at hj; obtain rfl : j = i := (by simpa using hj); exact h⟩

theorem AnyT.done {listed : Array Bool} {a : Act} {w : World} (hr : Region.ready md ops listed = []) (h : Q .normal a w) : ∀ fuel, AnyT P md ops Q T fuel listed a w
  | 0 => ⟨hr, h⟩
  | _ + 1 => ⟨fun _ => h, by rw [hr]; simp⟩

def noDefer (ops : Array Oper) : Bool := ops.all fun o => match o.op with | .defer _ => false | _ => true
theorem noDefer_spec {ops : Array Oper} (h : noDefer ops = true) (i : Nat) (o : Oper) (ho : ops[i]? = some o) (c : Call) : o.op ≠ .defer c := by
  intro e
  unfold noDefer at h
  rw [Array.all_eq_true] at h
  obtain ⟨hlt, he⟩ := Array.getElem?_eq_some_iff.1 ho
  have := h i hlt
  rw [he, e] at this
  simp at this

theorem round_region (T : Nat → World → Prop) (l n : Nat) {id : Nat} {a : Act} {w : World} (hm : P.follows .mixedOrders = true) (hd : noDefer ops = true) (hq : ¬ LetsOut Q)
    (h : AnyT P .any ops Q T ops.size (Array.replicate ops.size false) a w.drew) : (Code.region id ops true).wpIn (Fence.wide.inRound l) n P Q a w :=
  wpIn_region_any hm (AnyT.inRound l n (noDefer_spec hd) hq _ _ _ _ h)

theorem plain_region (T : Nat → World → Prop) {id : Nat} {a : Act} {w : World} (hm : P.follows .mixedOrders = true)
    (h : AnyT P .any ops Q T ops.size (Array.replicate ops.size false) a w.drew) : (Code.region id ops true).wp P Q a w :=
  wp_region_any hm (AnyT.any _ _ _ _ h)

def oneQ (K : Act → World → Prop) (Q : Exit → Act → World → Prop) : Exit → Act → World → Prop
  | .normal, a, w => K a w
  | e, a, w => Q e a w

theorem wpOp_of_list {i : Nat} {o : Oper} {K : Act → World → Prop} {a : Act} {w : World} (ho : ops[i]? = some o)
    (h : wpList P ops (oneQ K Q) [o] a w) : wpOp P ops Q i K a w := by
  unfold wpOp
  simp only [ho]
  unfold wpList at h
  split
  · rename_i hw
    simp only [hw, if_true] at h
    rcases h with h | ⟨h, hl⟩
    · refine .inl ?_
      unfold Oper.wp at h ⊢
      generalize (execOp a.eval o).run P w = r at *
      cases r with
      | ok x w' =>
        cases x <;> simp only [Oper.upon] at h ⊢ <;> first
          | exact h
          | exact Calls.mono h (fun e w'' he => by cases e <;> exact he)
      | halt x w' => cases x <;> simp only [Oper.upon] at h ⊢ <;> exact h
    · exact .inr ⟨h, hl⟩
  · rename_i hw
    simp only [hw] at h
    exact h
end
end Go.Proofs.YtfipebkhomppmaaGreat
