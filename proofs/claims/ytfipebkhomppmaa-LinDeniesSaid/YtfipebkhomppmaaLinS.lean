/- Plain algebra: how many pivots a span has; some columns have no more pivots than all; circuits of both are one. · Plain algebra: the circuits of the program and of the reference are one. · Plain algebra: the values of some columns that make a reading; the program's and the reference's are one. · Plain algebra: what the kernel's vectors are: each row's product with them is 0, how great they are, and that one kernel vector is the only one up to multiples. · Plain: the rank and the kernel's vectors add up to the pixels. -/
import Derived.Test.YtfipebkhomppmaaLinH
import Derived.Test.YtfipebkhomppmaaLinI
namespace Go.Proofs.Ytfipebkhomppmaa
section
set_option linter.unusedVariables false

theorem Sp.mono {B B' : Vec → Prop} (h : ∀ v, B v → B' v) {v : Vec} (hv : Sp B v) : Sp B' v := hv.trans fun u hu => .of (h u hu)
theorem RB.mono {K K' : Nat} (h : K ≤ K') {W : Nat → Vec} {v : Vec} (hv : Sp (RB K W) v) : Sp (RB K' W) v := hv.mono fun u ⟨k, hk, e⟩ => ⟨k, by omega, e⟩

/-- the last row's part taken out -/
theorem Sp.split {K : Nat} {W : Nat → Vec} {v : Vec} (h : Sp (RB (K + 1) W) v) : ∃ n a : Int, n ≠ 0 ∧ Sp (RB K W) (fun c => n * v c + a * W K c) := by
  induction h with
  | of hb =>
    obtain ⟨k, hk, rfl⟩ := hb
    by_cases e : k = K
    · subst e; exact ⟨1, -1, by decide, Sp.zero.congr fun c => by grind⟩
    · exact ⟨1, 0, by decide, (RB.sp (by omega : k < K)).congr fun c => by grind⟩
  | zero => exact ⟨1, 0, by decide, Sp.zero.congr fun c => by simp⟩
  | add _ _ h1 h2 =>
    obtain ⟨n, a, hn, h1⟩ := h1
    obtain ⟨m, b, hm, h2⟩ := h2
    exact ⟨n * m, m * a + n * b, Int.mul_ne_zero hn hm, (Sp.lin m n h1 h2).congr fun c => by grind⟩
  | mul x _ h1 =>
    obtain ⟨n, a, hn, h1⟩ := h1
    exact ⟨n, x * a, hn, (Sp.mul x h1).congr fun c => by grind⟩
  | div hx _ h1 =>
    obtain ⟨n, a, hn, h1⟩ := h1
    exact ⟨n * _, a, Int.mul_ne_zero hn hx, h1.congr fun c => by grind⟩

/-- no more pivots than rows that span -/
theorem Red.le : ∀ {K : Nat} {K' : Nat} {J' : Nat → Nat} {R' : Nat → Vec} {W : Nat → Vec}, Red K' J' R' → (∀ k, k < K' → Sp (RB K W) (R' k)) → K' ≤ K
  | 0, K', J', R', W, h, hs => by
    rcases Nat.eq_zero_or_pos K' with e | e
    · omega
    · exfalso
      have : ∀ {v : Vec}, Sp (RB 0 W) v → ∀ c, v c = 0 := by
        intro v hv
        induction hv with
        | of hb => obtain ⟨k, hk, _⟩ := hb; omega
        | zero => intro c; rfl
        | add _ _ h1 h2 => intro c; simp only [h1, h2]; rfl
        | mul x _ h1 => intro c; simp only [h1]; simp
        | div hx _ h1 => intro c; exact eq_zero_of_mul hx (h1 c)
      exact h.piv 0 e (this (hs 0 e) _)
  | K + 1, K', J', R', W, h, hs => by
    rcases Classical.em (∀ k, k < K' → Sp (RB K W) (R' k)) with c | c
    · have := Red.le h c; omega
    · obtain ⟨k0, c⟩ := Classical.not_forall.1 c
      obtain ⟨hk0, c⟩ := Classical.not_imp.1 c
      obtain ⟨n, a, hn, h0⟩ := (hs k0 hk0).split
      have ha : a ≠ 0 := fun e => c (Sp.div hn (h0.congr fun c => by rw [e]; grind))
      obtain ⟨K1, rfl⟩ : ∃ K1, K' = K1 + 1 := ⟨K' - 1, by omega⟩
      have hch : ∀ k, ∃ m b : Int, k < K1 + 1 → m ≠ 0 ∧ Sp (RB K W) (fun c => m * R' k c + b * W K c) := by
        intro k
        by_cases hk : k < K1 + 1
        · obtain ⟨m, b, hm, hh⟩ := (hs k hk).split; exact ⟨m, b, fun _ => ⟨hm, hh⟩⟩
        · exact ⟨0, 0, fun h => absurd h hk⟩
      obtain ⟨sk, hsk⟩ : ∃ sk : Nat → Nat, sk = fun k => if k < k0 then k else k + 1 := ⟨_, rfl⟩
      have sk1 : ∀ k, k < K1 → sk k < K1 + 1 ∧ sk k ≠ k0 := by
        intro k hk; rw [hsk]; simp only []
        split <;> constructor <;> omega
      have sk2 : ∀ k q, sk k = sk q → k = q := by
        intro k q e; rw [hsk] at e; simp only [] at e
        split at e <;> split at e <;> omega
      have hch2 : ∀ k, ∃ V : Vec, k < K1 → Sp (RB K W) V ∧ ∃ x y : Int, x ≠ 0 ∧ ∀ c, V c = x * R' (sk k) c + y * R' k0 c := by
        intro k
        by_cases hk : k < K1
        · obtain ⟨m, b, hmb⟩ := hch (sk k)
          obtain ⟨hm, hh⟩ := hmb (sk1 k hk).1
          refine ⟨fun c => a * (m * R' (sk k) c + b * W K c) + (-b) * (n * R' k0 c + a * W K c), fun _ => ⟨Sp.lin a (-b) hh h0, a * m, -b * n, Int.mul_ne_zero ha hm, fun c => by grind⟩⟩
        · exact ⟨fun _ => 0, fun h => absurd h hk⟩
      have hV := Classical.choose_spec (Classical.axiomOfChoice hch2)
      obtain ⟨V, hV⟩ := Classical.axiomOfChoice hch2
      have : K1 ≤ K := Red.le (K := K) (J' := fun k => J' (sk k)) (R' := V) (W := W) ⟨fun k hk => by
          obtain ⟨_, x, y, hx, e⟩ := hV k hk
          obtain ⟨s1, s2⟩ := sk1 k hk
          rw [e, h.off k0 hk0 (sk k) s1 (Ne.symm s2)]
          have := h.piv (sk k) s1
          intro h9
          exact this (eq_zero_of_mul hx (by simpa using h9)),
        fun k hk q hq hne => by
          obtain ⟨_, x, y, hx, e⟩ := hV k hk
          obtain ⟨s1, s2⟩ := sk1 k hk
          obtain ⟨t1, t2⟩ := sk1 q hq
          rw [e, h.off k0 hk0 (sk q) t1 (Ne.symm t2), h.off (sk k) s1 (sk q) t1 (fun e => hne (sk2 _ _ e))]
          simp⟩ (fun k hk => (hV k hk).1)
      omega

/-- a linear map of spans -/
theorem Sp.map {B B' : Vec → Prop} (f : Vec → Vec) (h0 : f (fun _ => 0) = fun _ => 0) (ha : ∀ u v, f (fun c => u c + v c) = fun c => f u c + f v c) (hm : ∀ (k : Int) u, f (fun c => k * u c) = fun c => k * f u c)
    (hB : ∀ v, B v → Sp B' (f v)) {v : Vec} (h : Sp B v) : Sp B' (f v) := by
  induction h with
  | of hb => exact hB _ hb
  | zero => rw [h0]; exact .zero
  | add _ _ h1 h2 => rw [ha]; exact .add h1 h2
  | mul k _ h1 => rw [hm]; exact .mul k h1
  | div hk _ h1 => rw [hm] at h1; exact .div hk h1

/-- some columns of rows -/
def colsF (M : List (List Int)) (S : List Int) : List (List Int) := M.map (fun r => S.map (fun j => vec r j.toNat))
def pickV (S : List Int) (v : Vec) : Vec := fun c => match S[c]? with | some j => v j.toNat | none => 0
theorem colsF_vec (r : List Int) (S : List Int) : vec (S.map (fun j => vec r j.toNat)) = pickV S (vec r) := by
  funext c
  unfold pickV
  show ((S.map (fun j => vec r j.toNat))[c]?).getD 0 = _
  rw [List.getElem?_map]
  cases S[c]? <;> rfl
theorem colsF_rowv (M : List (List Int)) (S : List Int) (q : Nat) : rowv (colsF M S) q = pickV S (rowv M q) := by
  unfold rowv colsF
  rw [List.getElem?_map]
  cases M[q]? with
  | none => funext c; unfold pickV; cases S[c]? <;> simp [vec]
  | some r => simp only [Option.map_some, Option.getD_some]; exact colsF_vec r S
theorem colsF_len (M : List (List Int)) (S : List Int) : (colsF M S).length = M.length := by simp [colsF]
theorem colsF_wid (M : List (List Int)) (S : List Int) : ∀ r ∈ colsF M S, r.length = S.length := by
  intro r hr
  obtain ⟨r', _, rfl⟩ := List.mem_map.1 hr
  simp
theorem colsF_le {M : List (List Int)} (h : ∀ r ∈ M, ∀ c, -1 ≤ vec r c ∧ vec r c ≤ 1) (S : List Int) : ∀ r ∈ colsF M S, ∀ c, -1 ≤ vec r c ∧ vec r c ≤ 1 := by
  intro r hr c
  obtain ⟨r', hr', rfl⟩ := List.mem_map.1 hr
  rw [colsF_vec]
  unfold pickV
  split
  · exact h r' hr' _
  · decide

/-- a mask: rows of n numbers -1, 0, 1, at most 6 -/
structure MaskOk (M : List (List Int)) (n : Nat) : Prop where
  wid : ∀ r ∈ M, r.length = n
  le6 : M.length ≤ 6
  one : ∀ r ∈ M, ∀ c, -1 ≤ vec r c ∧ vec r c ≤ 1
theorem MaskOk.cols {M : List (List Int)} {n : Nat} (h : MaskOk M n) (S : List Int) : MaskOk (colsF M S) S.length :=
  ⟨colsF_wid M S, by rw [colsF_len]; exact h.le6, colsF_le h.one S⟩
theorem MaskOk.inv {M : List (List Int)} {n : Nat} (h : MaskOk M n) (t : Nat) : RInv n M.length (rowv M) t (pRed M t).1 (pRed M t).2 :=
  pRed_inv M h.wid t (fun j _ q => rowv_le (by decide) (fun r hr => h.one r hr j) q)
/-- below the pivots all is 0 -/
theorem MaskOk.below {M : List (List Int)} {n : Nat} (h : MaskOk M n) {q : Nat} (h1 : (pRed M n).2.length ≤ q) (h2 : q < M.length) (c : Nat) : rowv (pRed M n).1 q c = 0 := by
  rcases Nat.lt_or_ge c n with hc | hc
  · exact (h.inv n).zero q h1 h2 c hc
  · exact rowv_wid (h.inv n).wid q hc

/-- the rank of a mask -/
def rankF (M : List (List Int)) (n : Nat) : Nat := (pRed M n).2.length
theorem MaskOk.cols_rank {M : List (List Int)} {n : Nat} (h : MaskOk M n) (S : List Int) : rankF (colsF M S) S.length ≤ rankF M n := by
  have hc := h.cols S
  have hi := hc.inv S.length
  refine Red.le (W := fun k => pickV S (rowv (pRed M n).1 k)) hi.ech.red fun k hk => ?_
  have h1 := (hi.span (fun q h1 h2 c => hc.below h1 (by rw [colsF_len] at h2 ⊢; exact h2) c)).1 (RB.sp hk)
  refine h1.trans ?_
  rintro v ⟨q, hq, rfl⟩
  rw [colsF_len] at hq
  rw [colsF_rowv]
  refine Sp.map (pickV S) ?_ ?_ ?_ ?_ (((h.inv n).span (fun q h1 h2 c => h.below h1 h2 c)).2 (RB.sp hq))
  · funext c; unfold pickV; split <;> rfl
  · intro u v; funext c; unfold pickV; split <;> simp
  · intro k u; funext c; unfold pickV; split <;> simp
  · rintro v ⟨k, hk, rfl⟩; exact .of ⟨k, hk, rfl⟩

theorem free_len {J : List Nat} {n : Nat} (hn : J.Nodup) (hl : ∀ x ∈ J, x < n) : (freeF J n).length + J.length = n := by
  have h1 : ((List.range n).filter (fun f => J.contains f)).length = J.length := by
    refine (List.Perm.length_eq ?_)
    refine (List.perm_ext_iff_of_nodup ?_ hn).2 fun x => ?_
    · exact List.Pairwise.filter _ List.nodup_range
    · simp only [List.mem_filter, List.mem_range, List.contains_iff_mem]
      exact ⟨fun h => h.2, fun h => ⟨hl x h, h⟩⟩
  have h2 := List.length_eq_countP_add_countP (fun f => J.contains f) (l := List.range n)
  rw [List.countP_eq_length_filter, List.countP_eq_length_filter, List.length_range, h1] at h2
  have e : (fun f => decide ¬(J.contains f) = true) = fun f => !J.contains f := by funext f; cases J.contains f <;> rfl
  rw [e] at h2
  unfold freeF
  omega
end

section
set_option linter.unusedVariables false

/-- a list laid at some places of n zeros, k of them so far -/
def spreadF (n : Nat) (S l : List Int) (k : Nat) : List Int := (List.range k).foldl (fun h i => h.set (S[i]?.getD 0).toNat (l[i]?.getD 0)) (List.replicate n 0)
theorem spreadF_succ (n : Nat) (S l : List Int) (k : Nat) : spreadF n S l (k + 1) = (spreadF n S l k).set (S[k]?.getD 0).toNat (l[k]?.getD 0) := by
  unfold spreadF; rw [List.range_succ, List.foldl_append]; rfl
theorem spreadF_len (n : Nat) (S l : List Int) : ∀ k, (spreadF n S l k).length = n
  | 0 => by simp [spreadF]
  | k + 1 => by rw [spreadF_succ, List.length_set]; exact spreadF_len n S l k

theorem vec_set {h : List Int} {c i : Nat} {x : Int} (hc : c < h.length) : vec (h.set c x) i = if i = c then x else vec h i := by
  unfold vec
  by_cases e : i = c
  · subst e; rw [if_pos rfl, List.getElem?_set_self hc]; rfl
  · rw [if_neg e, List.getElem?_set_ne (Ne.symm e)]

/-- ascending lists of numbers below n -/
def SetOk (n : Nat) (S : List Int) : Prop := S.Pairwise (· < ·) ∧ ∀ y ∈ S, 0 ≤ y ∧ y < (n : Int)
theorem SetOk.get {n : Nat} {S : List Int} (h : SetOk n S) {i : Nat} (hi : i < S.length) : 0 ≤ S[i] ∧ S[i] < n := h.2 _ (List.getElem_mem hi)
theorem SetOk.inj {n : Nat} {S : List Int} (h : SetOk n S) {i j : Nat} (hi : i < S.length) (hj : j < S.length) (e : S[i] = S[j]) : i = j := by
  rcases Nat.lt_trichotomy i j with c | c | c
  · have := List.pairwise_iff_getElem.1 h.1 i j hi hj c; omega
  · exact c
  · have := List.pairwise_iff_getElem.1 h.1 j i hj hi c; omega

theorem spread_in {n : Nat} {S l : List Int} (h : SetOk n S) : ∀ k, k ≤ S.length → ∀ i (hi : i < S.length), i < k → vec (spreadF n S l k) (S[i]).toNat = l[i]?.getD 0
  | 0, _, i, _, h0 => by omega
  | k + 1, hk, i, hi, hik => by
    have hkS : k < S.length := by omega
    have hS : S[k]?.getD 0 = S[k] := by rw [List.getElem?_eq_getElem hkS]; rfl
    have g1 := h.get hkS
    have g2 := h.get hi
    rw [spreadF_succ, hS, vec_set (by rw [spreadF_len]; omega)]
    by_cases e : i = k
    · subst e; rw [if_pos rfl]
    · rw [if_neg (fun c => e (h.inj hi hkS (by omega)))]
      exact spread_in h k (by omega) i hi (by omega)
theorem spread_out {n : Nat} {S l : List Int} (h : SetOk n S) {c : Nat} (hc : (c : Int) ∉ S) : ∀ k, k ≤ S.length → vec (spreadF n S l k) c = 0
  | 0, _ => by
    unfold spreadF vec
    simp only [List.range_zero, List.foldl_nil, List.getElem?_replicate]
    split <;> rfl
  | k + 1, hk => by
    have hkS : k < S.length := by omega
    have hS : S[k]?.getD 0 = S[k] := by rw [List.getElem?_eq_getElem hkS]; rfl
    have g1 := h.get hkS
    rw [spreadF_succ, hS, vec_set (by rw [spreadF_len]; omega), if_neg (fun e => hc (by
      have : (c : Int) = S[k] := by omega
      rw [this]; exact List.getElem_mem hkS))]
    exact spread_out h hc k (by omega)

/-- the first number that is not 0 -/
def firstNz : List Int → Int
  | [] => 0
  | x :: l => if x = 0 then firstNz l else x
theorem firstNz_at : ∀ {l : List Int} {i : Nat}, (∀ j, j < i → vec l j = 0) → vec l i ≠ 0 → firstNz l = vec l i
  | [], i, _, h => by simp [vec] at h
  | x :: l, 0, _, h => by
    have h' : x ≠ 0 := by simpa [vec] using h
    unfold firstNz; rw [if_neg h']; simp [vec]
  | x :: l, i + 1, h0, h => by
    have h1 := h0 0 (by omega)
    have h' : x = 0 := by simpa [vec] using h1
    unfold firstNz; rw [if_pos h']
    have := firstNz_at (l := l) (i := i) (fun j hj => by have := h0 (j + 1) (by omega); simpa [vec] using this) (by simpa [vec] using h)
    rw [this]; simp [vec]

/-- a vector made primitive -/
def primV (h : List Int) : List Int := if firstNz (shortF h) < 0 then negF (shortF h) else shortF h

/-- a kernel of some columns: the program's, the reference's -/
def kerSP (M : List (List Int)) (S : List Int) : List (List Int) := kernP (pRed (colsF M S) S.length).1 (pRed (colsF M S) S.length).2 S.length
def kerSR (M : List (List Int)) (S : List Int) : List (List Int) := kernR (rRed (colsF M S) S.length).done (rRed (colsF M S) S.length).piv S.length
def circ1P (M : List (List Int)) (n : Nat) (S : List Int) : Option (List Int) :=
  match kerSP M S with
  | [l] => if l.contains 0 then none else some (primV (spreadF n S l S.length))
  | _ => none
def circ1R (M : List (List Int)) (n : Nat) (S : List Int) : Option (List Int) :=
  match kerSR M S with
  | [l] => if l.contains 0 then none else some (if vec (spreadF n S l S.length) (S[0]?.getD 0).toNat < 0 then negF (spreadF n S l S.length) else spreadF n S l S.length)
  | _ => none

theorem kerS_same {M : List (List Int)} {n : Nat} (h : MaskOk M n) (S : List Int) : kerSP M S = kerSR M S := by
  unfold kerSP kerSR
  have hc := h.cols S
  exact kernel_same hc.wid hc.le6 (fun r hr c _ => hc.one r hr c)

theorem kerSR_prim {M : List (List Int)} {S l : List Int} (h : l ∈ kerSR M S) : ∃ r, l = shortF r := by
  unfold kerSR kernR at h
  obtain ⟨f, _, rfl⟩ := List.mem_map.1 h
  unfold kerR
  exact ⟨_, primF_eq _⟩
theorem kerSR_len {M : List (List Int)} {S l : List Int} (h : l ∈ kerSR M S) : l.length = S.length := by
  unfold kerSR kernR at h
  obtain ⟨f, _, rfl⟩ := List.mem_map.1 h
  unfold kerR rawR
  rw [primF_eq, shortF_len, fillF_len]; simp

theorem short_of_prim {h : List Int} (hp : Prim (vec h)) : shortF h = h := by
  unfold shortF
  rw [if_neg]
  intro c
  have := hp (gcdL h) (fun c => vec_mem (P := fun x => gcdL h ∣ x) (Int.dvd_zero _) (fun x hx => gcdL_dvd hx) c)
  have := Int.le_of_dvd (by decide) this
  omega

theorem circ1_same {M : List (List Int)} {n : Nat} (h : MaskOk M n) {S : List Int} (hS : SetOk n S) (hne : S ≠ []) : circ1P M n S = circ1R M n S := by
  unfold circ1P circ1R
  rw [kerS_same h]
  split
  · rename_i l hl
    by_cases h0 : l.contains 0 = true
    · rw [if_pos h0, if_pos h0]
    · rw [if_neg h0, if_neg h0]
      have hm : l ∈ kerSR M S := by rw [hl]; simp
      have hlen := kerSR_len hm
      obtain ⟨r, hr⟩ := kerSR_prim hm
      have hlp : 0 < S.length := List.length_pos_iff.2 hne
      have hnz : ∀ x ∈ l, x ≠ 0 := fun x hx e => h0 (by subst e; simpa using hx)
      have hp : Prim (vec l) := by
        rcases shortF_prim r with a | a
        · rw [hr]; exact a
        · exfalso
          have := hnz l[0] (List.getElem_mem (by omega))
          rw [← vec_lt (by omega : 0 < l.length), hr] at this
          exact this (a 0)
      have hps : Prim (vec (spreadF n S l S.length)) := by
        intro g hg
        refine hp g fun c => ?_
        rcases Nat.lt_or_ge c l.length with hc | hc
        · have := hg (S[c]'(by omega)).toNat
          rw [spread_in hS S.length (Nat.le_refl _) c (by omega) (by omega)] at this
          exact this
        · rw [vec_ge hc]; exact Int.dvd_zero _
      have hfirst : firstNz (spreadF n S l S.length) = vec (spreadF n S l S.length) (S[0]?.getD 0).toNat := by
        have hs0 : S[0]?.getD 0 = S[0] := by rw [List.getElem?_eq_getElem hlp]; rfl
        refine firstNz_at (fun j hj => spread_out hS (fun hm => ?_) _ (Nat.le_refl _)) ?_
        · obtain ⟨i, hi, e⟩ := List.mem_iff_getElem.1 hm
          have g := hS.get hlp
          rw [hs0] at hj
          rcases Nat.eq_zero_or_pos i with c | c
          · subst c; omega
          · have := List.pairwise_iff_getElem.1 hS.1 0 i hlp hi c; omega
        · rw [hs0, spread_in hS S.length (Nat.le_refl _) 0 hlp hlp, List.getElem?_eq_getElem (by omega)]
          exact hnz _ (List.getElem_mem _)
      unfold primV
      rw [short_of_prim hps, hfirst]
  · rename_i hl
    rfl

/-- all circuits: the program's, the reference's -/
def circP (M : List (List Int)) (n : Nat) : List (List Int) := (List.range (min (rankF M n + 1) n)).flatMap fun k => (comb n (k + 1) 0).filterMap (circ1P M n)
def circR (M : List (List Int)) (n : Nat) : List (List Int) := (allS n).filterMap fun S => if S.length = 0 ∨ M.length + 1 < S.length then none else circ1R M n S

theorem comb_ok {n k : Nat} {S : List Int} (h : S ∈ comb n k 0) : SetOk n S := by
  obtain ⟨h1, h2⟩ := comb_asc n k 0 S h
  exact ⟨h1, fun y hy => by have := h2 y hy; omega⟩

theorem rank_le {M : List (List Int)} {n : Nat} (h : MaskOk M n) : rankF M n ≤ M.length := (h.inv n).K_le

theorem kerSP_len {M : List (List Int)} {n : Nat} (h : MaskOk M n) (S : List Int) : (kerSP M S).length + rankF (colsF M S) S.length = S.length := by
  unfold kerSP kernP rankF
  rw [List.length_map]
  have hi := (h.cols S).inv S.length
  exact free_len (hi.asc.imp (fun h => by omega)) hi.lt

/-- too many columns for one kernel vector -/
theorem circ1_many {M : List (List Int)} {n : Nat} (h : MaskOk M n) {S : List Int} (hS : rankF M n + 1 < S.length) : circ1P M n S = none := by
  unfold circ1P
  have h1 := kerSP_len h S
  have h2 := h.cols_rank S
  split
  · rename_i l hl
    rw [hl] at h1
    simp at h1
    omega
  · rfl

theorem lvls_range (n : Nat) : ∀ k, lvls n k = (List.range (k + 1)).flatMap fun j => comb n j 0
  | 0 => by simp [lvls]
  | k + 1 => by
    show lvls n k ++ comb n (k + 1) 0 = _
    rw [lvls_range n k, List.range_succ (n := k + 1), List.flatMap_append]; simp

theorem filterMap_none {α β : Type} {f : α → Option β} : ∀ {l : List α}, (∀ x ∈ l, f x = none) → l.filterMap f = []
  | [], _ => rfl
  | x :: l, h => by rw [List.filterMap_cons, h x (by simp)]; exact filterMap_none fun y hy => h y (by simp [hy])
theorem filterMap_same {α β : Type} {f g : α → Option β} : ∀ {l : List α}, (∀ x ∈ l, f x = g x) → l.filterMap f = l.filterMap g
  | [], _ => rfl
  | x :: l, h => by rw [List.filterMap_cons, List.filterMap_cons, h x (by simp), filterMap_same fun y hy => h y (by simp [hy])]
theorem flatMap_nil' {α β : Type} {f : α → List β} {l : List α} (h : ∀ x ∈ l, f x = []) : l.flatMap f = [] := by
  rw [flatMap_same (g := fun _ => []) h]; induction l <;> simp_all
theorem filterMap_flat {α β γ : Type} (f : β → Option γ) (g : α → List β) : ∀ l : List α, (l.flatMap g).filterMap f = l.flatMap fun x => (g x).filterMap f
  | [] => rfl
  | x :: l => by rw [List.flatMap_cons, List.filterMap_append, filterMap_flat f g l, List.flatMap_cons]

theorem circ_same {M : List (List Int)} {n : Nat} (h : MaskOk M n) : circP M n = circR M n := by
  have hr := rank_le h
  unfold circR allS
  rw [lvls_range, filterMap_flat, List.range_succ_eq_map, List.flatMap_cons, List.flatMap_map]
  have e0 : (comb n 0 0).filterMap (fun S => if S.length = 0 ∨ M.length + 1 < S.length then none else circ1R M n S) = [] :=
    filterMap_none fun S hS => by rw [comb_len n 0 0 S hS, if_pos (.inl rfl)]
  rw [e0, List.nil_append]
  have e1 : ∀ k, (comb n (k + 1) 0).filterMap (fun S => if S.length = 0 ∨ M.length + 1 < S.length then none else circ1R M n S) = if k < rankF M n + 1 then (comb n (k + 1) 0).filterMap (circ1P M n) else [] := by
    intro k
    by_cases hk : k < rankF M n + 1
    · rw [if_pos hk]
      refine filterMap_same fun S hS => ?_
      have hl := comb_len n (k + 1) 0 S hS
      rw [if_neg (by omega)]
      exact (circ1_same h (comb_ok hS) (by intro e; rw [e] at hl; simp at hl)).symm
    · rw [if_neg hk]
      refine filterMap_none fun S hS => ?_
      have hl := comb_len n (k + 1) 0 S hS
      split
      · rfl
      · rw [← circ1_same h (comb_ok hS) (by intro e; rw [e] at hl; simp at hl)]
        exact circ1_many h (by omega)
  have e2 : (List.range n).flatMap (fun k => (comb n (k + 1) 0).filterMap (fun S => if S.length = 0 ∨ M.length + 1 < S.length then none else circ1R M n S)) = circP M n := by
    unfold circP
    rw [flatMap_same (g := fun k => if k < rankF M n + 1 then (comb n (k + 1) 0).filterMap (circ1P M n) else []) fun k _ => e1 k]
    rcases Nat.lt_or_ge n (rankF M n + 1) with c | c
    · rw [show min (rankF M n + 1) n = n by omega]
      exact flatMap_same fun k hk => if_pos (by have := List.mem_range.1 hk; omega)
    · rw [show min (rankF M n + 1) n = rankF M n + 1 by omega]
      have : List.range n = List.range (rankF M n + 1) ++ (List.range' (rankF M n + 1) (n - (rankF M n + 1))) := by
        rw [List.range_eq_range', List.range_eq_range']
        have := @List.range'_append_1 0 (rankF M n + 1) (n - (rankF M n + 1))
        rw [Nat.zero_add] at this
        rw [this]; congr 1; omega
      rw [this, List.flatMap_append]
      rw [flatMap_nil' (l := List.range' _ _) fun k hk => if_neg (by have := (List.mem_range'_1.1 hk).1; omega), List.append_nil]
      exact flatMap_same fun k hk => if_pos (List.mem_range.1 hk)
  exact e2.symm
end

section
set_option linter.unusedVariables false

/-- n / d in lowest terms, as the program has it -/
def ofF (n d : Int) : Int × Int :=
  let g : Int := (Int.gcd n d : Nat)
  if d < 0 then (n.tdiv (-g), d.tdiv (-g)) else (n.tdiv g, d.tdiv g)
/-- as the reference has it -/
def ratioF (n d : Int) : Int × Int := (n.tdiv (Int.gcd n d : Nat), d.tdiv (Int.gcd n d : Nat))
theorem ofF_pos {n d : Int} (h : 0 < d) : ofF n d = ratioF n d := by unfold ofF ratioF; simp only []; rw [if_neg (by omega)]

/-- rows with a number more behind each -/
def withY (R : List (List Int)) (y : List Int) : List (List Int) := List.zipWith (fun r v => r ++ [v]) R y
theorem withY_len {R : List (List Int)} {y : List Int} (h : y.length = R.length) : (withY R y).length = R.length := by simp [withY, h]
theorem withY_mem {R : List (List Int)} {y : List Int} {r : List Int} (h : r ∈ withY R y) : ∃ r' ∈ R, ∃ v ∈ y, r = r' ++ [v] := by
  unfold withY at h
  obtain ⟨i, hi, rfl⟩ := List.mem_iff_getElem.1 h
  rw [List.getElem_zipWith]
  simp at hi
  exact ⟨_, List.getElem_mem (by omega), _, List.getElem_mem (by omega), rfl⟩
theorem vec_snoc_lt {r : List Int} {v : Int} {c : Nat} (h : c < r.length) : vec (r ++ [v]) c = vec r c := by
  unfold vec; rw [List.getElem?_append_left h]

/-- rows of n columns -1, 0, 1 and a reading's number -/
structure MaskY (R : List (List Int)) (n : Nat) (Y : Nat) : Prop where
  wid : ∀ r ∈ R, r.length = n + 1
  le6 : R.length ≤ 6
  one : ∀ r ∈ R, ∀ c, c < n → -1 ≤ vec r c ∧ vec r c ≤ 1
  all : ∀ r ∈ R, ∀ x ∈ r, -(Y : Int) ≤ x ∧ x ≤ Y
theorem MaskOk.addY {M : List (List Int)} {n : Nat} (h : MaskOk M n) {y : List Int} (hy : y.length = M.length) {Y : Nat} (hY1 : 1 ≤ Y) (hY : ∀ v ∈ y, -(Y : Int) ≤ v ∧ v ≤ Y) : MaskY (withY M y) n Y := by
  refine ⟨fun r hr => ?_, by rw [withY_len hy]; exact h.le6, fun r hr c hc => ?_, fun r hr x hx => ?_⟩
  · obtain ⟨r', h1, v, _, rfl⟩ := withY_mem hr
    simp [h.wid r' h1]
  · obtain ⟨r', h1, v, _, rfl⟩ := withY_mem hr
    rw [vec_snoc_lt (by rw [h.wid r' h1]; exact hc)]; exact h.one r' h1 c
  · obtain ⟨r', h1, v, h2, rfl⟩ := withY_mem hr
    rcases List.mem_append.1 hx with hx | hx
    · obtain ⟨c, hc, rfl⟩ := List.mem_iff_getElem.1 hx
      have := h.one r' h1 c
      rw [vec_lt hc] at this; omega
    · simp at hx; subst hx; exact hY _ h2

/-- values, and the error (0, 8: none, 11: many) -/
def solveP (R : List (List Int)) (n : Nat) : List (Int × Int) × Int :=
  let s := pRed R n
  if (s.1.drop s.2.length).any (nz n) then ([], 8)
  else if s.2.length < n then ([], 11)
  else ((List.range n).map fun k => ofF (vec (s.1[k]?.getD []) n) (vec (s.1[k]?.getD []) (jf s.2 k)), 0)
/-- values with 0 where a column is free, whether there are any, how many columns are free -/
def solvedR (R : List (List Int)) (n : Nat) : List (Int × Int) × Int × Bool :=
  let s := rRed R (n + 1)
  if n ∈ s.piv then ([], 0, false)
  else ((List.range s.piv.length).foldl (fun out i => out.set (jf s.piv i) (ratioF (vec (s.done[i]?.getD []) n) (vec (s.done[i]?.getD []) (jf s.piv i)))) (List.replicate n (0, 1)), (n : Int) - s.piv.length, true)
def solveR (R : List (List Int)) (n : Nat) : List (Int × Int) × Int :=
  let s := solvedR R n
  if s.2.2 = false then ([], 8) else if 0 < s.2.1 then ([], 11) else (s.1, 0)

theorem asc_le : ∀ {J : List Nat} {a b : Nat}, J.Pairwise (· < ·) → (∀ x ∈ J, a ≤ x ∧ x < b) → J.length ≤ b - a
  | [], a, b, _, _ => Nat.zero_le _
  | x :: J, a, b, hp, hb => by
    rw [List.pairwise_cons] at hp
    have hx := hb x (by simp)
    have := asc_le (a := x + 1) (b := b) hp.2 (fun y hy => by have := hp.1 y hy; have := hb y (by simp [hy]); omega)
    simp only [List.length_cons]; omega
theorem asc_full : ∀ {J : List Nat} {a n : Nat}, J.Pairwise (· < ·) → (∀ x ∈ J, a ≤ x ∧ x < a + n) → J.length = n → J = List.range' a n
  | [], a, n, _, _, h => by simp at h; subst h; rfl
  | x :: J, a, 0, _, _, h => by simp at h
  | x :: J, a, n + 1, hp, hb, h => by
    rw [List.pairwise_cons] at hp
    have hx := hb x (by simp)
    have hlen : J.length = n := by simpa using h
    -- all others lie above x
    have hxa : x = a := by
      rcases Nat.lt_or_ge a x with c | c
      · exfalso
        have h2 := asc_le (a := a + 1) (b := a + (n + 1)) (List.pairwise_cons.2 hp) (fun y hy => by
          have := hb y hy
          rcases List.mem_cons.1 hy with rfl | hy'
          · omega
          · have := hp.1 y hy'; omega)
        simp at h2; omega
      · omega
    subst hxa
    rw [List.range'_succ]
    congr 1
    exact asc_full hp.2 (fun y hy => by have := hp.1 y hy; have := hb y (by simp [hy]); omega) hlen

theorem solve_same {R : List (List Int)} {n Y : Nat} (h : MaskY R n Y) : solveP R n = solveR R n := by
  have hi := pRed_inv R h.wid n (fun j hj q => rowv_le (by decide) (fun r hr => h.one r hr j hj) q)
  have hl := pRed_len R n
  unfold solveP solveR solvedR
  simp only []
  by_cases c : ((pRed R n).1.drop (pRed R n).2.length).any (nz n) = true
  · rw [if_pos c]
    obtain ⟨r, hr, hz⟩ := List.any_eq_true.1 c
    obtain ⟨i, hilt, rfl⟩ := List.mem_iff_getElem.1 hr
    rw [List.getElem_drop] at hz
    have hmem := red_more (m := n + 1) h.wid h.one (Nat.le_refl _) (q := (pRed R n).2.length + i) (by omega) (by rw [List.length_drop] at hilt; omega) (by
      rw [rowv_lt (by rw [List.length_drop] at hilt; omega)]; simpa [nz] using hz)
    rw [if_pos hmem]; simp
  · rw [if_neg c]
    have h0 : ∀ q, (pRed R n).2.length ≤ q → q < R.length → ∀ x, n ≤ x → x < n + 1 → rowv (pRed R n).1 q x = 0 := by
      intro q h1 h2 x hx1 hx2
      obtain rfl : x = n := by omega
      rw [rowv_lt (by omega)]
      have hm : (pRed R x).1[q]'(by omega) ∈ (pRed R x).1.drop (pRed R x).2.length := by
        rw [List.mem_drop_iff_getElem]; exact ⟨q - (pRed R x).2.length, by omega, by congr 1; omega⟩
      rcases Classical.em (vec ((pRed R x).1[q]'(by omega)) x = 0) with e | e
      · exact e
      · exact absurd (List.any_eq_true.2 ⟨_, hm, by simpa [nz] using e⟩) c
    obtain ⟨e1, e2⟩ := red_same (m := n + 1) h.wid h.one (Nat.le_refl _) h0
    rw [e2, ← e1]
    have hnm : n ∉ (pRed R n).2 := fun hm => by have := hi.lt _ hm; omega
    rw [if_neg hnm]
    simp only [Bool.true_eq_false, if_false]
    have hKn : (pRed R n).2.length ≤ n := by
      have := asc_le (a := 0) (b := n) hi.asc (fun x hx => ⟨Nat.zero_le _, hi.lt x hx⟩)
      omega
    by_cases c2 : (pRed R n).2.length < n
    · rw [if_pos c2, if_pos (by omega)]
    · rw [if_neg c2, if_neg (by omega)]
      have hK : (pRed R n).2.length = n := by omega
      have hJ := asc_full (a := 0) hi.asc (fun x hx => ⟨Nat.zero_le _, by have := hi.lt x hx; omega⟩) hK
      have hjf : ∀ k, k < n → jf (pRed R n).2 k = k := by
        intro k hk
        unfold jf
        rw [hJ, List.getElem?_range' hk]; simp
      congr 1
      rw [hK]
      -- the places filled one after the other
      have key : ∀ t, t ≤ n → (List.range t).foldl (fun (out : List (Int × Int)) i => out.set (jf (pRed R n).2 i) (ratioF (vec (((pRed R n).1.take n)[i]?.getD []) n) (vec (((pRed R n).1.take n)[i]?.getD []) (jf (pRed R n).2 i)))) (List.replicate n (0, 1)) =
          (List.range t).map (fun k => ofF (vec ((pRed R n).1[k]?.getD []) n) (vec ((pRed R n).1[k]?.getD []) (jf (pRed R n).2 k))) ++ List.replicate (n - t) (0, 1) := by
        intro t
        induction t with
        | zero => intro _; simp
        | succ t ih =>
          intro ht
          rw [List.range_succ, List.foldl_append, ih (by omega), List.map_append]
          simp only [List.foldl_cons, List.foldl_nil, List.map_cons, List.map_nil]
          rw [hjf t (by omega), List.getElem?_take_of_lt (by omega)]
          have hpos := (hi.pp t (by omega)).2
          rw [hjf t (by omega)] at hpos
          rw [ofF_pos (show 0 < vec ((pRed R n).1[t]?.getD []) t from hpos)]
          rw [show n - t = (n - (t + 1)) + 1 by omega, List.replicate_succ, List.set_append_right _ _ (by simp)]
          simp
      have := key n (Nat.le_refl _)
      rw [Nat.sub_self] at this
      simp only [List.replicate_zero, List.append_nil] at this
      rw [this]
end

section
set_option linter.unusedVariables false

/-- the sum of the products of two vectors' first n numbers -/
def dotS (u v : Vec) (n : Nat) : Int := sm (fun c => u c * v c) n

theorem dotS_sp {B : Vec → Prop} {h : Vec} {n : Nat} (hB : ∀ u, B u → dotS u h n = 0) {v : Vec} (hv : Sp B v) : dotS v h n = 0 := by
  unfold dotS at *
  induction hv with
  | of hb => exact hB _ hb
  | zero => rw [sm_congr (g := fun _ => 0) (fun k _ => by simp), sm_zero]
  | @add u v _ _ h1 h2 => rw [sm_congr (g := fun c => u c * h c + v c * h c) (fun k _ => by grind), sm_add, h1, h2]; rfl
  | @mul k u _ h1 => rw [sm_congr (g := fun c => k * (u c * h c)) (fun k _ => by grind), sm_mul, h1]; simp
  | @div k u hk _ h1 =>
    rw [sm_congr (g := fun c => k * (u c * h c)) (fun k _ => by grind), sm_mul] at h1
    exact eq_zero_of_mul hk h1

/-- the program's rows at the end -/
abbrev RP (M : List (List Int)) (n : Nat) : List (List Int) := (pRed M n).1
abbrev JP (M : List (List Int)) (n : Nat) : List Nat := (pRed M n).2

theorem MaskOk.rp_le {M : List (List Int)} {n : Nat} (h : MaskOk M n) (k c : Nat) : -720 ≤ vec ((RP M n)[k]?.getD []) c ∧ vec ((RP M n)[k]?.getD []) c ≤ 720 := by
  cases hk : (RP M n)[k]? with
  | none => simp [vec]
  | some r =>
    have := (pRed_le (n := n) (Y := 1) h.wid h.le6 (fun r hr c _ => h.one r hr c) (fun r hr => mem_vec (P := fun x => -((1 : Nat) : Int) ≤ x ∧ x ≤ ((1 : Nat) : Int)) fun c => by have := h.one r hr c; omega) (Nat.le_refl n) r (List.mem_of_getElem? hk)).2
    have h2 := vec_le (Y := 720) (by decide) (fun x hx => by have := this x hx; omega) c
    simpa using h2

theorem MaskOk.span {M : List (List Int)} {n : Nat} (h : MaskOk M n) {v : Vec} : Sp (RB (JP M n).length (rowv (RP M n))) v ↔ Sp (RB M.length (rowv M)) v :=
  (h.inv n).span (fun q h1 h2 c => h.below h1 h2 c)

/-- a kernel vector: each row's product with it is 0 -/
def IsKer (M : List (List Int)) (n : Nat) (v : Vec) : Prop := ∀ q, q < M.length → dotS (rowv M q) v n = 0
theorem MaskOk.ker_iff {M : List (List Int)} {n : Nat} (h : MaskOk M n) {v : Vec} : IsKer M n v ↔ ∀ k, k < (JP M n).length → dotS (rowv (RP M n) k) v n = 0 := by
  constructor
  · intro hk k hlt
    exact dotS_sp (B := RB M.length (rowv M)) (fun u ⟨q, hq, e⟩ => e ▸ hk q hq) (h.span.1 (RB.sp hlt))
  · intro hk q hq
    exact dotS_sp (B := RB (JP M n).length (rowv (RP M n))) (fun u ⟨k, hlt, e⟩ => e ▸ hk k hlt) (h.span.2 (RB.sp hq))

/-- a reduced row's product: its pivot's part and that of the free columns -/
theorem MaskOk.dot_row {M : List (List Int)} {n : Nat} (h : MaskOk M n) (v : Vec) {k : Nat} (hk : k < (JP M n).length) :
    dotS (rowv (RP M n) k) v n = rowv (RP M n) k (jf (JP M n) k) * v (jf (JP M n) k) + sm (fun c => if c ∈ JP M n then 0 else rowv (RP M n) k c * v c) n := by
  have hi := h.inv n
  have hjl := hi.lt _ (jf_mem hk)
  unfold dotS
  rw [sm_congr (g := fun c => (if c = jf (JP M n) k then rowv (RP M n) k c * v c else 0) + (if c ∈ JP M n then 0 else rowv (RP M n) k c * v c)) (fun c _ => ?_), sm_add, sm_single hjl (fun c _ hne => if_neg hne), if_pos rfl]
  by_cases hc : c ∈ JP M n
  · obtain ⟨i, hlt, rfl⟩ := mem_jf hc
    rw [if_pos hc]
    by_cases e : i = k
    · subst e; simp
    · rw [hi.ech.red.off k hk i hlt (Ne.symm e)]; simp
  · rw [if_neg hc, if_neg (fun e : c = jf (JP M n) k => hc (by rw [e]; exact jf_mem hk))]; simp

/-- the raw vector of a free column -/
theorem MaskOk.raw {M : List (List Int)} {n : Nat} (h : MaskOk M n) {f : Nat} (hf : f < n) (hfJ : f ∉ JP M n) :
    ∃ t : Int, 0 < t ∧ t ≤ 720 ∧ vec (rawP (RP M n) (JP M n) n f) f = t ∧ (∀ c, c ∉ JP M n → c ≠ f → vec (rawP (RP M n) (JP M n) n f) c = 0) ∧
      ∀ i, i < (JP M n).length → vec (rawP (RP M n) (JP M n) n f) (jf (JP M n) i) * rowv (RP M n) i (jf (JP M n) i) = -(rowv (RP M n) i f) * t := by
  obtain ⟨d, d1, d2, hk⟩ := pRed_ok (n := n) h.wid h.le6 (fun r hr c _ => h.one r hr c)
  obtain ⟨a1, a2, a3, a4, a5⟩ := rawP_vals hk hf hfJ
  refine ⟨timesP (RP M n) f (JP M n) 0 1, a1, ?_, by rw [a4 f hfJ, if_pos rfl], fun c hc hne => by rw [a4 c hc, if_neg hne], a5⟩
  have h9 := Int.le_of_dvd (by omega) a2
  have h8 : timesP (RP M n) f (JP M n) 0 1 ≤ (d : Int) := h9
  omega

theorem MaskOk.raw_ker {M : List (List Int)} {n : Nat} (h : MaskOk M n) {f : Nat} (hf : f < n) (hfJ : f ∉ JP M n) : IsKer M n (vec (rawP (RP M n) (JP M n) n f)) := by
  obtain ⟨t, ht, _, h1, h2, h3⟩ := h.raw hf hfJ
  rw [h.ker_iff]
  intro k hk
  rw [h.dot_row _ hk]
  have : sm (fun c => if c ∈ JP M n then 0 else rowv (RP M n) k c * vec (rawP (RP M n) (JP M n) n f) c) n = rowv (RP M n) k f * t := by
    rw [sm_single hf (fun c _ hne => ?_), if_neg hfJ, h1]
    by_cases hc : c ∈ JP M n
    · rw [if_pos hc]
    · rw [if_neg hc, h2 c hc hne]; simp
  rw [this]
  have := h3 k hk
  grind

theorem IsKer.short {M : List (List Int)} {n : Nat} {l : List Int} (h : IsKer M n (vec l)) : IsKer M n (vec (shortF l)) := by
  obtain ⟨g, hg, e⟩ := shortF_mul l
  intro q hq
  have := h q hq
  unfold dotS at *
  rw [sm_congr (g := fun c => g * (rowv M q c * vec (shortF l) c)) (fun c _ => by rw [← e c]; grind), sm_mul] at this
  exact eq_zero_of_mul (g := g) (by omega) this

theorem shortF_le (l : List Int) (c : Nat) : (vec (shortF l) c).natAbs ≤ (vec l c).natAbs := by
  obtain ⟨g, hg, e⟩ := shortF_mul l
  rw [← e c, Int.natAbs_mul]
  exact Nat.le_mul_of_pos_left _ (by omega)

/-- the kernel's vectors: kernel vectors, not greater than a million, not 0 -/
theorem MaskOk.kern {M : List (List Int)} {n : Nat} (h : MaskOk M n) {l : List Int} (hl : l ∈ kernP (RP M n) (JP M n) n) :
    IsKer M n (vec l) ∧ l.length = n ∧ (∀ c, (vec l c).natAbs ≤ 518400) ∧ ∃ f, f < n ∧ 0 < vec l f := by
  unfold kernP at hl
  obtain ⟨f, hf, rfl⟩ := List.mem_map.1 hl
  obtain ⟨hf1, hf2⟩ := List.mem_filter.1 hf
  have hfn : f < n := by simpa using hf1
  have hfJ : f ∉ JP M n := by simpa using hf2
  obtain ⟨t, ht, ht2, h1, h2, h3⟩ := h.raw hfn hfJ
  refine ⟨(h.raw_ker hfn hfJ).short, by unfold kerP rawP; rw [shortF_len, fillF_len]; simp, fun c => ?_, f, hfn, short_pos (by rw [h1]; exact ht)⟩
  refine Nat.le_trans (shortF_le _ c) ?_
  by_cases hc : c ∈ JP M n
  · obtain ⟨i, hi, rfl⟩ := mem_jf hc
    have e := h3 i hi
    have hp : 0 < rowv (RP M n) i (jf (JP M n) i) := ((h.inv n).pp i hi).2
    have hb := h.rp_le i f
    have e2 := congrArg Int.natAbs e
    rw [Int.natAbs_mul, Int.natAbs_mul, Int.natAbs_neg] at e2
    have h5 : (vec (rawP (RP M n) (JP M n) n f) (jf (JP M n) i)).natAbs ≤ (rowv (RP M n) i f).natAbs * t.natAbs := by
      rw [← e2]; exact Nat.le_mul_of_pos_right _ (by omega)
    refine Nat.le_trans h5 ?_
    show _ ≤ 720 * 720
    exact Nat.mul_le_mul (by unfold rowv; omega) (by omega)
  · by_cases e : c = f
    · subst e; rw [h1]; omega
    · rw [h2 c hc e]; simp

/-- with one free column each kernel vector is a multiple -/
theorem MaskOk.ker_one {M : List (List Int)} {n : Nat} (h : MaskOk M n) {f : Nat} (hf : freeF (JP M n) n = [f]) {v : Vec} (hv : IsKer M n v) {c : Nat} (hc : c < n) :
    v c * vec (rawP (RP M n) (JP M n) n f) f = vec (rawP (RP M n) (JP M n) n f) c * v f := by
  have hfm : f ∈ freeF (JP M n) n := by rw [hf]; simp
  obtain ⟨hf1, hf2⟩ := List.mem_filter.1 hfm
  have hfn : f < n := by simpa using hf1
  have hfJ : f ∉ JP M n := by simpa using hf2
  obtain ⟨t, ht, ht2, h1, h2, h3⟩ := h.raw hfn hfJ
  have only : ∀ c, c < n → c ∉ JP M n → c = f := fun c hc hcJ => by
    have : c ∈ freeF (JP M n) n := List.mem_filter.2 ⟨by simpa using hc, by simpa using hcJ⟩
    rw [hf] at this; simpa using this
  rw [h1]
  by_cases hcJ : c ∈ JP M n
  · obtain ⟨i, hi, rfl⟩ := mem_jf hcJ
    have hk := h.ker_iff.1 hv i hi
    rw [h.dot_row _ hi, sm_single hfn (fun c hc hne => by
      by_cases e : c ∈ JP M n
      · rw [if_pos e]
      · exact absurd (only c hc e) hne), if_neg hfJ] at hk
    have hp : 0 < rowv (RP M n) i (jf (JP M n) i) := ((h.inv n).pp i hi).2
    have e := h3 i hi
    refine Int.eq_of_mul_eq_mul_right (show rowv (RP M n) i (jf (JP M n) i) ≠ 0 by omega) ?_
    have e1 : rowv (RP M n) i (jf (JP M n) i) * v (jf (JP M n) i) = - (rowv (RP M n) i f * v f) := by omega
    calc v (jf (JP M n) i) * t * rowv (RP M n) i (jf (JP M n) i) = (rowv (RP M n) i (jf (JP M n) i) * v (jf (JP M n) i)) * t := by grind
      _ = - (rowv (RP M n) i f * v f) * t := by rw [e1]
      _ = (-(rowv (RP M n) i f) * t) * v f := by grind
      _ = _ := by rw [← e]; grind
  · have := only c hc hcJ
    subst this
    rw [h1]; exact Int.mul_comm _ _
end

section
set_option linter.unusedVariables false

theorem MaskOk.rank_ker {M : List (List Int)} {n : Nat} (h : MaskOk M n) : rankF M n + (kernP (RP M n) (JP M n) n).length = n := by
  obtain ⟨d, d1, d2, hk⟩ := pRed_ok (n := n) h.wid h.le6 (fun r hr c _ => h.one r hr c)
  unfold kernP
  rw [List.length_map]
  have := free_len hk.nodup hk.lt
  rw [Nat.add_comm]
  exact this
end
end Go.Proofs.Ytfipebkhomppmaa
