/- Plain: the least set of cells, as the reference looks for it; walk: before. -/
import Derived.Test.YtdcflpfaaeijoaaBitAQ
namespace Go.Proofs.Ytdcflpfaaeijoaa
open Go.RowKit Go.Maps
set_option linter.unusedVariables false

def bitsN (n s : Nat) : List Nat := (List.range n).filter fun i => s.testBit i
def allW (ms : List Nat) (s : Nat) : Bool := ms.all fun m => (m &&& s) != 0
def bestS (ms : List Nat) (n : Nat) : Nat → Option (List Nat)
  | 0 => none
  | k + 1 => if allW ms k && (match bestS ms n k with | none => true | some b => befN (bitsN n k) b) then some (bitsN n k) else bestS ms n k

theorem bestS_no (ms : List Nat) (n k : Nat) (h : allW ms k = false) : bestS ms n (k + 1) = bestS ms n k := by rw [bestS, h]; rfl
theorem bestS_first (ms : List Nat) (n k : Nat) (h : allW ms k = true) (hb : bestS ms n k = none) : bestS ms n (k + 1) = some (bitsN n k) := by rw [bestS, h, hb]; rfl
theorem bestS_new (ms : List Nat) (n k : Nat) (h : allW ms k = true) {b : List Nat} (hb : bestS ms n k = some b) (hf : befN (bitsN n k) b = true) : bestS ms n (k + 1) = some (bitsN n k) := by
  rw [bestS, h, hb]; simp only [hf]; rfl
theorem bestS_old (ms : List Nat) (n k : Nat) {b : List Nat} (hb : bestS ms n k = some b) (hf : befN (bitsN n k) b = false) : bestS ms n (k + 1) = some b := by
  rw [bestS, hb]; simp only [hf, Bool.and_false]; rfl

theorem befN_trans {a b c : List Nat} (h1 : befN a b = true) (h2 : befN b c = true) : befN a c = true := by
  unfold befN at h1 h2 ⊢
  by_cases e1 : a.length = b.length
  · rw [if_pos e1] at h1
    by_cases e2 : b.length = c.length
    · rw [if_pos e2] at h2
      rw [if_pos (by omega)]
      exact lexN_trans a b c h1 h2
    · rw [if_neg e2] at h2
      rw [if_neg (by omega)]
      simp at h2 ⊢; omega
  · rw [if_neg e1] at h1
    simp at h1
    by_cases e2 : b.length = c.length
    · rw [if_neg (by omega)]; simp; omega
    · rw [if_neg e2] at h2
      simp at h2
      rw [if_neg (by omega)]; simp; omega

theorem bestS_spec (ms : List Nat) (n : Nat) : ∀ k, (bestS ms n k = none → ∀ s, s < k → allW ms s = false) ∧
    (∀ b, bestS ms n k = some b → ∃ s0, s0 < k ∧ allW ms s0 = true ∧ b = bitsN n s0 ∧ ∀ s, s < k → allW ms s = true → befN (bitsN n s) b = false)
  | 0 => ⟨fun _ s hs => by omega, fun b h => by cases h⟩
  | k + 1 => by
    obtain ⟨h1, h2⟩ := bestS_spec ms n k
    cases ha : allW ms k
    · rw [bestS_no ms n k ha]
      refine ⟨fun h s hs => ?_, fun b h => ?_⟩
      · by_cases e : s = k
        · subst e; exact ha
        · exact h1 h s (by omega)
      · obtain ⟨s0, q1, q2, q3, q4⟩ := h2 b h
        refine ⟨s0, by omega, q2, q3, fun s hs hw => ?_⟩
        by_cases e : s = k
        · subst e; rw [ha] at hw; cases hw
        · exact q4 s (by omega) hw
    · cases hb : bestS ms n k with
      | none =>
        rw [bestS_first ms n k ha hb]
        refine ⟨fun h => (by cases h), fun b h => ?_⟩
        cases h
        refine ⟨k, by omega, ha, rfl, fun s hs hw => ?_⟩
        by_cases e : s = k
        · subst e; unfold befN; rw [if_pos rfl]; exact lexN_irrefl _
        · have := h1 hb s (by omega)
          rw [hw] at this; cases this
      | some b0 =>
        obtain ⟨s0, q1, q2, q3, q4⟩ := h2 b0 hb
        cases hbf : befN (bitsN n k) b0
        · rw [bestS_old ms n k hb hbf]
          refine ⟨fun h => (by cases h), fun b h => ?_⟩
          cases h
          refine ⟨s0, by omega, q2, q3, fun s hs hw => ?_⟩
          by_cases e : s = k
          · subst e; exact hbf
          · exact q4 s (by omega) hw
        · rw [bestS_new ms n k ha hb hbf]
          refine ⟨fun h => (by cases h), fun b h => ?_⟩
          cases h
          refine ⟨k, by omega, ha, rfl, fun s hs hw => ?_⟩
          by_cases e : s = k
          · subst e; unfold befN; rw [if_pos rfl]; exact lexN_irrefl _
          · have h4 := q4 s (by omega) hw
            cases hc : befN (bitsN n s) (bitsN n k)
            · rfl
            · rw [befN_trans hc hbf] at h4; cases h4

theorem Inc_filter (n : Nat) (p : Nat → Bool) : ∀ (k f g : Nat), f + k = n → g ≤ f → Inc n g ((List.range' f k).filter p)
  | 0, f, g, _, _ => by simp [Inc]
  | k + 1, f, g, h, hg => by
    rw [List.range'_succ, List.filter_cons]
    split
    · exact ⟨hg, by omega, Inc_filter n p k (f + 1) (f + 1) (by omega) (Nat.le_refl _)⟩
    · exact Inc_filter n p k (f + 1) g (by omega) (by omega)
theorem bitsN_inc (n s : Nat) : Inc n 0 (bitsN n s) := by
  unfold bitsN
  rw [List.range_eq_range']
  exact Inc_filter n _ n 0 0 (by omega) (Nat.le_refl _)
theorem bitsN_len (n s : Nat) : (bitsN n s).length ≤ n := by
  unfold bitsN
  exact Nat.le_trans (List.length_filter_le _ _) (by simp)

theorem testBit_big {n s i : Nat} (hs : s < 2 ^ n) (h : s.testBit i = true) : i < n := by
  rcases Nat.lt_or_ge i n with h' | h'
  · exact h'
  · have : s < 2 ^ i := Nat.lt_of_lt_of_le hs (Nat.pow_le_pow_right (by omega) h')
    rw [Nat.testBit_lt_two_pow this] at h; cases h

theorem maskL_bits {n s : Nat} (hs : s < 2 ^ n) : maskL (bitsN n s) = s := by
  apply Nat.eq_of_testBit_eq
  intro i
  rw [maskL_bit]
  unfold bitsN
  cases h : s.testBit i
  · simp [h]
  · have := testBit_big hs h
    simp [h, this]

theorem Inc_list (n : Nat) : ∀ (k f : Nat) (t : List Nat), f + k = n → Inc n f t → (List.range' f k).filter (fun i => decide (i ∈ t)) = t
  | 0, f, t, h, hi => by
    cases t with
    | nil => rfl
    | cons j t => have := hi.1; have := hi.2.1; omega
  | k + 1, f, t, h, hi => by
    rw [List.range'_succ, List.filter_cons]
    cases t with
    | nil => simp
    | cons j t1 =>
      obtain ⟨j1, j2, j3⟩ := hi
      by_cases e : j = f
      · subst e
        rw [if_pos (by simp)]
        congr 1
        rw [← Inc_list n k (j + 1) t1 (by omega) j3]
        conv => rhs; rw [Inc_list n k (j + 1) t1 (by omega) j3]
        conv => rhs; rw [← Inc_list n k (j + 1) t1 (by omega) j3]
        apply List.filter_congr
        intro i hi
        have hij : i ≠ j := by have := List.mem_range'_1.1 hi; omega
        rw [Inc_list n k (j + 1) t1 (by omega) j3]
        simp [hij]
      · rw [if_neg]
        · exact Inc_list n k (f + 1) (j :: t1) (by omega) ⟨by omega, j2, j3⟩
        · intro hm
          simp at hm
          rcases hm with hm | hm
          · exact e hm.symm
          · have := (Inc_lt j3 f hm).1; omega

theorem bits_maskL {n : Nat} {t : List Nat} (h : Inc n 0 t) : bitsN n (maskL t) = t := by
  have := Inc_list n n 0 t (by omega) h
  unfold bitsN
  rw [List.range_eq_range']
  conv => rhs; rw [← this]
  apply List.filter_congr
  intro i _
  rw [maskL_bit]
theorem maskL_lt {n : Nat} {t : List Nat} (h : Inc n 0 t) : maskL t < 2 ^ n := by
  apply Nat.lt_pow_two_of_testBit
  intro i hi
  rw [maskL_bit]
  simp
  intro hm
  have := (Inc_lt h i hm).2
  omega

theorem allW_clB (l : List Cel) (xs : List (List Int)) {s : Nat} (hs : s < 2 ^ l.length) : allW (xs.map fun x => wmask l x l.length) s = clB l xs s := by
  unfold allW clB
  rw [List.all_map]
  congr 1
  funext x
  show ((wmask l x l.length &&& s) != 0) = ((fmask l x l.length &&& s) != s)
  rw [Bool.eq_iff_iff]
  simp only [bne_iff_ne, ne_eq, sub_iff]
  have key : (wmask l x l.length &&& s) = 0 ↔ ∀ i, s.testBit i = true → (wmask l x l.length).testBit i = false := by
    constructor
    · intro h i hi
      have : (wmask l x l.length &&& s).testBit i = false := by rw [h]; simp
      rw [Nat.testBit_and, hi, Bool.and_true] at this
      exact this
    · intro h
      apply Nat.eq_of_testBit_eq
      intro i
      rw [Nat.testBit_and]
      cases hb : s.testBit i
      · simp
      · simp [h i hb]
  rw [key]
  refine not_congr (forall_congr' fun i => forall_congr' fun hi => ?_)
  have hil := testBit_big hs hi
  rw [wmask_bit, fmask_bit]
  simp [hil]

/-- what the reference finds is what package bit finds -/
theorem bestS_clash (l : List Cel) (xs : List (List Int)) {t : List Nat} (h : clashT l xs = some t) : bestS (xs.map fun x => wmask l x l.length) l.length (2 ^ l.length) = some t := by
  obtain ⟨q1, q2, q3, q4⟩ := clashT_spec l xs h
  obtain ⟨b1, b2⟩ := bestS_spec (xs.map fun x => wmask l x l.length) l.length (2 ^ l.length)
  have hlt := maskL_lt q1
  have haw : allW (xs.map fun x => wmask l x l.length) (maskL t) = true := by rw [allW_clB l xs hlt]; exact q3
  cases hb : bestS (xs.map fun x => wmask l x l.length) l.length (2 ^ l.length) with
  | none =>
    have := b1 hb _ hlt
    rw [haw] at this; cases this
  | some b =>
    obtain ⟨s0, r1, r2, r3, r4⟩ := b2 b hb
    have h4 := r4 _ hlt haw
    rw [bits_maskL q1] at h4
    rw [allW_clB l xs r1] at r2
    have hq := q4 b (by rw [r3]; exact bitsN_inc _ _) (by rw [r3]; exact bitsN_len _ _) (by rw [r3, maskL_bits r1]; exact r2)
    have h5 : befN b t = false := by
      unfold befN
      rcases hq with hq | ⟨hq, hl⟩
      · rw [if_neg (by omega)]; simp; omega
      · rw [if_pos hq]; exact hl
    rw [befN_total h4 h5]

theorem pair_at {A B : List Nat} : ∀ k, k ≤ A.length → A.length = B.length → (∀ j, j < k → A[j]? = B[j]?) → lexN A B = lexN (A.drop k) (B.drop k)
  | 0, _, _, _ => by simp
  | k + 1, h, he, hj => by
    rw [pair_at k (by omega) he (fun j hj' => hj j (by omega))]
    have hA : k < A.length := by omega
    have hB : k < B.length := by omega
    rw [List.drop_eq_getElem_cons hA, List.drop_eq_getElem_cons hB]
    have := hj k (by omega)
    rw [List.getElem?_eq_getElem hA, List.getElem?_eq_getElem hB] at this
    rw [lexN, if_pos (Option.some.inj this)]

set_option maxRecDepth 100000 in
theorem before_c (w : World) (a b : Option Addr) (n c m c' : Nat) (A B : List Nat) (hA : A.length = n) (hB : B.length = m) (hn : n ≤ maxLen) (hm : m ≤ maxLen) (H : IntsAt w a (A.map fun i : Nat => (i : Int))) (H2 : IntsAt w b (B.map fun i : Nat => (i : Int))) :
    Calls Try.prog 84 #[.slice a n c, .slice b m c'] w fun e w' => e = .returned (.bool (befN A B)) ∧ Below w.heap.size w w' := by
  have HA := hid hA
  have HB := hid hB
  have HH := hid H
  have HH2 := hid H2
  unfold maxLen at hn hm
  by_cases hnm : n = m
  · obtain rfl := hnm
    have HE := hid (show befN A B = lexN A B by unfold befN; rw [if_pos (by omega)])
    have HP := hid (fun k (hk : k ≤ n) (h : ∀ j, j < k → A[j]? = B[j]?) => pair_at (A := A) (B := B) k (by omega) (by omega) h)
    have hne : ((n : Int) != (n : Int)) = false := by simp
    clear hA hB H H2
    go_enter Try.func84, Try.ntmps84
    go_wp2
    go_loopw [18] (fun i wr => ∃ k : Nat, k ≤ n ∧ i = .int .i64 k ∧ Below w.heap.size w wr ∧ Hid (∀ j, j < k → A[j]? = B[j]?)) (fun i _ => n - (intOf i).toNat)
    case atStart => exact ⟨0, Nat.zero_le _, rfl, Below.refl _ _, hid fun j hj => by omega⟩
    case round =>
      obtain ⟨k, hk, rfl, hb, HJ⟩ := hrel
      by_cases hlt : k < n
      · have hkA : k < A.length := by rw [HA.out]; exact hlt
        have hkB : k < B.length := by rw [HB.out]; exact hlt
        obtain ⟨b1, o1, rfl, hs1, h1⟩ := (HH.out.below hb) k (by rw [List.length_map]; exact hkA)
        obtain ⟨b2, o2, rfl, hs2, h2⟩ := (HH2.out.below hb) k (by rw [List.length_map]; exact hkB)
        have e1 : ((A.map fun i : Nat => (i : Int))[k]?.getD 0) = ((A[k] : Nat) : Int) := by rw [List.getElem?_map, List.getElem?_eq_getElem hkA]; rfl
        have e2 : ((B.map fun i : Nat => (i : Int))[k]?.getD 0) = ((B[k] : Nat) : Int) := by rw [List.getElem?_map, List.getElem?_eq_getElem hkB]; rfl
        rw [e1] at h1
        rw [e2] at h2
        obtain ⟨x, hx⟩ : ∃ x, x = A[k] := ⟨_, rfl⟩
        obtain ⟨y, hy⟩ : ∃ y, y = B[k] := ⟨_, rfl⟩
        rw [← hx] at h1
        rw [← hy] at h2
        have HX := hid (show A[k]? = some x by rw [List.getElem?_eq_getElem hkA, hx])
        have HY := hid (show B[k]? = some y by rw [List.getElem?_eq_getElem hkB, hy])
        have HL := hid (show lexN A B = lexN (x :: A.drop (k + 1)) (y :: B.drop (k + 1)) by rw [HP.out k hk HJ.out, List.drop_eq_getElem_cons hkA, List.drop_eq_getElem_cons hkB, hx, hy])
        clear e1 e2 hx hy
        by_cases hxy : x = y
        · have hne2 : ((x : Int) != (y : Int)) = false := by simp [hxy]
          have HXY := hid hxy
          clear hxy
          go_wp2
          go_quiet (fail)
          go_wp2
          refine ⟨⟨k + 1, by omega, by go_num, below_drewN hb _, hid fun j hj => ?_⟩, meas hlt⟩
          by_cases e : j = k
          · subst e; rw [HX.out, HY.out, HXY.out]
          · exact HJ.out j (by omega)
        · have hne2 : ((x : Int) != (y : Int)) = true := by simp; exact fun h => hxy (by exact_mod_cast h)
          have HXY := hid hxy
          clear hxy
          go_wp2
          go_quiet (fail)
          go_wp2
          go_quiet (fail)
          go_wp2
          go_ret
          refine ⟨ret_bool ?_, below_drewN (below_drewN hb _) _⟩
          rw [HE.out, HL.out, lexN, if_neg HXY.out]
          try simp
      · obtain rfl : k = n := by omega
        go_wp2
        go_ret
        refine ⟨ret_bool ?_, hb⟩
        rw [HE.out, HP.out k (Nat.le_refl _) HJ.out, List.drop_eq_nil_of_le (by rw [HA.out]; exact Nat.le_refl _)]
        rfl
  · have HE := hid (show befN A B = decide (n < m) by unfold befN; rw [if_neg (by omega), HA.out, HB.out])
    have hne : ((n : Int) != (m : Int)) = true := by simp; omega
    clear hA hB H H2
    go_enter Try.func84, Try.ntmps84
    go_wp2
    go_ret
    refine ⟨ret_bool ?_, Below.refl _ _⟩
    rw [HE.out]
    try simp
end Go.Proofs.Ytdcflpfaaeijoaa
