/- Walks and plain laws for BitTextsRow, part 1. -/
import Derived.Test.YtofcpmfbeobgiaaDoorRows
import Derived.WalkKit
import Derived.BigQuiet
import Derived.Deep.QuietTactic
import Derived.Shelf.Abstract
import Derived.Deep.OwnRows
import Derived.Lib.Strings
import Derived.Lib.SplitLaws
import Derived.Lib.AtoiAll
import Derived.Lib.ItoaMem
import Derived.Lib.IndexLaws
import Derived.RangeFuncNested
import Derived.RangeFuncBound
import Derived.RangeFuncCalls
import Derived.RangeFuncLeaves
import Derived.Shelf.RegionOpen
import Derived.OwnWalkIn
import Derived.TacticsInMore
import Derived.LoopNIn
import Derived.LoopIn
import Derived.Below
import Derived.Sort.QuietIn
import Derived.Sort.LoopGhostIn
import Derived.Sort.CutIn
import Derived.Deep.RegionHeld3
namespace Go.Proofs.YtofcpmfbeobgiaaDoor
open Go.RowKit
set_option linter.unusedVariables false

def Stop (P : Prop) : Prop := P
theorem Stop.of {P : Prop} (h : Stop P) : P := h
theorem Stop.go {P : Prop} (h : P) : Stop P := h
theorem hid {p : Prop} (h : p) : Hid p := h

def IntsAt (w : World) (a : Option Addr) (l : List Int) : Prop :=
  ∀ j, j < l.length → ∃ b off, a = some ⟨b, off, none⟩ ∧ b < w.heap.size ∧ w.cell? ⟨b, off + j, none⟩ = some (.int .i64 (l[j]?.getD 0))

theorem IntsAt.below {w w' : World} {a : Option Addr} {l : List Int} (h : IntsAt w a l) (hb : Below w.heap.size w w') : IntsAt w' a l := by
  intro j hj
  obtain ⟨b, off, e, hlt, hc⟩ := h j hj
  exact ⟨b, off, e, Nat.lt_of_lt_of_le hlt hb.size, (hb.cell (p := ⟨b, off + j, none⟩) hlt).trans hc⟩

theorem chain {a b c : World} (h : Below a.heap.size a b) (k : Below b.heap.size b c) : Below a.heap.size a c := h.trans (k.mono h.size)

theorem below_drewN {B : Nat} {a w : World} (h : Below B a w) (n : Nat) : Below B a (w.drewN n) := ⟨h.os, h.tape, h.output, h.size, h.block⟩

theorem bcell {W w1 : World} (hb : Below W.heap.size W w1) : (∀ b o, b < W.heap.size → w1.cell? ⟨b, o, none⟩ = W.cell? ⟨b, o, none⟩) ∧ (∀ b o, b < W.heap.size → w1.frozen? ⟨b, o, none⟩ = W.frozen? ⟨b, o, none⟩) :=
  ⟨fun b o h => hb.cell (p := ⟨b, o, none⟩) h, fun b o h => hb.frozen (p := ⟨b, o, none⟩) h⟩

theorem meas {n k : Nat} (h : k < n) : n - (intOf (.int .i64 ((k : Int) + 1))).toNat < n - (intOf (.int .i64 (k : Int))).toNat := by simp [intOf]; omega
theorem cast1 (k : Nat) : Value.int .i64 ((k : Int) + 1) = Value.int .i64 ((k + 1 : Nat) : Int) := by congr 1

theorem ret_int {k : IntKind} {a b : Int} (h : a = b) : Ending.returned (.int k a) = .returned (.int k b) := by rw [h]
theorem ret_bool {a b : Bool} (h : a = b) : Ending.returned (.bool a) = .returned (.bool b) := by rw [h]

def idxP {α : Type} (p : α → Bool) : List α → Nat → Int
  | [], _ => -1
  | x :: l, k => if p x then (k : Int) else idxP p l (k + 1)

theorem idxP_neg {α : Type} (p : α → Bool) : ∀ (l : List α) (k : Nat), (∀ x ∈ l, p x = false) → idxP p l k = -1
  | [], _, _ => rfl
  | x :: l, k, h => by
    unfold idxP
    rw [if_neg (by rw [h x (by simp)]; simp), idxP_neg p l (k + 1) (fun y hy => h y (by simp [hy]))]

theorem idxP_at {α : Type} (p : α → Bool) : ∀ (l : List α) (k j : Nat) (x : α), l[j]? = some x → p x = true → (∀ i y, i < j → l[i]? = some y → p y = false) → idxP p l k = ((k + j : Nat) : Int)
  | [], _, j, x, h, _, _ => by simp at h
  | y :: l, k, 0, x, h, hp, _ => by
    simp at h; subst h; unfold idxP; rw [if_pos hp]; simp
  | y :: l, k, j + 1, x, h, hp, hn => by
    have h0 := hn 0 y (by omega) rfl
    unfold idxP
    rw [if_neg (by rw [h0]; simp), idxP_at p l (k + 1) j x (by simpa using h) hp (fun i z hi hz => hn (i + 1) z (by omega) (by simpa using hz))]
    congr 1; omega

theorem idxP_ge {α : Type} (p : α → Bool) : ∀ (l : List α) (k : Nat), (0 ≤ idxP p l k) = (l.any p = true)
  | [], k => by simp [idxP]
  | x :: l, k => by
    unfold idxP
    by_cases h : p x = true
    · simp [h]
    · rw [if_neg h, idxP_ge p l (k + 1)]; simp [h]

def PredI (P : Program) (g : Nat) (lb : Array Value) (w : World) (p : Int → Bool) : Prop :=
  ∀ (x : Int) (W : World), Below w.heap.size w W → Calls P g (#[.int .i64 x] ++ lb) W fun e W' => e = .returned (.bool (p x)) ∧ Below W.heap.size W W'

theorem getD_lt {l : List Int} {k : Nat} (h : k < l.length) : l[k]? = some (l[k]?.getD 0) := by
  simp [List.getElem?_eq_getElem h]

structure Cel where
  row : List Int
  lo : Int
  hi : Int

def CelV (w : World) (v : Value) (c : Cel) : Prop :=
  ∃ ra n cap, v = .agg #[.slice ra n cap, .int .i64 c.lo, .int .i64 c.hi] ∧ c.row.length = n ∧ n ≤ maxLen ∧ IntsAt w ra c.row

theorem CelV.below {w w' : World} {v : Value} {c : Cel} (h : CelV w v c) (hb : Below w.heap.size w w') : CelV w' v c := by
  obtain ⟨ra, n, cap, e, hn, hm, hi⟩ := h
  exact ⟨ra, n, cap, e, hn, hm, hi.below hb⟩

def CellsAt (w : World) (a : Option Addr) (l : List Cel) : Prop :=
  ∀ j (hj : j < l.length), ∃ b off ra n cap, a = some ⟨b, off, none⟩ ∧ b < w.heap.size ∧
    w.cell? ⟨b, off + j * 3, none⟩ = some (.slice ra n cap) ∧ w.cell? ⟨b, off + j * 3 + 1, none⟩ = some (.int .i64 l[j].lo) ∧ w.cell? ⟨b, off + j * 3 + 2, none⟩ = some (.int .i64 l[j].hi) ∧
    l[j].row.length = n ∧ n ≤ maxLen ∧ IntsAt w ra l[j].row

theorem CellsAt.below {w w' : World} {a : Option Addr} {l : List Cel} (h : CellsAt w a l) (hb : Below w.heap.size w w') : CellsAt w' a l := by
  intro j hj
  obtain ⟨b, off, ra, n, cap, e, hlt, h0, h1, h2, hn, hm, hi⟩ := h j hj
  exact ⟨b, off, ra, n, cap, e, Nat.lt_of_lt_of_le hlt hb.size, (hb.cell (p := ⟨b, _, none⟩) hlt).trans h0, (hb.cell (p := ⟨b, _, none⟩) hlt).trans h1, (hb.cell (p := ⟨b, _, none⟩) hlt).trans h2, hn, hm, hi.below hb⟩

def PredC (P : Program) (g : Nat) (lb : Array Value) (w : World) (ok : Cel → Prop) (p : Cel → Bool) : Prop :=
  ∀ (c : Cel) (v : Value) (W : World), ok c → Below w.heap.size w W → CelV W v c → Calls P g (#[v] ++ lb) W fun e W' => e = .returned (.bool (p c)) ∧ Below W.heap.size W W'
end Go.Proofs.YtofcpmfbeobgiaaDoor

namespace Go.Proofs.YtofcpmfbeobgiaaDoor
open Go Go.Lib
set_option linter.unusedVariables false

def undec (l : List UInt8) : Nat := l.foldl (fun a d => a * 10 + (d.toNat - 48)) 0
theorem dig8 {k : Nat} (h : k < 10) : (UInt8.ofNat (48 + k)).toNat = 48 + k := by
  rw [UInt8.toNat_ofNat_of_lt']; show 48 + k < 256; omega
theorem undec_dec (u : Nat) : undec (Lib.decDigits u) = u := by
  induction u using Nat.strongRecOn with
  | _ u ih =>
    rw [Lib.decDigits]
    split
    · rename_i h
      simp only [undec, List.foldl_cons, List.foldl_nil, dig8 h]; omega
    · rename_i h
      have h1 := ih (u / 10) (by omega)
      unfold undec at h1 ⊢
      rw [List.foldl_append, h1]
      simp only [List.foldl_cons, List.foldl_nil, dig8 (Nat.mod_lt u (show 10 > 0 by omega))]; omega
theorem dec_mem (u : Nat) : ∀ d ∈ Lib.decDigits u, 48 ≤ d.toNat ∧ d.toNat ≤ 57 := by
  induction u using Nat.strongRecOn with
  | _ u ih =>
    rw [Lib.decDigits]
    split
    · rename_i h
      intro d hd
      simp only [List.mem_singleton] at hd
      subst hd
      rw [dig8 h]; omega
    · rename_i h
      intro d hd
      rcases List.mem_append.1 hd with hd | hd
      · exact ih (u / 10) (by omega) d hd
      · simp only [List.mem_singleton] at hd
        subst hd
        have := Nat.mod_lt u (show 10 > 0 by omega)
        rw [dig8 this]; omega
theorem dec_ne (u : Nat) : Lib.decDigits u ≠ [] := by
  rw [Lib.decDigits]
  split <;> simp
theorem itoa_mem (n : Int) : ∀ d ∈ Lib.itoa n, d.toNat = 45 ∨ (48 ≤ d.toNat ∧ d.toNat ≤ 57) := by
  intro d hd
  unfold Lib.itoa at hd
  split at hd
  · rcases List.mem_cons.1 hd with rfl | hd
    · left; rfl
    · right; exact dec_mem _ d hd
  · right; exact dec_mem _ d hd
theorem itoa_no (n : Int) (c : UInt8) (h : c.toNat < 45) : c ∉ Lib.itoa n := by
  intro hc
  have := itoa_mem n c hc
  omega
theorem dec_fold_le (l : List UInt8) : ∀ (acc : Nat), acc ≤ l.foldl (fun a d => a * 10 + (d.toNat - 48)) acc := by
  induction l with
  | nil => intro acc; exact Nat.le_refl _
  | cons d l ih =>
    intro acc
    rw [List.foldl_cons]
    have := ih (acc * 10 + (d.toNat - 48))
    omega
theorem parse_dec : ∀ (l : List UInt8) (acc : Nat), (∀ d ∈ l, 48 ≤ d.toNat ∧ d.toNat ≤ 57) → l.foldl (fun a d => a * 10 + (d.toNat - 48)) acc < 18446744073709551616 → parseUint10 acc l = .ok (l.foldl (fun a d => a * 10 + (d.toNat - 48)) acc)
  | [], acc, _, _ => rfl
  | d :: l, acc, hd, h => by
    have h1 := hd d (by simp)
    rw [List.foldl_cons] at h ⊢
    have h2 := dec_fold_le l (acc * 10 + (d.toNat - 48))
    rw [parseUint10, if_pos h1, if_neg (by omega), if_neg (by omega)]
    exact parse_dec l _ (fun x hx => hd x (by simp [hx])) h
theorem parse_num (u : Nat) (h : u < 18446744073709551616) : parseMag (decDigits u) = .ok u := by
  have e : (decDigits u).foldl (fun a d => a * 10 + (d.toNat - 48)) 0 = u := undec_dec u
  unfold parseMag
  rw [if_neg (dec_ne u), parse_dec _ 0 (dec_mem u) (by rw [e]; exact h), e]
theorem atoi_itoa (n : Int) (h0 : -9223372036854775808 ≤ n) (h1 : n ≤ 9223372036854775807) : atoiAll (itoa n) = .ok n := by
  by_cases hn : n < 0
  · have e : itoa n = 45 :: decDigits (-n).toNat := by
      unfold itoa; rw [if_pos hn]; congr 2; omega
    rw [e]
    unfold atoiAll
    simp only []
    have e2 : ((45 : UInt8).toNat = 43 ∨ (45 : UInt8).toNat = 45) = True := by simp
    simp only [e2, if_true]
    rw [parse_num _ (by omega)]
    simp only []
    rw [if_neg (fun h => h.1 rfl), if_neg (fun h => by have := h.2; omega), if_pos (show UInt8.toNat 45 = 45 from rfl)]
    congr 1; omega
  · have e : itoa n = decDigits n.toNat := by unfold itoa; rw [if_neg hn]
    rw [e]
    rcases hd : decDigits n.toNat with _ | ⟨c, r⟩
    · exact absurd hd (dec_ne _)
    · have hc := dec_mem n.toNat c (by rw [hd]; simp)
      unfold atoiAll
      simp only []
      have e2 : (c.toNat = 43 ∨ c.toNat = 45) = False := by simp; omega
      simp only [e2, if_false]
      rw [← hd, parse_num _ (by omega)]
      simp only []
      rw [if_neg (fun h => by have := h.2; omega), if_neg (fun h => by have := h.1; omega), if_neg (by omega)]
      congr 1; omega
def atV (w : List UInt8) : Int := match atoiAll w with | .ok v => v | .range => atoiSat w | _ => 0
theorem atV_itoa (n : Int) (h0 : -9223372036854775808 ≤ n) (h1 : n ≤ 9223372036854775807) : atV (itoa n) = n := by unfold atV; rw [atoi_itoa n h0 h1]

def wordsF : List UInt8 → List (List UInt8)
  | [] => [[]]
  | b :: r => if b = 32 then [] :: wordsF r else match wordsF r with | [] => [[b]] | w :: ws => (b :: w) :: ws
theorem words_ne (s : List UInt8) : wordsF s ≠ [] := by
  cases s with
  | nil => simp [wordsF]
  | cons b r =>
    unfold wordsF
    split
    · simp
    · split <;> simp
theorem index_cons_ne (b c : UInt8) (l : List UInt8) (h : b ≠ c) : index (b :: l) [c] = if index l [c] == -1 then -1 else index l [c] + 1 := by
  have hp : ([c] : List UInt8).isPrefixOf (b :: l) = false := by simp [List.isPrefixOf, Ne.symm h]
  rw [index, hp]; simp
theorem index_cons_eq (c : UInt8) (l : List UInt8) : index (c :: l) [c] = 0 := by rw [index]; simp [List.isPrefixOf]
theorem split_words : ∀ (s : List UInt8) (k : Nat), s.count 32 ≤ k → splitK [32] 0 k s = wordsF s
  | [], k, _ => by
    cases k with
    | zero => rfl
    | succ k => rw [splitK, if_pos (by simp [index])]; rfl
  | b :: r, k, h => by
    by_cases e : b = 32
    · subst e
      rw [List.count_cons_self] at h
      cases k with
      | zero => omega
      | succ k =>
        rw [splitK, index_cons_eq, if_neg (by simp)]
        simp only [Int.toNat_zero, Nat.add_zero, List.take_zero, List.length_singleton, Nat.zero_add, List.drop_succ_cons, List.drop_zero]
        rw [split_words r k (by omega)]
        simp [wordsF]
    · have hc : (b :: r).count 32 = r.count 32 := List.count_cons_of_ne (by simpa using e)
      rw [hc] at h
      have ih := split_words r k h
      have hw : wordsF (b :: r) = match wordsF r with | [] => [[b]] | w :: ws => (b :: w) :: ws := by rw [wordsF, if_neg e]
      rw [hw, ← ih]
      cases k with
      | zero => rfl
      | succ k =>
        rw [splitK, splitK, index_cons_ne b 32 r e]
        have hge := index_ge r [32]
        by_cases hm : index r [32] = -1
        · simp [hm]
        · have hm1 : ¬ (index r [32] == -1) = true := by simpa using hm
          have hm2 : ¬ (index r [32] + 1 == -1) = true := by simp; omega
          rw [if_neg hm1, if_neg hm2, if_neg hm1]
          obtain ⟨i, hi⟩ : ∃ i : Nat, index r [32] = i := ⟨(index r [32]).toNat, by omega⟩
          rw [hi]
          have e1 : ((i : Int) + 1).toNat = i + 1 := by omega
          rw [e1]
          simp only [Int.toNat_natCast, Nat.add_zero, List.length_singleton, List.take_succ_cons, List.drop_succ_cons]
theorem splitB_words (s : ByteArray) : (splitB ⟨#[32]⟩ 0 (countB s ⟨#[32]⟩) s).map (fun b => b.data.toList) = wordsF s.data.toList := by
  rw [splitB_data]
  have e : countB s ⟨#[32]⟩ = s.data.toList.count 32 := count_one 32 s.data.toList
  rw [e]
  exact split_words _ _ (Nat.le_refl _)
theorem words_app (a r : List UInt8) (h : (32 : UInt8) ∉ a) : wordsF (a ++ 32 :: r) = a :: wordsF r := by
  induction a with
  | nil => simp [wordsF]
  | cons b a ih =>
    have hb : b ≠ 32 := fun e => h (by simp [e])
    have ha : (32 : UInt8) ∉ a := fun e => h (by simp [e])
    rw [List.cons_append, wordsF, if_neg hb, ih ha]
theorem words_one (a : List UInt8) (h : (32 : UInt8) ∉ a) : wordsF a = [a] := by
  induction a with
  | nil => rfl
  | cons b a ih =>
    have hb : b ≠ 32 := fun e => h (by simp [e])
    have ha : (32 : UInt8) ∉ a := fun e => h (by simp [e])
    rw [wordsF, if_neg hb, ih ha]
theorem cut_hit {s sep t r : List UInt8} (h : cut s sep = (t, r, true)) : s = t ++ sep ++ r := by
  unfold cut at h
  split at h
  · rename_i h0
    rcases index_spec s sep with ⟨h1, _⟩ | ⟨i, h1, h2, h3, _⟩
    · omega
    · rw [h1] at h
      simp only [Int.toNat_natCast, Prod.mk.injEq, and_true] at h
      obtain ⟨rfl, rfl⟩ := h
      have h4 := List.isPrefixOf_iff_prefix.1 h3
      obtain ⟨u, hu⟩ := h4
      rw [← List.drop_drop, ← hu]
      simp only [List.drop_left]
      rw [List.append_assoc, hu, List.take_append_drop]
  · cases h
theorem cut_app {a sep b : List UInt8} (h : NoOcc (a ++ sep ++ b) sep a.length) : cut (a ++ sep ++ b) sep = (a, b, true) := by
  have ho : occAt (a ++ sep ++ b) sep a.length = true := by
    unfold occAt
    rw [List.append_assoc, List.drop_left]
    exact List.isPrefixOf_iff_prefix.2 ⟨b, rfl⟩
  have hi := index_hit h (by simp) ho
  unfold cut
  rw [hi, if_pos (by omega)]
  simp only [Int.toNat_natCast]
  rw [← List.length_append, List.drop_left, List.append_assoc, List.take_left]
theorem cut_one (a b : List UInt8) (c : UInt8) (h : c ∉ a) : cut (a ++ c :: b) [c] = (a, b, true) := by
  have e : a ++ c :: b = a ++ [c] ++ b := by simp
  rw [e]
  refine cut_app fun j hj => ?_
  cases ho : occAt (a ++ [c] ++ b) [c] j
  · rfl
  · have h2 := occAt_head rfl ho
    rw [List.append_assoc, List.getElem?_append_left hj] at h2
    exact absurd (List.mem_of_getElem? h2) h
theorem cut_no {s sep t r : List UInt8} (h : cut s sep = (t, r, false)) : t = s ∧ r = [] := by
  unfold cut at h
  split at h
  · cases h
  · simp only [Prod.mk.injEq, and_true] at h
    exact ⟨h.1.symm, h.2.symm⟩
end Go.Proofs.YtofcpmfbeobgiaaDoor

namespace Go.Proofs.YtofcpmfbeobgiaaDoor
open Go.RowKit
set_option linter.unusedVariables false

theorem indexI (w : World) (a : Option Addr) (n cap : Nat) (l : List Int) (hn : l.length = n) (hm : n ≤ maxLen) (H : IntsAt w a l) (g : Nat) (lb : Array Value) (p : Int → Bool)
    (eg : ∀ args w, (callFunc g args).run Tryd.prog w = .ok (.enter g args) w) (hp : PredI Tryd.prog g lb w p) :
    Calls Tryd.prog 69 #[.slice a n cap, .func (.func g) #[] lb] w fun e w' => e = .returned (.int .i64 (idxP p l 0)) ∧ Below w.heap.size w w' := by
  have HN := hid hn
  have HH := hid H
  have HP := hid hp
  clear hn H hp
  unfold maxLen at hm
  go_enter Tryd.func69, Tryd.ntmps69
  go_wp2
  go_loopw [8] (fun i wr => ∃ k : Nat, k ≤ n ∧ i = .int .i64 k ∧ Below w.heap.size w wr ∧ ∀ i y, i < k → l[i]? = some y → p y = false) (fun i _ => n - (intOf i).toNat)
  case atStart => exact ⟨0, Nat.zero_le _, rfl, Below.refl _ _, fun i y h => by omega⟩
  case round =>
    obtain ⟨k, hk, rfl, hb, hno⟩ := hrel
    have HNO := hid hno
    clear hno
    by_cases hlt : k < n
    · obtain ⟨b, off, rfl, hbs, hc⟩ := (HH.out.below hb) k (by rw [HN.out]; exact hlt)
      have hkk := getD_lt (l := l) (k := k) (by rw [HN.out]; exact hlt)
      have HK := hid hkk
      clear hkk
      cases hpx : p (l[k]?.getD 0)
      · go_wp2_with (refine (HP.out _ _ hb).mono ?_; rintro e w1 ⟨rfl, hb1⟩)
        refine ⟨⟨k + 1, by omega, by go_num, chain hb hb1, ?_⟩, by simp [intOf]; omega⟩
        intro i y hi hy
        by_cases e : i = k
        · subst e; rw [HK.out] at hy; cases hy; exact hpx
        · exact HNO.out i y (by omega) hy
      · go_wp2_with (refine (HP.out _ _ hb).mono ?_; rintro e w1 ⟨rfl, hb1⟩)
        go_ret
        refine ⟨ret_int ?_, chain hb hb1⟩
        rw [idxP_at p l 0 k _ HK.out hpx HNO.out]; simp
    · go_wp2
      go_ret
      refine ⟨ret_int ?_, hb⟩
      rw [idxP_neg]
      intro x hx
      obtain ⟨i, hi, e⟩ := List.getElem_of_mem hx
      exact HNO.out i x (by have := HN.out; omega) (by rw [List.getElem?_eq_getElem hi, e])

theorem containsI (w : World) (a : Option Addr) (n cap : Nat) (l : List Int) (hn : l.length = n) (hm : n ≤ maxLen) (H : IntsAt w a l) (g : Nat) (lb : Array Value) (p : Int → Bool)
    (eg : ∀ args w, (callFunc g args).run Tryd.prog w = .ok (.enter g args) w) (hp : PredI Tryd.prog g lb w p) :
    Calls Tryd.prog 50 #[.slice a n cap, .func (.func g) #[] lb] w fun e w' => e = .returned (.bool (l.any p)) ∧ Below w.heap.size w w' := by
  have HC := hid (indexI w a n cap l hn hm H g lb p eg hp)
  have HG := idxP_ge p l 0
  have HG' := hid HG
  clear hn H hp HG
  go_enter Tryd.func50, Tryd.ntmps50
  go_wp2_with (refine HC.out.mono ?_; rintro e w1 ⟨rfl, hb1⟩)
  go_ret
  refine ⟨ret_bool ?_, hb1⟩
  rw [Bool.eq_iff_iff, decide_eq_true_iff, HG'.out]

def inB (n lo hi : Int) : Bool := decide (lo ≤ n) && decide (n ≤ hi)

theorem within_c (n lo hi : Int) (w : World) : Calls Tryd.prog 40 #[.int .i64 n, .int .i64 lo, .int .i64 hi] w fun e w' => e = .returned (.bool (inB n lo hi)) ∧ w = w' := by
  by_cases h1 : lo ≤ n <;> by_cases h2 : n ≤ hi
  all_goals
    go_enter Tryd.func40, Tryd.ntmps40
    go_wp2
    go_ret
    exact ⟨ret_bool (by simp [inB, h1, h2]), rfl⟩

theorem in_c (n lo hi : Int) (w : World) : Calls Tryd.prog 43 #[.int .i64 n, .int .i64 lo, .int .i64 hi] w fun e w' => e = .returned (.bool (inB n lo hi)) ∧ w = w' := by
  by_cases h1 : lo ≤ n <;> by_cases h2 : n ≤ hi
  all_goals
    go_enter Tryd.func43, Tryd.ntmps43
    go_wp2
    go_ret
    exact ⟨ret_bool (by simp [inB, h1, h2]), rfl⟩

theorem validRow1 (w : World) : PredI Tryd.prog 51 #[] w (fun n => !inB n (-1) 1) := by
  intro x W hb
  go_enter Tryd.func51, Tryd.ntmps51
  go_wp2_with (go_at_call 40; refine (within_c _ _ _ _).mono ?_; rintro e w1 ⟨rfl, rfl⟩)
  go_ret
  exact ⟨rfl, Below.refl _ _⟩

def okRow (pixels : Int) (l : List Int) : Bool := decide ((l.length : Int) = pixels) && l.all (fun n => inB n (-1) 1)

theorem validRow_c (w : World) (pixels : Int) (a : Option Addr) (n cap : Nat) (l : List Int) (hn : l.length = n) (hm : n ≤ maxLen) (H : IntsAt w a l) :
    Calls Tryd.prog 32 #[.int .i64 pixels, .slice a n cap] w fun e w' => e = .returned (.bool (okRow pixels l)) ∧ Below w.heap.size w w' := by
  have HC := hid (containsI w a n cap l hn hm H 51 #[] _ (enters_of Tryd.func51 (by kernel_rfl) rfl) (validRow1 w))
  have HN := hid hn
  clear hn H
  by_cases h : (n : Int) = pixels
  · have h' : ((n : Int) == pixels) = true := by simp [h]
    have HQ := hid h
    clear h
    go_enter Tryd.func32, Tryd.ntmps32
    go_wp2_with (refine HC.out.mono ?_; rintro e w1 ⟨rfl, hb1⟩)
    go_ret
    refine ⟨ret_bool ?_, hb1⟩
    unfold okRow; rw [HN.out, decide_eq_true HQ.out]; simp [List.all_eq_not_any_not]
  · have h' : ((n : Int) == pixels) = false := by simp [h]
    go_enter Tryd.func32, Tryd.ntmps32
    go_wp2
    go_ret
    refine ⟨ret_bool ?_, Below.refl _ _⟩
    unfold okRow; rw [HN.out, decide_eq_false h]; simp
end Go.Proofs.YtofcpmfbeobgiaaDoor

namespace Go.Proofs.YtofcpmfbeobgiaaDoor
open Go.RowKit
set_option linter.unusedVariables false

theorem indexC (w : World) (a : Option Addr) (n cap : Nat) (l : List Cel) (hn : l.length = n) (hm : n ≤ maxLen) (H : CellsAt w a l) (g : Nat) (lb : Array Value) (ok : Cel → Prop) (p : Cel → Bool)
    (eg : ∀ args w, (callFunc g args).run Tryd.prog w = .ok (.enter g args) w) (hp : PredC Tryd.prog g lb w ok p) (hok : ∀ c ∈ l, ok c) :
    Calls Tryd.prog 46 #[.slice a n cap, .func (.func g) #[] lb] w fun e w' => e = .returned (.int .i64 (idxP p l 0)) ∧ Below w.heap.size w w' := by
  have HN := hid hn
  have HH := hid H
  have HP := hid hp
  have HO := hid hok
  clear hn H hp hok
  unfold maxLen at hm
  go_enter Tryd.func46, Tryd.ntmps46
  go_wp2
  go_loopw [8] (fun i wr => ∃ k : Nat, k ≤ n ∧ i = .int .i64 k ∧ Below w.heap.size w wr ∧ ∀ i y, i < k → l[i]? = some y → p y = false) (fun i _ => n - (intOf i).toNat)
  case atStart => exact ⟨0, Nat.zero_le _, rfl, Below.refl _ _, fun i y h => by omega⟩
  case round =>
    obtain ⟨k, hk, rfl, hb, hno⟩ := hrel
    have HNO := hid hno
    clear hno
    by_cases hlt : k < n
    · have hkl : k < l.length := by rw [HN.out]; exact hlt
      obtain ⟨b, off, ra, rn, rc, rfl, hbs, h0, h1, h2, hrn, hrm, hri⟩ := (HH.out.below hb) k hkl
      have HV := hid (show CelV wr (.agg #[.slice ra rn rc, .int .i64 l[k].lo, .int .i64 l[k].hi]) l[k] from ⟨ra, rn, rc, rfl, hrn, hrm, hri⟩)
      have HR := hid hrn
      clear hrn hri
      have HK := hid (List.getElem?_eq_getElem hkl)
      cases hpx : p l[k]
      · go_wp2_with (refine (HP.out _ _ _ (HO.out _ (List.getElem_mem hkl)) hb HV.out).mono ?_; rintro e w1 ⟨rfl, hb1⟩)
        refine ⟨⟨k + 1, by omega, by go_num, chain hb hb1, ?_⟩, by simp [intOf]; omega⟩
        intro i y hi hy
        by_cases e : i = k
        · subst e; rw [HK.out] at hy; cases hy; exact hpx
        · exact HNO.out i y (by omega) hy
      · go_wp2_with (refine (HP.out _ _ _ (HO.out _ (List.getElem_mem hkl)) hb HV.out).mono ?_; rintro e w1 ⟨rfl, hb1⟩)
        go_ret
        refine ⟨ret_int ?_, chain hb hb1⟩
        rw [idxP_at p l 0 k _ HK.out hpx HNO.out]; simp
    · go_wp2
      go_ret
      refine ⟨ret_int ?_, hb⟩
      rw [idxP_neg]
      intro x hx
      obtain ⟨i, hi, e⟩ := List.getElem_of_mem hx
      exact HNO.out i x (by have := HN.out; omega) (by rw [List.getElem?_eq_getElem hi, e])

theorem containsC (w : World) (a : Option Addr) (n cap : Nat) (l : List Cel) (hn : l.length = n) (hm : n ≤ maxLen) (H : CellsAt w a l) (g : Nat) (lb : Array Value) (ok : Cel → Prop) (p : Cel → Bool)
    (eg : ∀ args w, (callFunc g args).run Tryd.prog w = .ok (.enter g args) w) (hp : PredC Tryd.prog g lb w ok p) (hok : ∀ c ∈ l, ok c) :
    Calls Tryd.prog 28 #[.slice a n cap, .func (.func g) #[] lb] w fun e w' => e = .returned (.bool (l.any p)) ∧ Below w.heap.size w w' := by
  have HC := hid (indexC w a n cap l hn hm H g lb ok p eg hp hok)
  have HG := idxP_ge p l 0
  have HG' := hid HG
  clear hn H hp HG hok
  go_enter Tryd.func28, Tryd.ntmps28
  go_wp2_with (refine HC.out.mono ?_; rintro e w1 ⟨rfl, hb1⟩)
  go_ret
  refine ⟨ret_bool ?_, hb1⟩
  rw [Bool.eq_iff_iff, decide_eq_true_iff, HG'.out]

def okField (p t : Int) : Bool := inB p 1 8 && inB t 0 3
def okCell (pixels : Int) (c : Cel) : Bool := okRow pixels c.row && inB c.lo (-100) c.hi && decide (c.hi ≤ 100)
def okCells (p t : Int) (l : List Cel) : Bool := okField p t && decide (l.length ≤ 30) && l.all (okCell p)

theorem validField_c (p t : Int) (w : World) : Calls Tryd.prog 27 #[.agg #[.int .i64 p, .int .i64 t]] w fun e w' => e = .returned (.bool (okField p t)) ∧ Below w.heap.size w w' := by
  cases h1 : inB p 1 8
  all_goals
    go_enter Tryd.func27, Tryd.ntmps27
    go_wp2_with (go_at_call 40; refine (within_c _ _ _ _).mono ?_; rintro e w1 ⟨rfl, rfl⟩)
    go_ret
    exact ⟨ret_bool (by simp [okField, h1]), (Below.refl _ _).alloc (Nat.le_refl _) _⟩

theorem validCell_c (w : World) (pixels : Int) (v : Value) (c : Cel) (hv : CelV w v c) :
    Calls Tryd.prog 30 #[.int .i64 pixels, v] w fun e w' => e = .returned (.bool (okCell pixels c)) ∧ Below w.heap.size w w' := by
  obtain ⟨ra, rn, rc, rfl, hrn, hrm, hri⟩ := hv
  have hb0 : Below w.heap.size w (w.alloc (.cells #[.slice ra rn rc, .int .i64 c.lo, .int .i64 c.hi] 36)) := (Below.refl _ _).alloc (Nat.le_refl _) _
  have HC := hid (validRow_c (w.alloc (.cells #[.slice ra rn rc, .int .i64 c.lo, .int .i64 c.hi] 36)) pixels ra rn rc c.row hrn hrm (hri.below hb0))
  clear hrn hri
  cases h1 : okRow pixels c.row <;> cases h2 : inB c.lo (-100) c.hi
  all_goals
    go_enter Tryd.func30, Tryd.ntmps30
    go_wp2_with (first | (go_at_call 32; refine HC.out.mono ?_; rintro e w1 ⟨rfl, hb1⟩; obtain ⟨hc1, hf1⟩ := bcell hb1) | (go_at_call 40; refine (within_c _ _ _ _).mono ?_; rintro e w1 ⟨rfl, rfl⟩))
    go_ret
    exact ⟨ret_bool (by simp [okCell, h1, h2]), chain hb0 hb1⟩
end Go.Proofs.YtofcpmfbeobgiaaDoor

namespace Go.Proofs.YtofcpmfbeobgiaaDoor
open Go.Lib
set_option linter.unusedVariables false

def signC (n : Int) : UInt8 := if n = 1 then 43 else if n = 0 then 46 else 45
def signsC (l : List Int) : List UInt8 := l.map signC
def lineC (c : Cel) : List UInt8 := itoa c.lo ++ 32 :: (itoa c.hi ++ 32 :: signsC c.row)
def lineCL (c : Cel) : List UInt8 := lineC c ++ [10]
def listB (l : List Cel) : Bool := decide (l.length ≤ 30) && l.all (fun c => inB c.row.length 1 8 && okCell (((l[0]?).map (fun c => c.row.length)).getD 0 : Nat) c)
def signR (b : UInt8) : Int := if b = 43 then 1 else if b = 46 then 0 else if b = 45 then -1 else 2
def RowP (w : List UInt8) (l : List Int) : Prop := ∀ r : List Int, (∀ n ∈ r, -1 ≤ n ∧ n ≤ 1) → w = signsC r → l = r

theorem itoa_f (n : Int) : (32 : UInt8) ∉ itoa n ∧ (10 : UInt8) ∉ itoa n := ⟨itoa_no n 32 (by decide), itoa_no n 10 (by decide)⟩
theorem signs_f (l : List Int) : (32 : UInt8) ∉ signsC l ∧ (10 : UInt8) ∉ signsC l := by
  constructor <;>
  · intro h
    obtain ⟨n, _, h⟩ := List.mem_map.1 h
    unfold signC at h
    split at h
    · simp at h
    · split at h <;> simp at h
theorem words_lineC (c : Cel) : wordsF (lineC c) = [itoa c.lo, itoa c.hi, signsC c.row] := by
  unfold lineC
  rw [words_app _ _ (itoa_f _).1, words_app _ _ (itoa_f _).1, words_one _ (signs_f _).1]
theorem lineC_no10 (c : Cel) : (10 : UInt8) ∉ lineC c := by
  unfold lineC
  intro h
  simp only [List.mem_append, List.mem_cons] at h
  rcases h with h | h | h | h | h
  · exact (itoa_f _).2 h
  · simp at h
  · exact (itoa_f _).2 h
  · simp at h
  · exact (signs_f _).2 h
theorem cut_lineC (c : Cel) (r : List UInt8) : cut (lineCL c ++ r) [10] = (lineC c, r, true) := by
  have e : lineCL c ++ r = lineC c ++ 10 :: r := by simp [lineCL]
  rw [e]; exact cut_one _ _ _ (lineC_no10 c)
theorem signR_C {n : Int} (h : -1 ≤ n ∧ n ≤ 1) : signR (signC n) = n := by
  have : n = -1 ∨ n = 0 ∨ n = 1 := by omega
  rcases this with rfl | rfl | rfl <;> rfl
theorem rowR_P (w : List UInt8) : RowP w (w.map signR) := by
  intro r h e
  rw [e]
  unfold signsC
  rw [List.map_map]
  conv => rhs; rw [← List.map_id r]
  exact List.map_congr_left fun n hn => signR_C (h n hn)
theorem list_last {acc : List Cel} {c : Cel} (h : listB (acc ++ [c]) = true) : (∀ n ∈ c.row, -1 ≤ n ∧ n ≤ 1) ∧ (-100 ≤ c.lo ∧ c.lo ≤ c.hi ∧ c.hi ≤ 100) ∧ 1 ≤ c.row.length ∧ c.row.length ≤ 8 := by
  unfold listB at h
  simp only [Bool.and_eq_true, List.all_eq_true] at h
  have h1 := h.2 c (by simp)
  unfold okCell okRow at h1
  simp only [Bool.and_eq_true, List.all_eq_true, inB, decide_eq_true_eq] at h1
  obtain ⟨⟨a1, a2⟩, ⟨⟨a3, a4⟩, a5, a6⟩, a7⟩ := h1
  exact ⟨fun n hn => a4 n hn, ⟨a5, a6, a7⟩, by omega, by omega⟩
def celW (l : List Int) (ws : List (List UInt8)) : Cel := ⟨l, atV (ws[0]?.getD []), atV (ws[1]?.getD [])⟩
theorem celW_line {acc : List Cel} {c : Cel} (h : listB (acc ++ [c]) = true) {l : List Int} (hl : RowP ((wordsF (lineC c))[2]?.getD []) l) : celW l (wordsF (lineC c)) = c := by
  obtain ⟨h1, ⟨h2, h3, h4⟩, _⟩ := list_last h
  rw [words_lineC] at hl ⊢
  have e := hl c.row h1 rfl
  unfold celW
  simp only [List.getElem?_cons_zero, List.getElem?_cons_succ, Option.getD_some]
  rw [e, atV_itoa c.lo (by omega) (by omega), atV_itoa c.hi (by omega) (by omega)]
def rstepB (acc : List Cel) (s : List UInt8) : Option (Cel × List UInt8) :=
  let ws := wordsF (cut s [10]).1
  let c := celW ((ws[2]?.getD []).map signR) ws
  if (cut s [10]).2.2 = true ∧ listB (acc ++ [c]) = true ∧ lineC c = (cut s [10]).1 then some (c, (cut s [10]).2.1) else none
theorem cut_hitB {s sep : List UInt8} (h : (cut s sep).2.2 = true) : s = (cut s sep).1 ++ sep ++ (cut s sep).2.1 :=
  cut_hit (sep := sep) (Prod.ext rfl (Prod.ext rfl h))
theorem rstepB_iff (acc : List Cel) (s : List UInt8) (x : Cel) (r : List UInt8) : rstepB acc s = some (x, r) ↔ listB (acc ++ [x]) = true ∧ s = lineCL x ++ r := by
  unfold rstepB
  simp only []
  constructor
  · intro h
    split at h
    · rename_i hc
      obtain ⟨h1, h2, h3⟩ := hc
      obtain ⟨e1, e2⟩ := Prod.mk.inj (Option.some.inj h)
      rw [e1] at h2 h3
      have e := cut_hitB h1
      rw [← h3, e2] at e
      refine ⟨h2, ?_⟩
      rw [e]; simp [lineCL]
    · cases h
  · rintro ⟨h, rfl⟩
    rw [cut_lineC]
    simp only []
    rw [celW_line h (rowR_P _), if_pos ⟨trivial, h, rfl⟩]
def lineT (s : List UInt8) : List UInt8 := if (cut s [10]).2.2 = true then (cut s [10]).1 ++ [10] else (cut s [10]).1
theorem bit_no {acc : List Cel} {s : List UInt8} {l : List Int} (h : rstepB acc s = none) :
    ¬ (listB (acc ++ [celW l (wordsF (cut s [10]).1)]) = true ∧ lineCL (celW l (wordsF (cut s [10]).1)) = lineT s) := by
  rintro ⟨h1, h2⟩
  unfold lineT at h2
  split at h2
  · rename_i hc
    have e : lineC (celW l (wordsF (cut s [10]).1)) = (cut s [10]).1 := by
      unfold lineCL at h2
      exact List.append_cancel_right h2
    have e2 := cut_hitB hc
    rw [← e] at e2
    have := (rstepB_iff acc s (celW l (wordsF (cut s [10]).1)) (cut s [10]).2.1).2 ⟨h1, by
      obtain ⟨x, hx⟩ : ∃ x, x = celW l (wordsF (cut s [10]).1) := ⟨_, rfl⟩
      rw [← hx] at e2 ⊢
      rw [e2]
      conv => rhs; rw [← e2]
      simp [lineCL]⟩
    rw [h] at this; cases this
  · rename_i hc
    have e : (cut s [10]).1 = s := (cut_no (Prod.ext rfl (Prod.ext rfl (by simpa using hc)))).1
    rw [e] at h2
    have e3 : s = lineCL (celW l (wordsF (cut s [10]).1)) ++ [] := by rw [List.append_nil, e]; exact h2.symm
    rw [e] at h1
    have := (rstepB_iff acc s _ []).2 ⟨h1, by rw [e] at e3; exact e3⟩
    rw [h] at this; cases this
theorem bit_yes {acc : List Cel} {s r : List UInt8} {x : Cel} (h : rstepB acc s = some (x, r)) :
    (wordsF (cut s [10]).1).length = 3 ∧ (∃ u v, atoiAll ((wordsF (cut s [10]).1)[0]?.getD []) = .ok u ∧ atoiAll ((wordsF (cut s [10]).1)[1]?.getD []) = .ok v) ∧ listB (acc ++ [x]) = true ∧ lineCL x = lineT s ∧ (cut s [10]).2.1 = r ∧
    ∀ l, RowP ((wordsF (cut s [10]).1)[2]?.getD []) l → celW l (wordsF (cut s [10]).1) = x := by
  obtain ⟨h1, rfl⟩ := (rstepB_iff _ _ _ _).1 h
  have hb := list_last h1
  unfold lineT
  rw [cut_lineC]
  simp only [if_true]
  refine ⟨by rw [words_lineC]; rfl, ⟨x.lo, x.hi, ?_, ?_⟩, h1, rfl, trivial, fun l hl => celW_line h1 hl⟩
  · rw [words_lineC]; exact atoi_itoa _ (by omega) (by omega)
  · rw [words_lineC]; exact atoi_itoa _ (by omega) (by omega)
theorem lineCL_ne (x : Cel) : lineCL x ≠ [] := by simp [lineCL]
theorem rstepB_less {acc : List Cel} {s r : List UInt8} {x : Cel} (h : rstepB acc s = some (x, r)) : r.length < s.length := by
  obtain ⟨_, rfl⟩ := (rstepB_iff acc s x r).1 h
  simp [lineCL]; omega
def parseB : Nat → List Cel → List UInt8 → List Cel × Nat × Int
  | 0, acc, s => if s = [] then (acc, 0, 0) else ([], acc.length, 2)
  | f + 1, acc, s => if s = [] then (acc, 0, 0) else match rstepB acc s with | none => ([], acc.length, 2) | some (x, r) => parseB f (acc ++ [x]) r
theorem parseB_end (f : Nat) (acc : List Cel) : parseB f acc [] = (acc, 0, 0) := by cases f <;> simp [parseB]
theorem parseB_bad {f : Nat} {acc : List Cel} {s : List UInt8} (h : s ≠ []) (hs : rstepB acc s = none) : parseB f acc s = ([], acc.length, 2) := by
  cases f with
  | zero => rw [parseB, if_neg h]
  | succ f => rw [parseB, if_neg h, hs]
theorem parseB_step {f : Nat} {acc : List Cel} {s r : List UInt8} {x : Cel} (h : s ≠ []) (hs : rstepB acc s = some (x, r)) : parseB (f + 1) acc s = parseB f (acc ++ [x]) r := by
  rw [parseB, if_neg h, hs]
def parseBF (s : List UInt8) : List Cel × Nat × Int := if 65536 < s.length then ([], 0, 3) else parseB s.length [] s
def formatB (f : List Cel) : List UInt8 := if listB f = true then f.flatMap lineCL else []
theorem list_pre {a b : List Cel} (h : listB (a ++ b) = true) (ha : a ≠ []) : listB a = true := by
  unfold listB at h ⊢
  simp only [Bool.and_eq_true, List.all_eq_true, decide_eq_true_eq] at h ⊢
  have hl : 0 < a.length := List.length_pos_iff.2 ha
  rw [List.getElem?_append_left hl] at h
  rw [List.length_append] at h
  exact ⟨by omega, fun x hx => h.2 x (by simp [hx])⟩
theorem parseB_lines : ∀ (g acc : List Cel) (f : Nat), listB (acc ++ g) = true → g.length ≤ f → parseB f acc (g.flatMap lineCL) = (acc ++ g, 0, 0)
  | [], acc, f, h, _ => by rw [List.flatMap_nil, parseB_end]; simp
  | x :: g, acc, f, h, hf => by
    cases f with
    | zero => simp at hf
    | succ f =>
      have e : acc ++ x :: g = (acc ++ [x]) ++ g := by simp
      rw [e] at h ⊢
      have hs : rstepB acc ((x :: g).flatMap lineCL) = some (x, g.flatMap lineCL) := (rstepB_iff _ _ _ _).2 ⟨list_pre h (by simp), by simp⟩
      rw [parseB_step (by simp [lineCL_ne]) hs, parseB_lines g (acc ++ [x]) f h (by simpa using hf)]
theorem linesC_len : ∀ g : List Cel, g.length ≤ (g.flatMap lineCL).length
  | [] => by simp
  | x :: g => by
    have := linesC_len g
    rw [List.flatMap_cons, List.length_append, List.length_cons]
    have h : 0 < (lineCL x).length := List.length_pos_iff.2 (lineCL_ne x)
    omega
theorem parseBF_back {f : List Cel} (h : listB f = true) (hl : (formatB f).length ≤ 65536) : parseBF (formatB f) = (f, 0, 0) := by
  have e : formatB f = f.flatMap lineCL := by unfold formatB; rw [if_pos h]
  unfold parseBF
  rw [if_neg (by omega), e, parseB_lines f [] _ (by simpa using h) (linesC_len f)]
  simp
theorem list_cells {p t : Int} {l : List Cel} (h : okCells p t l = true) : listB l = true := by
  unfold okCells okField at h
  simp only [Bool.and_eq_true, List.all_eq_true, decide_eq_true_eq, inB] at h
  obtain ⟨⟨⟨⟨h1, h2⟩, _⟩, h3⟩, h4⟩ := h
  have hr : ∀ c ∈ l, (c.row.length : Int) = p := fun c hc => by
    have := h4 c hc
    unfold okCell okRow at this
    simp only [Bool.and_eq_true, decide_eq_true_eq] at this
    exact this.1.1.1
  unfold listB
  simp only [Bool.and_eq_true, List.all_eq_true, decide_eq_true_eq, inB]
  refine ⟨h3, fun c hc => ?_⟩
  have hc1 := hr c hc
  refine ⟨⟨by omega, by omega⟩, ?_⟩
  have h0 : 0 < l.length := List.length_pos_iff.2 (by intro e; rw [e] at hc; cases hc)
  rw [List.getElem?_eq_getElem h0]
  have := hr _ (List.getElem_mem h0)
  simp only [Option.map_some, Option.getD_some]
  rw [this]; exact h4 c hc
end Go.Proofs.YtofcpmfbeobgiaaDoor

namespace Go.Proofs.YtofcpmfbeobgiaaDoor
open Go Go.Lib
set_option linter.unusedVariables false

theorem idx_split (c : UInt8) : ∀ l : List UInt8, (indexByte l c = -1 ∧ c ∉ l) ∨ ∃ a b, l = a ++ c :: b ∧ c ∉ a ∧ indexByte l c = (a.length : Int)
  | [] => .inl ⟨rfl, by simp⟩
  | x :: l => by
    by_cases h : x = c
    · subst h
      exact .inr ⟨[], l, rfl, by simp, by simp [indexByte]⟩
    · have hx : (x == c) = false := by simpa using h
      rcases idx_split c l with ⟨h1, h2⟩ | ⟨a, b, h1, h2, h3⟩
      · exact .inl ⟨by simp [indexByte, hx, h1], by simp [h2]; exact fun e => h e.symm⟩
      · refine .inr ⟨x :: a, b, by rw [h1]; rfl, by simp [h2]; exact fun e => h e.symm, ?_⟩
        have hn : ¬ indexByte l c = -1 := by rw [h3]; omega
        have hn2 : (indexByte l c == -1) = false := by simpa using hn
        simp [indexByte, hx, hn2, h3]
theorem cut_none {l : List UInt8} {c : UInt8} (h : c ∉ l) : cut l [c] = (l, [], false) := by
  cases hf : (cut l [c]).2.2 with
  | true =>
    have e := cut_hitB hf
    exact absurd (by rw [e]; simp) h
  | false =>
    obtain ⟨e1, e2⟩ := cut_no (s := l) (sep := [c]) (Prod.ext rfl (Prod.ext rfl hf))
    exact Prod.ext e1 (Prod.ext e2 hf)
theorem rest_less {s : List UInt8} (h : s ≠ []) : (cut s [10]).2.1.length < s.length := by
  rcases idx_split 10 s with ⟨_, h2⟩ | ⟨a, b, rfl, h2, _⟩
  · rw [cut_none h2]; simp only [List.length_nil]; exact List.length_pos_iff.2 h
  · rw [cut_one a b 10 h2]; simp only [List.length_append, List.length_cons]; omega
def linesN : Nat → List UInt8 → List (List UInt8)
  | 0, _ => []
  | f + 1, s => if s = [] then [] else lineT s :: linesN f (cut s [10]).2.1
theorem linesN_nil (f : Nat) : linesN f [] = [] := by cases f <;> simp [linesN]
theorem linesN_fuel : ∀ (f g : Nat) (s : List UInt8), s.length ≤ f → s.length ≤ g → linesN f s = linesN g s
  | 0, g, s, h, _ => by
    have : s = [] := List.eq_nil_of_length_eq_zero (by omega)
    subst this; rw [linesN_nil, linesN_nil]
  | f + 1, 0, s, _, h => by
    have : s = [] := List.eq_nil_of_length_eq_zero (by omega)
    subst this; rw [linesN_nil, linesN_nil]
  | f + 1, g + 1, s, h1, h2 => by
    by_cases h : s = []
    · subst h; rw [linesN_nil, linesN_nil]
    · have := rest_less h
      rw [linesN, linesN, if_neg h, if_neg h, linesN_fuel f g _ (by omega) (by omega)]
def linesF (s : List UInt8) : List (List UInt8) := linesN s.length s
theorem linesF_nil : linesF [] = [] := rfl
theorem linesF_step {s : List UInt8} (h : s ≠ []) : linesF s = lineT s :: linesF (cut s [10]).2.1 := by
  have hl : 0 < s.length := List.length_pos_iff.2 h
  have h1 := rest_less h
  unfold linesF
  conv => lhs; rw [show s.length = (s.length - 1) + 1 by omega, linesN, if_neg h]
  rw [linesN_fuel (s.length - 1) (cut s [10]).2.1.length _ (by omega) (Nat.le_refl _)]
theorem line_hit {a b : List UInt8} (h : (10 : UInt8) ∉ a) : lineT (a ++ 10 :: b) = a ++ [10] ∧ (cut (a ++ 10 :: b) [10]).2.1 = b := by
  unfold lineT; rw [cut_one a b 10 h]; exact ⟨rfl, rfl⟩
theorem line_miss {s : List UInt8} (h : (10 : UInt8) ∉ s) : lineT s = s ∧ (cut s [10]).2.1 = [] := by
  unfold lineT; rw [cut_none h]; exact ⟨rfl, rfl⟩
end Go.Proofs.YtofcpmfbeobgiaaDoor

namespace Go.Proofs.YtofcpmfbeobgiaaDoor
open Go.RowKit
set_option linter.unusedVariables false

theorem all_stop {l : List Int} {f : Int → Bool} {k : Nat} (hk : k < l.length) (h : f (l[k]?.getD 0) = false) : l.all f = false := by
  rw [List.all_eq_false]
  exact ⟨l[k], List.getElem_mem hk, by simpa [List.getElem?_eq_getElem hk] using h⟩
theorem all_done {l : List Int} {f : Int → Bool} (h : ∀ j, j < l.length → f (l[j]?.getD 0) = true) : l.all f = true := by
  rw [List.all_eq_true]
  intro x hx
  obtain ⟨i, hi, e⟩ := List.getElem_of_mem hx
  have := h i hi
  rw [List.getElem?_eq_getElem hi, e] at this
  simpa using this
theorem allC_stop {l : List Cel} {f : Cel → Bool} {k : Nat} (hk : k < l.length) (h : f l[k] = false) : l.all f = false := by
  rw [List.all_eq_false]
  exact ⟨l[k], List.getElem_mem hk, by simpa using h⟩
theorem allC_done {α : Type} {l : List α} {f : α → Bool} (h : ∀ j (hj : j < l.length), f l[j] = true) : l.all f = true := by
  rw [List.all_eq_true]
  intro x hx
  obtain ⟨i, hi, e⟩ := List.getElem_of_mem hx
  have := h i hi
  rwa [e] at this

theorem refValidRow_c (w : World) (pixels : Int) (a : Option Addr) (n cap : Nat) (l : List Int) (hn : l.length = n) (hm : n ≤ maxLen) (H : IntsAt w a l) :
    Calls Tryd.prog 64 #[.slice a n cap, .int .i64 pixels] w fun e w' => e = .returned (.bool (okRow pixels l)) ∧ w = w' := by
  have HN := hid hn
  have HH := hid H
  clear hn H
  unfold maxLen at hm
  go_enter Tryd.func64, Tryd.ntmps64
  go_wp2
  go_loop [9] (fun i => ∃ k : Nat, k ≤ n ∧ i = .int .i64 k ∧ ∀ j, j < k → inB (l[j]?.getD 0) (-1) 1 = true) (fun i => n - (intOf i).toNat)
  case atStart => exact ⟨0, Nat.zero_le _, rfl, fun i h => by omega⟩
  case round =>
    obtain ⟨k, hk, rfl, hno⟩ := hrel
    have HNO := hid hno
    clear hno
    by_cases hlt : k < n
    · have HKL := hid (show k < l.length by rw [HN.out]; exact hlt)
      obtain ⟨b, off, rfl, hbs, hc⟩ := HH.out k HKL.out
      cases hpx : inB (l[k]?.getD 0) (-1) 1
      · go_wp2_with (go_at_call 43; refine (in_c _ _ _ _).mono ?_; rintro e w1 ⟨rfl, rfl⟩)
        go_ret
        refine ⟨ret_bool ?_, rfl⟩
        unfold okRow; rw [all_stop HKL.out hpx]; simp
      · have HR : Hid (∃ k_1 : Nat, k_1 ≤ n ∧ Value.int .i64 ((k : Int) + 1) = Value.int .i64 (k_1 : Int) ∧ ∀ j, j < k_1 → inB (l[j]?.getD 0) (-1) 1 = true) := by
          refine ⟨k + 1, by omega, cast1 k, ?_⟩
          intro j hj
          by_cases e : j = k
          · subst e; exact hpx
          · exact HNO.out j (by omega)
        go_wp2_with (go_at_call 43; refine (in_c _ _ _ _).mono ?_; rintro e w1 ⟨rfl, rfl⟩)
        first | exact ⟨HR.out, meas hlt⟩ | (go_round; (case rel => exact HR.out); (case measure => exact meas hlt))
    · go_wp2
      go_ret
      refine ⟨ret_bool ?_, rfl⟩
      unfold okRow; rw [all_done (fun j hj => HNO.out j (by have := HN.out; omega)), HN.out]; rw [Bool.and_true, Bool.eq_iff_iff]; simp

theorem refValidCell_c (w : World) (pixels : Int) (v : Value) (c : Cel) (hv : CelV w v c) :
    Calls Tryd.prog 44 #[v, .int .i64 pixels] w fun e w' => e = .returned (.bool (okCell pixels c)) ∧ Below w.heap.size w w' := by
  obtain ⟨ra, rn, rc, rfl, hrn, hrm, hri⟩ := hv
  have hb0 : Below w.heap.size w (w.alloc (.cells #[.slice ra rn rc, .int .i64 c.lo, .int .i64 c.hi] 36)) := (Below.refl _ _).alloc (Nat.le_refl _) _
  have HC := hid (refValidRow_c (w.alloc (.cells #[.slice ra rn rc, .int .i64 c.lo, .int .i64 c.hi] 36)) pixels ra rn rc c.row hrn hrm (hri.below hb0))
  clear hrn hri
  cases h1 : okRow pixels c.row <;> by_cases h2 : -100 ≤ c.lo <;> by_cases h3 : c.lo ≤ c.hi
  all_goals
    go_enter Tryd.func44, Tryd.ntmps44
    go_wp2_with (go_at_call 64; refine HC.out.mono ?_; rintro e w1 ⟨rfl, rfl⟩)
    go_ret
    exact ⟨ret_bool (by simp [okCell, h1, h2, h3, inB]; try omega), hb0⟩

theorem validCells1 (w : World) (p t : Int) (b : Nat) (hb : b < w.heap.size) (hc : w.cell? ⟨b, 0, none⟩ = some (.int .i64 p)) : PredC Tryd.prog 29 #[.pointer (some ⟨b, 0, none⟩)] w (fun _ => True) (fun c => !okCell p c) := by
  intro c v W _ hbw hv
  have hc' : W.cell? ⟨b, 0, none⟩ = some (.int .i64 p) := (hbw.cell (p := ⟨b, 0, none⟩) hb).trans hc
  have hbW : b < W.heap.size := Nat.lt_of_lt_of_le hb hbw.size
  obtain ⟨ra, rn, rc, rfl, hrn, hrm, hri⟩ := hv
  have hb0 : Below W.heap.size W (W.alloc (.cells #[.slice ra rn rc, .int .i64 c.lo, .int .i64 c.hi] 36)) := (Below.refl _ _).alloc (Nat.le_refl _) _
  have HC := hid (validCell_c (W.alloc (.cells #[.slice ra rn rc, .int .i64 c.lo, .int .i64 c.hi] 36)) p _ c ⟨ra, rn, rc, rfl, hrn, hrm, hri.below hb0⟩)
  clear hrn hri
  go_enter Tryd.func29, Tryd.ntmps29
  go_wp2_with (go_at_call 30; refine HC.out.mono ?_; rintro e w1 ⟨rfl, hb2⟩)
  go_ret
  exact ⟨rfl, chain hb0 hb2⟩

theorem validCells_c (w : World) (p t : Int) (a : Option Addr) (n cap : Nat) (l : List Cel) (hn : l.length = n) (hm : n ≤ maxLen) (H : CellsAt w a l) :
    Calls Tryd.prog 11 #[.agg #[.int .i64 p, .int .i64 t], .slice a n cap] w fun e w' => e = .returned (.bool (okCells p t l)) ∧ Below w.heap.size w w' := by
  have HH := hid H
  have HN := hid hn
  have hm' := hm
  unfold maxLen at hm'
  have hb0 : Below w.heap.size w (w.alloc (.cells #[.int .i64 p, .int .i64 t] 23)) := (Below.refl _ _).alloc (Nat.le_refl _) _
  have eg := enters_of Tryd.func29 (by kernel_rfl) rfl
  have HC := hid (fun (w1 : World) (hb1 : Below (w.alloc (.cells #[.int .i64 p, .int .i64 t] 23)).heap.size (w.alloc (.cells #[.int .i64 p, .int .i64 t] 23)) w1) =>
    containsC w1 a n cap l hn hm (H.below (chain hb0 hb1)) 29 #[.pointer (some ⟨w.heap.size, 0, none⟩)] (fun _ => True) (fun c => !okCell p c) eg
      (validCells1 w1 p t w.heap.size (by have := hb1.size; simp at this; omega) ((hb1.cell (p := ⟨w.heap.size, 0, none⟩) (by simp)).trans (by simp))) (fun _ _ => trivial))
  clear hn H eg hm
  have hmf : ∀ (fn : Fn) (first cap : Array Value) (w : World), (Instr.makeFunc fn first cap).run Tryd.prog w = .ok (.func fn first cap) w := fun _ _ _ _ => rfl
  cases h1 : okField p t <;> by_cases h2 : n ≤ 30
  all_goals
    go_enter Tryd.func11, Tryd.ntmps11
    go_wp2_with (first | (go_at_call 27; refine (validField_c _ _ _).mono ?_; rintro e w1 ⟨rfl, hb1⟩) | (go_at_call 28; refine (HC.out _ hb1).mono ?_; rintro e w2 ⟨rfl, hb2⟩))
    go_ret
    first
      | exact ⟨ret_bool (by simp [okCells, h1, h2, HN.out, List.all_eq_not_any_not]), chain hb0 (chain hb1 hb2)⟩
      | exact ⟨ret_bool (by simp [okCells, h1, h2, HN.out]), chain hb0 hb1⟩
end Go.Proofs.YtofcpmfbeobgiaaDoor

namespace Go.Proofs.YtofcpmfbeobgiaaDoor
open Go.RowKit
set_option linter.unusedVariables false

def dotTo (row x : List Int) : Nat → Int
  | 0 => 0
  | k + 1 => wrap64 (dotTo row x k + wrap64 (row[k]?.getD 0 * x[k]?.getD 0))
def dotW (row x : List Int) : Int := dotTo row x row.length

theorem sum_c (w : World) (a a2 : Option Addr) (n cap n2 cap2 : Nat) (row x : List Int) (hn : row.length = n) (hn2 : x.length = n2) (hle : n ≤ n2) (hm : n ≤ maxLen) (H : IntsAt w a row) (H2 : IntsAt w a2 x) :
    Calls Tryd.prog 81 #[.slice a n cap, .slice a2 n2 cap2] w fun e w' => e = .returned (.int .i64 (dotW row x)) ∧ w = w' := by
  have HN := hid hn
  have HN2 := hid hn2
  have HH := hid H
  have HH2 := hid H2
  clear hn hn2 H H2
  unfold maxLen at hm
  go_enter Tryd.func81, Tryd.ntmps81
  go_wp2
  go_loop [5, 10] (fun s i => ∃ k : Nat, k ≤ n ∧ i = .int .i64 k ∧ s = .int .i64 (dotTo row x k)) (fun _ i => n - (intOf i).toNat)
  case atStart => exact ⟨0, Nat.zero_le _, rfl, rfl⟩
  case round =>
    obtain ⟨k, hk, rfl, rfl⟩ := hrel
    by_cases hlt : k < n
    · obtain ⟨b, off, rfl, _, h1⟩ := HH.out k (by rw [HN.out]; exact hlt)
      obtain ⟨b2, off2, rfl, _, h2⟩ := HH2.out k (by rw [HN2.out]; omega)
      have h3 : k < n2 := by omega
      go_wp2
      go_round
      case rel => exact ⟨k + 1, by omega, by go_num, rfl⟩
      case measure => simp [intOf]; omega
    · have : k = n := by omega
      subst this
      go_wp2
      go_ret
      refine ⟨ret_int ?_, rfl⟩
      unfold dotW; rw [HN.out]

def fitC (x : List Int) (c : Cel) : Bool := inB (dotW c.row x) c.lo c.hi
def fitA (l : List Cel) (x : List Int) : Bool := l.all (fitC x)

theorem bitIn_c (w : World) (v : Value) (c : Cel) (hv : CelV w v c) (a : Option Addr) (n cap : Nat) (x : List Int) (hn : x.length = n) (hle : c.row.length ≤ n) (H : IntsAt w a x) :
    Calls Tryd.prog 68 #[v, .slice a n cap] w fun e w' => e = .returned (.bool (fitC x c)) ∧ Below w.heap.size w w' := by
  obtain ⟨ra, rn, rc, rfl, hrn, hrm, hri⟩ := hv
  have hb0 : Below w.heap.size w (w.alloc (.cells #[.slice ra rn rc, .int .i64 c.lo, .int .i64 c.hi] 36)) := (Below.refl _ _).alloc (Nat.le_refl _) _
  have HC := hid (fun (W : World) (hb : Below w.heap.size w W) => sum_c W ra a rn rc n cap c.row x hrn hn (by omega) hrm (hri.below hb) (H.below hb))
  clear hn H hri hle hrn
  go_enter Tryd.func68, Tryd.ntmps68
  go_wp2
  go_quiet (first | (go_at_call 81; exact Calls.quiet_of_same ((HC.out _ (by repeat (first | exact hb0 | refine below_drewN ?_ _))).mono fun _ _ h => ⟨h.1, h.2.symm⟩)) | (go_at_call 40; exact Calls.quiet_of_same ((within_c _ _ _ _).mono fun _ _ h => ⟨h.1, h.2.symm⟩)))
  go_wp2
  go_ret
  exact ⟨rfl, below_drewN hb0 _⟩

theorem fitsOneB (w : World) (b : Nat) (a : Option Addr) (n cap : Nat) (x : List Int) (hb : b < w.heap.size) (hc : w.cell? ⟨b, 0, none⟩ = some (.slice a n cap)) (hn : x.length = n) (H : IntsAt w a x) :
    PredC Tryd.prog 67 #[.pointer (some ⟨b, 0, none⟩)] w (fun c => c.row.length ≤ n) (fun c => !fitC x c) := by
  intro c v W hle hbw hv
  have hc' : W.cell? ⟨b, 0, none⟩ = some (.slice a n cap) := (hbw.cell (p := ⟨b, 0, none⟩) hb).trans hc
  have hbW : b < W.heap.size := Nat.lt_of_lt_of_le hb hbw.size
  obtain ⟨ra, rn, rc, rfl, hrn, hrm, hri⟩ := hv
  have hb0 : Below W.heap.size W (W.alloc (.cells #[.slice ra rn rc, .int .i64 c.lo, .int .i64 c.hi] 36)) := (Below.refl _ _).alloc (Nat.le_refl _) _
  have HC := hid (bitIn_c (W.alloc (.cells #[.slice ra rn rc, .int .i64 c.lo, .int .i64 c.hi] 36)) _ c ⟨ra, rn, rc, rfl, hrn, hrm, hri.below hb0⟩ a n cap x hn hle (H.below (chain hbw hb0)))
  clear hrn hri hle hn H
  go_enter Tryd.func67, Tryd.ntmps67
  go_wp2_with (go_at_call 68; refine HC.out.mono ?_; rintro e w1 ⟨rfl, hb2⟩)
  go_ret
  exact ⟨rfl, chain hb0 hb2⟩

theorem fits_c (w : World) (a : Option Addr) (n cap : Nat) (l : List Cel) (hn : l.length = n) (hm : n ≤ maxLen) (H : CellsAt w a l)
    (a2 : Option Addr) (n2 cap2 : Nat) (x : List Int) (hn2 : x.length = n2) (H2 : IntsAt w a2 x) (hle : ∀ c ∈ l, c.row.length ≤ n2) :
    Calls Tryd.prog 48 #[.slice a n cap, .slice a2 n2 cap2] w fun e w' => e = .returned (.bool (fitA l x)) ∧ Below w.heap.size w w' := by
  have hb0 : Below w.heap.size w (w.alloc (.cells #[.slice a2 n2 cap2] 34)) := (Below.refl _ _).alloc (Nat.le_refl _) _
  have HC := hid (containsC (w.alloc (.cells #[.slice a2 n2 cap2] 34)) a n cap l hn hm (H.below hb0) 67 #[.pointer (some ⟨w.heap.size, 0, none⟩)] _ _ (enters_of Tryd.func67 (by kernel_rfl) rfl)
    (fitsOneB _ w.heap.size a2 n2 cap2 x (by simp) (by simp) hn2 (H2.below hb0)) hle)
  clear hn H hn2 H2 hle
  have hmf : ∀ (fn : Fn) (first cap : Array Value) (w : World), (Instr.makeFunc fn first cap).run Tryd.prog w = .ok (.func fn first cap) w := fun _ _ _ _ => rfl
  go_enter Tryd.func48, Tryd.ntmps48
  go_wp2_with (refine HC.out.mono ?_; rintro e w1 ⟨rfl, hb1⟩)
  go_ret
  exact ⟨ret_bool (by simp [fitA, List.all_eq_not_any_not]), chain hb0 hb1⟩

end Go.Proofs.YtofcpmfbeobgiaaDoor

namespace Go.Proofs.YtofcpmfbeobgiaaDoor
open Go.RowKit
set_option linter.unusedVariables false

structure Keep (S : Nat → Prop) (A B : World) : Prop where
  os : B.os = A.os
  tape : B.tape = A.tape
  output : B.output = A.output
  size : A.heap.size ≤ B.heap.size
  block : ∀ k, k < A.heap.size → S k → B.heap[k]? = A.heap[k]?

theorem Keep.refl (S : Nat → Prop) (A : World) : Keep S A A := ⟨rfl, rfl, rfl, Nat.le_refl _, fun _ _ _ => rfl⟩
theorem Keep.trans {S : Nat → Prop} {A B C : World} (h : Keep S A B) (k : Keep S B C) : Keep S A C :=
  ⟨k.os.trans h.os, k.tape.trans h.tape, k.output.trans h.output, Nat.le_trans h.size k.size, fun i hi hs => (k.block i (Nat.lt_of_lt_of_le hi h.size) hs).trans (h.block i hi hs)⟩
theorem Keep.drewN {S : Nat → Prop} {A B : World} (h : Keep S A B) (n : Nat) : Keep S A (B.drewN n) := ⟨h.os, h.tape, h.output, h.size, h.block⟩
theorem Keep.mono {S T : Nat → Prop} {A B : World} (h : Keep S A B) (hs : ∀ k, T k → S k) : Keep T A B := ⟨h.os, h.tape, h.output, h.size, fun k hk ht => h.block k hk (hs k ht)⟩
theorem Keep.of_below {S : Nat → Prop} {A B : World} (h : Below A.heap.size A B) : Keep S A B := ⟨h.os, h.tape, h.output, h.size, fun k hk _ => h.block k hk⟩
theorem Keep.grown {A B : World} {row : Option Nat} (h : A.grownBy B row) : Keep (fun k => some k ≠ row) A B := ⟨h.os, h.tape, h.output, h.size, fun k hk hs => h.block k hk hs⟩
theorem Keep.put (A : World) (l : Nat) (o : Obj) : Keep (fun k => k ≠ l) A (A.putObj l o) := (Keep.grown (grownBy_putObj' A l o)).mono fun k hk e => hk (by cases e; rfl)
theorem Keep.set (A : World) (b o : Nat) (v : Value) : Keep (fun k => k ≠ b) A (A.setCell ⟨b, o, none⟩ v) :=
  ⟨rfl, rfl, rfl, by simp [World.setCell], fun k _ hs => Below.heap_setCell _ _ _ _ hs⟩
theorem Keep.below {S : Nat → Prop} {A B w : World} {N : Nat} (h : Keep S A B) (hb : Below N w A) (hN : N ≤ A.heap.size) (hs : ∀ k, k < N → S k) : Below N w B :=
  hb.trans ⟨h.os, h.tape, h.output, h.size, fun k hk => h.block k (by omega) (hs k hk)⟩
theorem Keep.cell {S : Nat → Prop} {A B : World} (h : Keep S A B) {b o : Nat} {v : Value} (hc : A.cell? ⟨b, o, none⟩ = some v) (hs : S b) : B.cell? ⟨b, o, none⟩ = some v :=
  (World.cell?_of_block (a := ⟨b, o, none⟩) (h.block b (World.block_lt_of_cell? A ⟨b, o, none⟩ hc) hs)).trans hc

def IntRow (w : World) (E : TypeId) (b : Nat) (l : List Int) : Prop := w.heap[b]? = some (.cells (l.map (Value.int .i64)).toArray E (0, 0))
theorem IntRow.lt {w : World} {E : TypeId} {b : Nat} {l : List Int} (h : IntRow w E b l) : b < w.heap.size := (Array.getElem?_eq_some_iff.1 h).1
theorem IntRow.cell {w : World} {E : TypeId} {b : Nat} {l : List Int} (h : IntRow w E b l) {j : Nat} (hj : j < l.length) : w.cell? ⟨b, j, none⟩ = some (.int .i64 (l[j]?.getD 0)) := by
  simp [World.cell?, show w.heap[b]? = _ from h, hj]
theorem IntRow.frozen {w : World} {E : TypeId} {b : Nat} {l : List Int} (h : IntRow w E b l) (j : Nat) : w.frozen? ⟨b, j, none⟩ = false := by
  simp [World.frozen?, show w.heap[b]? = _ from h]
theorem IntRow.keep {w w' : World} {E : TypeId} {b : Nat} {l : List Int} (h : IntRow w E b l) (hk : w'.heap[b]? = w.heap[b]?) : IntRow w' E b l := hk.trans h
theorem IntRow.set {w : World} {E : TypeId} {b : Nat} {l : List Int} (h : IntRow w E b l) (j : Nat) (n : Int) : IntRow (w.setCell ⟨b, j, none⟩ (.int .i64 n)) E b (l.set j n) := by
  obtain ⟨hlt, hk⟩ := Array.getElem?_eq_some_iff.1 h
  unfold IntRow
  show (w.heap.modify b _)[b]? = _
  rw [Array.getElem?_eq_getElem (by rw [Array.size_modify]; exact hlt), Array.getElem_modify_self, hk]
  simp [List.map_set]
theorem IntRow.ints {w : World} {E : TypeId} {b : Nat} {l : List Int} (h : IntRow w E b l) : IntsAt w (some ⟨b, 0, none⟩) l :=
  fun j hj => ⟨b, 0, rfl, h.lt, by rw [Nat.zero_add]; exact h.cell hj⟩
theorem IntRow.made (w : World) (E : TypeId) (n : Nat) : IntRow (w.alloc (.cells (madeCells #[.int .i64 0] n) E)) E w.heap.size (List.replicate n 0) := by
  have e : madeCells #[Value.int .i64 0] n = ((List.replicate n (0 : Int)).map (Value.int .i64)).toArray := by
    apply Array.toList_inj.1
    rw [toList_madeCells_one]; simp
  unfold IntRow
  rw [← e]
  exact World.alloc_heap_new _ _

def IterInts (P : Program) (E : TypeId) (g : Nat) (lb : Array Value) (xs : List (List Int)) (fp : Nat → Prop) (w0 : World) : Prop :=
  ∀ (l : Nat) (J : Nat → List (List Int) → World → Prop) (Jx : List (List Int) → World → Prop) (W : World), Below w0.heap.size w0 W →
    (∀ it s A B, W.heap.size ≤ it → J it s A → Keep (fun k => k ≠ it) A B → J it s B) →
    (∀ it pre x cap sp W1, pre ++ [x] <+: xs → W.heap.size ≤ it → it < W1.heap.size → J it pre W1 → W1.heap[it]? = some (.cells (x.map (Value.int .i64) ++ sp).toArray E (0, 0)) →
      YieldAt Fence.wide 0 P l #[.slice (some ⟨it, 0, none⟩) x.length cap] W1 fun e W' =>
        (e = .returned (.bool true) ∧ J it (pre ++ [x]) W' ∧ W1.heap.size ≤ W'.heap.size ∧ (∀ k, fp k ∨ k = it → W'.heap[k]? = W1.heap[k]?)) ∨ (e = .returned (.bool false) ∧ Jx (pre ++ [x]) W')) →
    (∀ it, W.heap.size ≤ it → J it [] W) →
    CallsIn Fence.wide 0 P g (#[.func (.yield l) #[] #[]] ++ lb) W fun e W' => (∃ v, e = .returned v) ∧ ((∃ it, W.heap.size ≤ it ∧ J it xs W') ∨ (∃ pre, pre <+: xs ∧ Jx pre W'))

def roundEnd (S : Nat → Prop) (I : List (List Int) → World → Prop) (Ix : Code → List (List Int) → World → Prop) (xs : List (List Int)) (W : World) : Exit → Act → World → Prop
  | .normal, _, W' => W.heap.size ≤ W'.heap.size ∧ (∀ k, S k → W'.heap[k]? = W.heap[k]?) ∧ I xs W'
  | .ret, _, W' => W.heap.size ≤ W'.heap.size ∧ (∀ k, S k → W'.heap[k]? = W.heap[k]?) ∧ Ix .ret xs W'
  | .exit id, _, W' => W.heap.size ≤ W'.heap.size ∧ (∀ k, S k → W'.heap[k]? = W.heap[k]?) ∧ Ix (.exit id) xs W'
  | .goto t, _, W' => W.heap.size ≤ W'.heap.size ∧ (∀ k, S k → W'.heap[k]? = W.heap[k]?) ∧ Ix (.goto t) xs W'
  | .panic _, _, _ => False
  | .outgrown, _, _ => False

theorem range_ints {P : Program} {E : TypeId} {g : Operand} {p : Tmp} {assign body : Code} {Q : Exit → Act → World → Prop} {a : Act} {w : World}
    {gf : Nat} {lb : Array Value} (hg : a.eval g = .func (.func gf) #[] lb) (eg : ∀ args w, (callFunc gf args).run P w = .ok (.enter gf args) w)
    {xs : List (List Int)} {fp : Nat → Prop} {w0 : World} (hseq : IterInts P E gf lb xs fp w0) (hb0 : Below w0.heap.size w0 w) (hfp : ∀ k, fp k → k < w.heap.size)
    (I : Nat → List (List Int) → World → Prop) (Ix : Code → List (List Int) → World → Prop)
    (hI : ∀ it s A B, w.heap.size + 2 ≤ it → I it s A → Keep (fun k => k ≠ w.heap.size ∧ k ≠ w.heap.size + 1 ∧ k ≠ it) A B → I it s B)
    (hIx : ∀ c s A B, Ix c s A → Keep (fun k => k ≠ w.heap.size ∧ k ≠ w.heap.size + 1) A B → Ix c s B)
    (h0 : ∀ it, w.heap.size + 2 ≤ it → I it [] w) (a₁ : Value → Act)
    (hassign : ∀ (l : Nat) (v : Value) (W : World) (K : Act → World → Prop), K (a₁ v) W →
      assign.wpIn (Fence.wide.inRound l) 0 P (Exit.then K (fun _ _ _ => False)) { tmps := a.tmps.setIfInBounds p v, defers := [] } W)
    (hbody : ∀ (l it : Nat) (pre : List (List Int)) (x : List Int) (cap : Nat) (sp : List Value) (W : World), w.heap.size + 2 ≤ it → pre ++ [x] <+: xs → I it pre W → it < W.heap.size →
      W.heap[it]? = some (.cells (x.map (Value.int .i64) ++ sp).toArray E (0, 0)) →
      (∃ o, W.heap[w.heap.size]? = some o ∧ o.isCells = false) → (∃ o, W.heap[w.heap.size + 1]? = some o ∧ o.isCells = false) →
      body.wpIn (Fence.wide.inRound l) 0 P (roundEnd (fun k => fp k ∨ k = w.heap.size ∨ k = w.heap.size + 1 ∨ k = it) (I it) Ix (pre ++ [x]) W) (a₁ (.slice (some ⟨it, 0, none⟩) x.length cap)) W)
    (hdone : ∀ (it : Nat) (W : World), w.heap.size + 2 ≤ it → I it xs W → W.heap[w.heap.size]? = some (.deferred (some [])) → Q .normal { a with defers := { target := .collected w.heap.size, args := #[] } :: a.defers } W)
    (hstop : ∀ (c : Code) (pre : List (List Int)) (W : World), pre <+: xs → Ix c pre W → W.heap[w.heap.size]? = some (.deferred (some [])) → c.wpIn Fence.wide 0 P Q { a with defers := { target := .collected w.heap.size, args := #[] } :: a.defers } W) :
    (Code.rangeFunc g #[p] assign body).wpIn Fence.wide 0 P Q a w := by
  refine wpIn_rangeFunc ?_
  intro fn hfn
  obtain ⟨rec, hrec⟩ : ∃ rec : LoopState → Option Code → Loop, rec = fun st pe => { state := st, pending := pe, fn, tmps := a.tmps, params := #[p], assign, body, defers := w.heap.size } := ⟨_, rfl⟩
  obtain ⟨W1, hW1⟩ : ∃ W1, (w.alloc (.deferred (some []))).alloc (.loop (rec .ready none)) = W1 := ⟨_, rfl⟩
  have hsz1 : W1.heap.size = w.heap.size + 2 := by rw [← hW1]; simp
  have hL1 : W1.heap[w.heap.size + 1]? = some (.loop (rec .ready none)) := by
    rw [← hW1]; have := World.alloc_heap_new (w.alloc (.deferred (some []))) (.loop (rec .ready none)); rwa [World.size_alloc] at this
  have hK1 : W1.heap[w.heap.size]? = some (.deferred (some [])) := by
    rw [← hW1]; exact (Below.heap_alloc _ _ _ (by simp)).trans (World.alloc_heap_new w _)
  have hbw : Below w.heap.size w W1 := by rw [← hW1]; exact ((Below.refl _ w).alloc (Nat.le_refl _) _).alloc (by simp) _
  refine ⟨w.heap.size + 1, [{ target := .collected w.heap.size, args := #[] }], W1, { target := .fn (.func gf) lb, args := #[.func (.yield (w.heap.size + 1)) #[] #[]] }, W1, gf,
    #[.func (.yield (w.heap.size + 1)) #[] #[]] ++ lb, W1, ?_, ?_, ?_, ?_, fun h => by simp [Fence.wide] at h, ?_⟩
  · rw [← hW1, hrec]; exact run_enterLoop_outer _ _ _ _ _
  · simp only [resolve, hg]
    simp [go_sem]
  · intro f' hf'; exact trivial
  · simp [invoke, go_sem, eg]
  · refine (hseq (w.heap.size + 1)
      (fun it pre W => I it pre W ∧ W.heap[w.heap.size + 1]? = some (.loop (rec .ready none)) ∧ W.heap[w.heap.size]? = some (.deferred (some [])))
      (fun pre W => ∃ c, Ix c pre W ∧ W.heap[w.heap.size + 1]? = some (.loop (rec .done (some c))) ∧ W.heap[w.heap.size]? = some (.deferred (some [])))
      W1 (chain hb0 hbw) ?_ ?_ ?_).mono ?_
    · rintro it s A B hit ⟨hi, hl, hk⟩ hAB
      rw [hsz1] at hit
      exact ⟨hI it s A B hit hi (hAB.mono fun k hk => hk.2.2), (hAB.block _ (Array.getElem?_eq_some_iff.1 hl).1 (by omega)).trans hl, (hAB.block _ (Array.getElem?_eq_some_iff.1 hk).1 (by omega)).trans hk⟩
    · rintro it pre x cap sp W hpre hit hitW ⟨hi, hl, hk⟩ hx
      rw [hsz1] at hit
      have hlt : w.heap.size + 1 < W.heap.size := (Array.getElem?_eq_some_iff.1 hl).1
      have hy := run_yield (P := P) (args := #[.slice (some ⟨it, 0, none⟩) x.length cap]) hl (by rw [hrec]; simp)
      rw [hrec] at hy
      have hy' : (Instr.yield (w.heap.size + 1) #[.slice (some ⟨it, 0, none⟩) x.length cap]).run P W = .ok (.round (w.heap.size + 1) fn (a.tmps.setIfInBounds p (.slice (some ⟨it, 0, none⟩) x.length cap)) assign body) W := by
        simpa using hy
      refine ⟨fn, _, assign, body, hy', roundIn_of_wpIn hfn ?_⟩
      refine hassign _ (.slice (some ⟨it, 0, none⟩) x.length cap) W _ ?_
      refine ⟨_, run_beginRound hl (by rw [hrec]), ?_⟩
      have hl2 : (W.putObj (w.heap.size + 1) (.loop { rec .ready none with state := .busy })).heap[w.heap.size + 1]? = some (.loop { rec .ready none with state := .busy }) := World.putObj_heap_same hlt
      have hx2 : (W.putObj (w.heap.size + 1) (.loop { rec .ready none with state := .busy })).heap[it]? = some (.cells (x.map (Value.int .i64) ++ sp).toArray E (0, 0)) := (World.putObj_heap_other (by omega)).trans hx
      have hkp := Keep.put W (w.heap.size + 1) (.loop { rec .ready none with state := .busy })
      refine wpIn_mono (hbody _ it pre x cap sp _ hit hpre (hI it _ _ _ hit hi (hkp.mono fun k hk => hk.2.1)) (Nat.lt_of_lt_of_le hitW hkp.size) hx2 ⟨_, (World.putObj_heap_other (by omega)).trans hk, rfl⟩ ⟨_, hl2, rfl⟩) ?_
      have fin : ∀ (jump : Option Code) (W3 : World), (∀ k, (fp k ∨ k = w.heap.size ∨ k = w.heap.size + 1 ∨ k = it) → W3.heap[k]? = (W.putObj (w.heap.size + 1) (.loop { rec .ready none with state := .busy })).heap[k]?) →
          (Instr.endRound (w.heap.size + 1) jump).run P W3 = .ok (.bool jump.isNone) (W3.putObj (w.heap.size + 1) (.loop (rec (if jump.isNone then .ready else .done) jump))) ∧
          W3.heap[w.heap.size + 1]? = some (.loop { rec .ready none with state := .busy }) ∧
          (W3.putObj (w.heap.size + 1) (.loop (rec (if jump.isNone then .ready else .done) jump))).heap[w.heap.size + 1]? = some (.loop (rec (if jump.isNone then .ready else .done) jump)) ∧
          (W3.putObj (w.heap.size + 1) (.loop (rec (if jump.isNone then .ready else .done) jump))).heap[w.heap.size]? = some (.deferred (some [])) := fun jump W3 hk3 => by
        have hl3 := (hk3 (w.heap.size + 1) (by simp)).trans hl2
        have := run_endRound (P := P) jump hl3
        rw [hrec] at this ⊢
        refine ⟨this, by rw [hrec] at hl3; exact hl3, World.putObj_heap_same (Array.getElem?_eq_some_iff.1 hl3).1, (World.putObj_heap_other (by omega)).trans ((hk3 w.heap.size (by simp)).trans ((World.putObj_heap_other (by omega)).trans hk))⟩
      rintro e a3 W3 hp
      have keepP : ∀ (o : Obj), Keep (fun k => k ≠ w.heap.size ∧ k ≠ w.heap.size + 1) W3 (W3.putObj (w.heap.size + 1) o) := fun o => (Keep.put W3 (w.heap.size + 1) o).mono fun k hk => hk.2
      cases e with
      | normal =>
        obtain ⟨hs3, hk3, hi3⟩ := hp
        obtain ⟨hr, hl3, hl4, hk4⟩ := fin none W3 hk3
        refine ⟨_, _, hr, .inl ⟨rfl, ⟨hI it _ _ _ hit hi3 ((Keep.put W3 _ _).mono fun k hk => hk.2.1), hl4, hk4⟩, ?_, ?_⟩⟩
        · exact Nat.le_trans (Nat.le_trans hkp.size hs3) (keepP _).size
        · intro k hk
          have hne : k ≠ w.heap.size + 1 := by
            rcases hk with hk | hk
            · have := hfp k hk; omega
            · omega
          exact (World.putObj_heap_other hne).trans ((hk3 k (by rcases hk with hk | hk <;> simp [hk])).trans (World.putObj_heap_other hne))
      | ret =>
        obtain ⟨hs3, hk3, hi3⟩ := hp
        obtain ⟨hr, hl3, hl4, hk4⟩ := fin (some .ret) W3 hk3
        exact ⟨_, _, hr, .inr ⟨rfl, .ret, hIx _ _ _ _ hi3 (keepP _), hl4, hk4⟩⟩
      | exit id =>
        obtain ⟨hs3, hk3, hi3⟩ := hp
        obtain ⟨hr, hl3, hl4, hk4⟩ := fin (some (.exit id)) W3 hk3
        exact ⟨_, _, hr, .inr ⟨rfl, .exit id, hIx _ _ _ _ hi3 (keepP _), hl4, hk4⟩⟩
      | goto t =>
        obtain ⟨hs3, hk3, hi3⟩ := hp
        obtain ⟨hr, hl3, hl4, hk4⟩ := fin (some (.goto t)) W3 hk3
        exact ⟨_, _, hr, .inr ⟨rfl, .goto t, hIx _ _ _ _ hi3 (keepP _), hl4, hk4⟩⟩
      | panic ch => exact hp.elim
      | outgrown => exact hp.elim
    · intro it hit
      rw [hsz1] at hit
      exact ⟨hI it _ _ _ hit (h0 it hit) (Keep.of_below hbw), hL1, hK1⟩
    · rintro e W2 ⟨⟨v, rfl⟩, (⟨it, hit, hi, hl, hk⟩ | ⟨pre, hSp, c, hi, hl, hk⟩)⟩
      · rw [hsz1] at hit
        refine ⟨none, _, by have := run_endLoop (P := P) hl (by rw [hrec]; simp); rw [hrec] at this; exact this, hdone it _ hit (hI it _ _ _ hit hi ((Keep.put W2 _ _).mono fun k hk => hk.2.1)) ((World.putObj_heap_other (by omega)).trans hk)⟩
      · refine ⟨some c, _, by have := run_endLoop (P := P) hl (by rw [hrec]; simp); rw [hrec] at this; exact this, hstop c pre _ hSp (hIx _ _ _ _ hi ((Keep.put W2 _ _).mono fun k hk => hk.2)) ((World.putObj_heap_other (by omega)).trans hk)⟩
end Go.Proofs.YtofcpmfbeobgiaaDoor

namespace Go.Proofs.YtofcpmfbeobgiaaDoor
set_option linter.unusedVariables false

def dig (b : Nat) : Nat → Nat → List Int
  | 0, _ => []
  | p + 1, k => dig b p (k / b) ++ [((k % b : Nat) : Int)]

def pics (b p : Nat) : List (List Int) := (List.range (b ^ p)).map (dig b p)

theorem length_dig (b : Nat) : ∀ p k, (dig b p k).length = p
  | 0, _ => rfl
  | p + 1, k => by simp [dig, length_dig b p]

theorem dig_zero (b : Nat) : ∀ p, dig b p 0 = List.replicate p 0
  | 0 => rfl
  | p + 1 => by simp [dig, dig_zero b p, List.replicate_succ']

theorem dig_mem {b : Nat} (hb : 0 < b) : ∀ p k x, x ∈ dig b p k → 0 ≤ x ∧ x < b
  | 0, _, x, h => by simp [dig] at h
  | p + 1, k, x, h => by
    simp [dig] at h
    rcases h with h | h
    · exact dig_mem hb p _ x h
    · subst h; have := Nat.mod_lt k hb; omega

theorem dig_succ {b : Nat} (hb : 0 < b) : ∀ (m p k : Nat) (u : List Int) (d : Int), dig b p k = u ++ [d] ++ List.replicate m ((b : Int) - 1) → d ≠ (b : Int) - 1 →
    dig b p (k + 1) = u ++ [d + 1] ++ List.replicate m 0 := by
  intro m
  induction m with
  | zero =>
    intro p k u d h hd
    cases p with
    | zero => simp [dig] at h
    | succ p =>
      simp only [dig, List.replicate_zero, List.append_nil] at h ⊢
      have h1 := List.append_inj' h rfl
      obtain ⟨hu, he⟩ := h1
      simp at he
      have hlt := Nat.mod_lt k hb
      have hk : k % b < b - 1 := by omega
      have hdiv := Nat.div_add_mod k b
      have e1 : (k + 1) / b = k / b := by
        rw [Nat.div_eq_iff hb]
        rw [Nat.mul_comm] at hdiv
        constructor
        · omega
        · omega
      have e2 : (k + 1) % b = k % b + 1 := by
        have := Nat.div_add_mod (k + 1) b
        rw [e1] at this; omega
      rw [e1, e2, hu, ← he]
      simp
  | succ m ih =>
    intro p k u d h hd
    cases p with
    | zero => simp [dig] at h
    | succ p =>
      simp only [dig] at h ⊢
      rw [List.replicate_succ', ← List.append_assoc] at h
      obtain ⟨hu, he⟩ := List.append_inj' h rfl
      simp at he
      have hlt := Nat.mod_lt k hb
      have hdiv := Nat.div_add_mod k b
      have e2 : k % b = b - 1 := by omega
      have e1 : (k + 1) / b = k / b + 1 := by
        rw [Nat.div_eq_iff hb]
        rw [Nat.mul_comm] at hdiv
        constructor
        · rw [Nat.succ_mul]; omega
        · rw [Nat.succ_mul]; omega
      have e3 : (k + 1) % b = 0 := by
        have h2 := Nat.div_add_mod (k + 1) b
        rw [e1] at h2
        rw [Nat.mul_succ] at h2; omega
      rw [e1, e3, ih p (k / b) u d hu hd, List.replicate_succ', ← List.append_assoc]
      simp

theorem dig_last {b : Nat} (hb : 0 < b) : ∀ (p k : Nat), k < b ^ p → dig b p k = List.replicate p ((b : Int) - 1) → k + 1 = b ^ p
  | 0, k, hk, _ => by simp at hk ⊢; omega
  | p + 1, k, hk, h => by
    rw [List.replicate_succ'] at h
    simp only [dig] at h
    obtain ⟨hu, he⟩ := List.append_inj' h rfl
    simp at he
    have hlt := Nat.mod_lt k hb
    have hdiv := Nat.div_add_mod k b
    have hq : k / b < b ^ p := by
      rw [Nat.div_lt_iff_lt_mul hb]; rw [Nat.pow_succ] at hk; exact hk
    have h1 := dig_last hb p (k / b) hq hu
    rw [Nat.pow_succ, ← h1, Nat.succ_mul, Nat.mul_comm (k / b) b]
    omega

theorem dig_not_last {b : Nat} (hb : 0 < b) {p k m : Nat} {u : List Int} {d : Int} (hk : k < b ^ p) (h : dig b p k = u ++ [d] ++ List.replicate m ((b : Int) - 1)) (hd : d ≠ (b : Int) - 1) : k + 1 < b ^ p := by
  rcases Nat.lt_or_ge (k + 1) (b ^ p) with h1 | h1
  · exact h1
  · exfalso
    have hkk : k + 1 = b ^ p := by omega
    have key : ∀ p k, k + 1 = b ^ p → dig b p k = List.replicate p ((b : Int) - 1) := by
      intro p
      induction p with
      | zero => intro k _; rfl
      | succ p ih =>
        intro k hk
        have hb1 : 0 < b ^ p := Nat.pow_pos hb
        rw [Nat.pow_succ] at hk
        have e1 : k / b = b ^ p - 1 := by
          rw [Nat.div_eq_iff hb]
          have : (b ^ p - 1) * b = b ^ p * b - b := by rw [Nat.sub_mul]; simp
          have h3 : b ≤ b ^ p * b := Nat.le_mul_of_pos_left b hb1
          constructor <;> omega
        have e2 : k % b = b - 1 := by
          have h2 := Nat.div_add_mod k b
          rw [e1] at h2
          have h3 : b * (b ^ p - 1) = b ^ p * b - b := by rw [Nat.mul_sub]; simp [Nat.mul_comm]
          have h4 : b ≤ b ^ p * b := Nat.le_mul_of_pos_left b hb1
          omega
        simp only [dig]
        rw [e1, e2, ih _ (by omega), List.replicate_succ']
        congr 2
        omega
    rw [key p k hkk] at h
    have hm : d ∈ List.replicate p ((b : Int) - 1) := by rw [h]; simp
    exact hd (List.eq_of_mem_replicate hm)

theorem pics_take (b p k : Nat) (hk : k < b ^ p) : (List.range k).map (dig b p) ++ [dig b p k] <+: pics b p := by
  refine ⟨(List.range' (k + 1) (b ^ p - (k + 1))).map (dig b p), ?_⟩
  unfold pics
  have e : (List.range k).map (dig b p) ++ [dig b p k] = (List.range (k + 1)).map (dig b p) := by rw [List.range_succ]; simp
  rw [e, ← List.map_append]
  congr 1
  rw [List.range_eq_range', List.range_eq_range']
  have h := @List.range'_append_1 0 (k + 1) (b ^ p - (k + 1))
  rw [Nat.zero_add] at h
  rw [h]
  congr 1
  omega

theorem take_set {L R : List Int} {m : Nat} (hm : m < L.length) (v : Int) : (L.take (m + 1) ++ R).set m v = L.take m ++ [v] ++ R := by
  have hl : (L.take m).length = m := by rw [List.length_take]; omega
  rw [List.take_succ_eq_append_getElem hm, List.append_assoc, List.set_append_right _ _ (by omega), hl]
  simp
theorem take_one {L : List Int} {m : Nat} (hm : m < L.length) : L.take (m + 1) = L.take m ++ [L[m]?.getD 0] := by
  rw [List.take_succ_eq_append_getElem hm, List.getElem?_eq_getElem hm]; rfl
theorem rep_cons (n m : Nat) (hm : m < n) (v : Int) : [v] ++ List.replicate (n - (m + 1)) v = List.replicate (n - m) v := by
  rw [show n - m = (n - (m + 1)) + 1 from by omega, List.replicate_succ]; rfl

def undig (b : Nat) (l : List Int) : Nat := l.foldl (fun a d => a * b + d.toNat) 0
theorem undig_dig {b : Nat} (hb : 0 < b) : ∀ p k, k < b ^ p → undig b (dig b p k) = k
  | 0, k, h => by simp at h; subst h; rfl
  | p + 1, k, h => by
    have hq : k / b < b ^ p := by rw [Nat.div_lt_iff_lt_mul hb]; rw [Nat.pow_succ] at h; exact h
    have ih := undig_dig hb p (k / b) hq
    unfold undig at ih ⊢
    simp only [dig, List.foldl_append, List.foldl_cons, List.foldl_nil, ih]
    have := Nat.div_add_mod k b
    rw [Nat.mul_comm] at this
    simp; omega

theorem length_pics (b p : Nat) : (pics b p).length = b ^ p := by simp [pics]
theorem mem_pics {b p : Nat} {x : List Int} (hb : 0 < b) (h : x ∈ pics b p) : x.length = p ∧ ∀ n ∈ x, 0 ≤ n ∧ n < b := by
  simp [pics] at h
  obtain ⟨k, _, rfl⟩ := h
  exact ⟨length_dig b p k, dig_mem hb p k⟩
end Go.Proofs.YtofcpmfbeobgiaaDoor

namespace Go.Proofs.YtofcpmfbeobgiaaDoor
open Go.RowKit
set_option linter.unusedVariables false
attribute [local go_sem] Oper.semAt_some

def cellsNum (b : Nat) (w : World) (it : Nat) : Nat := match w.heap[it]? with | some (.cells c _ _) => undig b (c.toList.map intOf) | _ => 0
theorem cellsNum_row {b : Nat} {w : World} {E : TypeId} {it : Nat} {l : List Int} (h : IntRow w E it l) : cellsNum b w it = undig b l := by
  unfold cellsNum
  rw [show w.heap[it]? = _ from h]
  have e : ∀ l : List Int, (l.map (Value.int .i64)).map intOf = l := by intro l; induction l <;> simp_all [intOf]
  show undig b ((l.map (Value.int .i64)).map intOf) = undig b l
  rw [e]

theorem info_int : (Tryd.prog.info? 3).map (fun i => (i.zero, i.size, i.bytes)) = some (some (.int .i64 0), 1, 8) := by kernel_rfl

set_option maxRecDepth 100000 in
theorem iter_pics (w0 : World) (p t fb : Nat) (hp : p ≤ 8) (ht : t ≤ 3) (hfb : fb < w0.heap.size) (hf0 : w0.cell? ⟨fb, 0, none⟩ = some (.int .i64 p)) (hf1 : w0.cell? ⟨fb, 1, none⟩ = some (.int .i64 t)) :
    IterInts Tryd.prog 3 66 #[.pointer (some ⟨fb, 0, none⟩)] (pics (t + 1) p) (fun k => k = fb) w0 := by
  intro l J Jx W hb hJ hY h0
  have hg0 : W.cell? ⟨fb, 0, none⟩ = some (.int .i64 p) := (hb.cell (p := ⟨fb, 0, none⟩) hfb).trans hf0
  have hg1 : W.cell? ⟨fb, 1, none⟩ = some (.int .i64 t) := (hb.cell (p := ⟨fb, 1, none⟩) hfb).trans hf1
  have hfW : fb < W.heap.size := Nat.lt_of_lt_of_le hfb hb.size
  have HJ := hid hJ
  have HY := hid hY
  have H0 := hid h0
  clear hJ hY h0 hf0 hf1 hb
  have hmk : ∀ w, (Instr.makeSlice 34 (.int .i64 (p : Int)) (.int .i64 (p : Int))).run Tryd.prog w = .ok (.slice (some ⟨w.heap.size, 0, none⟩) p p) (w.alloc (.cells (madeCells #[.int .i64 0] p) 3)) :=
    fun w => run_make_row' 34 3 (.int .i64 0) 8 Tryd.underlying34 info_int rfl .i64 .i64 p (by omega) (by omega) w
  refine callsIn_of_wp Tryd.func66 rfl trivial ?_ rfl
  simp only [Tryd.ntmps66, List.size_toArray, List.length_cons, List.length_nil, Nat.reduceAdd, Nat.reduceSub, Array.replicate_succ, Array.replicate_zero, List.push_toArray, List.append_toArray, List.nil_append, List.cons_append]
  gi_wp2
  obtain ⟨it, hit⟩ : ∃ it, it = W.heap.size := ⟨_, rfl⟩
  rw [← hit]
  have hrow := IntRow.made W 3 p
  have hkeep : Keep (fun k => k ≠ it) W (W.alloc (.cells (madeCells #[.int .i64 0] p) 3)) := Keep.of_below ((Below.refl _ _).alloc (Nat.le_refl _) _)
  rw [← hit] at hrow hfW
  have HI := hid hit
  clear hit
  have hJ1 : J it [] (W.alloc (.cells (madeCells #[.int .i64 0] p) 3)) := HJ.out it _ _ _ (by have := HI.out; omega) (H0.out it (by have := HI.out; omega)) hkeep
  gi_loopw [] (fun wr => ∃ k : Nat, k < (t + 1) ^ p ∧ J it ((List.range k).map (dig (t + 1) p)) wr ∧ IntRow wr 3 it (dig (t + 1) p k) ∧ wr.heap[fb]? = W.heap[fb]? ∧ W.heap.size ≤ wr.heap.size) (fun wr => (t + 1) ^ p - cellsNum (t + 1) wr it)
  case atStart => exact ⟨0, Nat.pow_pos (by omega), hJ1, by rw [dig_zero]; exact hrow, hkeep.block fb (by have := HI.out; omega) (by omega), hkeep.size⟩
  case round =>
    obtain ⟨k, hk, hJk, hrk, hfbk, hsz⟩ := hrel
    have hyk := HY.out it _ (dig (t + 1) p k) p [] wr (pics_take (t + 1) p k hk) (by have := HI.out; omega) hrk.lt hJk (by simpa [IntRow] using hrk)
    rw [length_dig] at hyk
    have HRK := hid hrk
    have HFK := hid hfbk
    have HJK := hid hJk
    clear hrk hfbk hJk hrow hkeep hJ1
    obtain ⟨fn, tmps, assign, body, hy, hR⟩ := hyk
    gi_wp2
    refine ⟨rfl, hR.mono ?_⟩
    clear hR hy
    rintro e W3 (⟨rfl, hJ3, hs3, hk3⟩ | ⟨rfl, hJx⟩)
    · have hr3 : IntRow W3 3 it (dig (t + 1) p k) := HRK.out.keep (hk3 it (Or.inr rfl))
      have hf3 : W3.heap[fb]? = W.heap[fb]? := (hk3 fb (Or.inl rfl)).trans HFK.out
      have hg30 : W3.cell? ⟨fb, 0, none⟩ = some (.int .i64 p) := (World.cell?_of_block (a := ⟨fb, 0, none⟩) hf3).trans hg0
      have hg31 : W3.cell? ⟨fb, 1, none⟩ = some (.int .i64 t) := (World.cell?_of_block (a := ⟨fb, 1, none⟩) hf3).trans hg1
      have HR3 := hid hr3
      have HF3 := hid hf3
      have HJ3 := hid hJ3
      clear hr3 hf3 hJ3 hk3 hg0 hg1
      obtain ⟨L, hL⟩ : ∃ L, L = dig (t + 1) p k := ⟨_, rfl⟩
      have hLlen : L.length = p := by rw [hL, length_dig]
      have HL := hid hL
      have HLL := hid hLlen
      clear hLlen hL
      gi_wp2
      gi_loopw [4] (fun i wi => ∃ i0 : Int, i = .int .i64 i0 ∧ -1 ≤ i0 ∧ i0 < p ∧ IntRow wi 3 it (L.take (i0 + 1).toNat ++ List.replicate (p - (i0 + 1).toNat) 0) ∧ L = L.take (i0 + 1).toNat ++ List.replicate (p - (i0 + 1).toNat) (t : Int) ∧ Keep (fun k => k ≠ it) W3 wi) (fun i _ => (intOf i + 1).toNat)
      case atStart =>
        refine ⟨p - 1, by first | rfl | (congr 1), by omega, by omega, ?_, ?_, Keep.refl _ _⟩
        · have : ((p : Int) - 1 + 1).toNat = p := by omega
          rw [this, List.take_of_length_le (by have := HLL.out; omega), HL.out]; simpa using HR3.out
        · have : ((p : Int) - 1 + 1).toNat = p := by omega
          rw [this, List.take_of_length_le (by have := HLL.out; omega)]; simp
      case round =>
        obtain ⟨i0, rfl, hi1, hi2, hri, hLi, hki⟩ := hrel
        have HLi := hid hLi
        clear hLi
        have hgi1 : wr.cell? ⟨fb, 1, none⟩ = some (.int .i64 t) := hki.cell hg31 (by omega)
        by_cases h0 : 0 ≤ i0
        · obtain ⟨m, rfl⟩ := Int.eq_ofNat_of_zero_le h0
          have e1 : ((m : Int) + 1).toNat = m + 1 := by omega
          rw [e1] at hri
          have HLi' : Hid (L = L.take (m + 1) ++ List.replicate (p - (m + 1)) (t : Int)) := by have := HLi.out; rw [e1] at this; exact this
          clear e1 HLi
          have hmL : m < L.length := by have := HLL.out; omega
          have hget : (L.take (m + 1) ++ List.replicate (p - (m + 1)) (0 : Int))[m]?.getD 0 = L[m]?.getD 0 := by
            rw [List.getElem?_append_left (by rw [List.length_take]; omega), List.getElem?_take, if_pos (by omega)]
          have hc : wr.cell? ⟨it, m, none⟩ = some (.int .i64 (L[m]?.getD 0)) := by rw [← hget]; exact hri.cell (by rw [List.length_append, List.length_take]; omega)
          have hz : wr.frozen? ⟨it, m, none⟩ = false := hri.frozen m
          have hmp : m < p := by omega
          have HRI := hid hri
          have HML := hid hmL
          clear hri hget hmL hi1 hi2
          have hbd : 0 ≤ L[m]?.getD 0 ∧ L[m]?.getD 0 < ((t + 1 : Nat) : Int) := by
            rw [List.getElem?_eq_getElem HML.out]
            exact dig_mem (by omega) p k _ (by rw [← HL.out]; exact List.getElem_mem HML.out)
          have hwrap : wrap64 (L[m]?.getD 0 + 1) = L[m]?.getD 0 + 1 := by unfold wrap64; omega
          have HW := hid hwrap
          have HBD := hid hbd
          clear hwrap hbd
          cases ht' : (L[m]?.getD 0 == (t : Int))
          · gi_wp2
            gi_quiet (fail)
            gi_wp2
            have hne : L[m]?.getD 0 ≠ ((t + 1 : Nat) : Int) - 1 := by
              intro e; rw [beq_eq_false_iff_ne] at ht'; apply ht'; omega
            have hLd : dig (t + 1) p k = L.take m ++ [L[m]?.getD 0] ++ List.replicate (p - (m + 1)) (((t + 1 : Nat) : Int) - 1) := by
              rw [← HL.out, ← take_one HML.out, show ((t + 1 : Nat) : Int) - 1 = (t : Int) from by omega]; exact HLi'.out
            have hlt1 := dig_not_last (by omega) hk hLd hne
            have hsucc := dig_succ (by omega) _ _ _ _ _ hLd hne
            have hrow : IntRow ((wr.drewN nq).setCell ⟨it, m, none⟩ (.int .i64 (wrap64 (L[m]?.getD 0 + 1)))) 3 it (dig (t + 1) p (k + 1)) := by
              rw [HW.out, hsucc, ← take_set HML.out]
              exact IntRow.set (w := wr.drewN nq) HRI.out m _
            have hkeep : Keep (fun k => k ≠ it) W3 ((wr.drewN nq).setCell ⟨it, m, none⟩ (.int .i64 (wrap64 (L[m]?.getD 0 + 1)))) :=
              (hki.drewN nq).trans (Keep.set (wr.drewN nq) it m _)
            have hsz3 := hkeep.size
            refine ⟨⟨k + 1, hlt1, ?_, hrow, (hkeep.block fb (by have := HI.out; omega) (by omega)).trans HF3.out, by omega⟩, ?_⟩
            · rw [List.range_succ, List.map_append]
              exact HJ.out it _ W3 _ (by have := HI.out; omega) HJ3.out hkeep
            · rw [cellsNum_row hrow, cellsNum_row HRK.out, undig_dig (by omega) _ _ hlt1, undig_dig (by omega) _ _ hk]
              omega
          · gi_wp2
            gi_quiet (fail)
            gi_wp2
            have e2 : ((m : Int) - 1 + 1).toNat = m := by omega
            have htm : L[m]?.getD 0 = (t : Int) := by simpa using ht'
            refine ⟨⟨(m : Int) - 1, rfl, by omega, by omega, ?_, ?_, (hki.drewN nq).trans (Keep.set (wr.drewN nq) it m _)⟩, ?_⟩
            · rw [e2, ← rep_cons p m hmp, ← List.append_assoc, ← take_set HML.out]
              exact IntRow.set (w := wr.drewN nq) HRI.out m _
            · rw [e2, ← rep_cons p m hmp, ← List.append_assoc]
              have := HLi'.out
              rw [take_one HML.out, htm] at this
              exact this
            · simp [intOf]
        · obtain rfl : i0 = -1 := by omega
          have hn0 : decide ((0 : Int) ≤ -1) = false := by decide
          have hLast : dig (t + 1) p k = List.replicate p (((t + 1 : Nat) : Int) - 1) := by
            rw [show ((t + 1 : Nat) : Int) - 1 = (t : Int) from by omega, ← HL.out]
            have := HLi.out
            simpa using this
          have hend := dig_last (by omega) p k hk hLast
          have HEnd := hid hend
          clear hend hLast
          gi_wp2
          gi_quiet (fail)
          gi_wp2
          refine bodyPost_ret (results_none rfl _ _ _) rfl ?_
          refine ⟨⟨_, rfl⟩, .inl ⟨it, by have := HI.out; omega, ?_⟩⟩
          have e : pics (t + 1) p = (List.range k).map (dig (t + 1) p) ++ [dig (t + 1) p k] := by
            unfold pics; rw [← HEnd.out, List.range_succ, List.map_append]; rfl
          rw [e]
          exact HJ.out it _ W3 _ (by have := HI.out; omega) HJ3.out (hki.drewN nq)
    · gi_wp2
      go_end0
      exact ⟨⟨_, rfl⟩, .inr ⟨_, pics_take _ _ _ hk, hJx⟩⟩
end Go.Proofs.YtofcpmfbeobgiaaDoor

namespace Go.Proofs.YtofcpmfbeobgiaaDoor
open Go.RowKit
set_option linter.unusedVariables false

def RowsAt (w : World) (a : Option Addr) (ls : List (List Int)) : Prop :=
  ∀ j (hj : j < ls.length), ∃ b off ra n cap, a = some ⟨b, off, none⟩ ∧ b < w.heap.size ∧ w.cell? ⟨b, off + j, none⟩ = some (.slice ra n cap) ∧ ls[j].length = n ∧ n ≤ maxLen ∧ IntsAt w ra ls[j]
theorem RowsAt.below {w w' : World} {a : Option Addr} {l : List (List Int)} (h : RowsAt w a l) (hb : Below w.heap.size w w') : RowsAt w' a l := by
  intro j hj
  obtain ⟨b, off, ra, n, cap, e, hlt, h0, hn, hm, hi⟩ := h j hj
  exact ⟨b, off, ra, n, cap, e, Nat.lt_of_lt_of_le hlt hb.size, (hb.cell (p := ⟨b, _, none⟩) hlt).trans h0, hn, hm, hi.below hb⟩

def ElemI (E : TypeId) (W : World) (base : Nat) (S : Nat → Prop) (v : Value) (l : List Int) : Prop :=
  ∃ a n cap, v = .slice a n cap ∧ l.length = n ∧ n ≤ maxLen ∧ ∀ j, j < l.length → ∃ b off, a = some ⟨b, off, none⟩ ∧ S b ∧ b < W.heap.size ∧
    (b < base ∨ ∃ c f, W.heap[b]? = some (.cells c E f)) ∧ W.cell? ⟨b, off + j, none⟩ = some (.int .i64 (l[j]?.getD 0))

theorem ElemI.keep {E : TypeId} {W W' : World} {base : Nat} {S T : Nat → Prop} {v : Value} {l : List Int} (h : ElemI E W base S v l) (hk : Keep T W W')
    (hT : ∀ b, S b → b < W.heap.size → (b < base ∨ ∃ c f, W.heap[b]? = some (.cells c E f)) → T b) : ElemI E W' base S v l := by
  obtain ⟨a, n, cap, e, hn, hm, hj⟩ := h
  refine ⟨a, n, cap, e, hn, hm, fun j hlt => ?_⟩
  obtain ⟨b, off, e, hS, hb, hty, hc⟩ := hj j hlt
  have ht := hT b hS hb hty
  refine ⟨b, off, e, hS, Nat.lt_of_lt_of_le hb hk.size, ?_, hk.cell hc ht⟩
  rcases hty with h | ⟨c, f, h⟩
  · exact .inl h
  · exact .inr ⟨c, f, (hk.block b hb ht).trans h⟩

theorem ElemI.ints {E : TypeId} {W : World} {base : Nat} {S : Nat → Prop} {l : List Int} {a : Option Addr} {n cap : Nat} (h : ElemI E W base S (.slice a n cap) l) : l.length = n ∧ n ≤ maxLen ∧ IntsAt W a l := by
  obtain ⟨a', n', cap', e, hn, hm, hj⟩ := h
  cases e
  refine ⟨hn, hm, fun j hlt => ?_⟩
  obtain ⟨b, off, e, _, hb, _, hc⟩ := hj j hlt
  exact ⟨b, off, e, hb, hc⟩

theorem ElemI.own {E : TypeId} {W : World} {b0 base : Nat} {S : Nat → Prop} {v : Value} {l : List Int} (h : W.ownsRow b0 E 1 v l.length (l.map (Value.int .i64))) (hm : l.length ≤ maxLen) (hS : ∀ b, b0 ≤ b → S b) : ElemI E W base S v l := by
  obtain ⟨h1, h2⟩ := h
  rcases h2 with ⟨rfl, h0⟩ | ⟨g, cap, cur, rfl, hg, hh, hnc, hcm, hsz, htk⟩
  · exact ⟨none, 0, 0, rfl, h0, by unfold maxLen; omega, fun j hj => by omega⟩
  · refine ⟨_, _, cap, rfl, rfl, hm, fun j hj => ⟨g, 0, rfl, hS g hg, (Array.getElem?_eq_some_iff.1 hh).1, .inr ⟨cur, _, hh⟩, ?_⟩⟩
    rw [Nat.zero_add]
    have := World.ownsRow.cellAt (w := W) (base := b0) (e := E) (size := 1) (g := g) (n := l.length) (cap := cap) (xs := l.map (Value.int .i64)) ⟨h1, .inr ⟨g, cap, cur, rfl, hg, hh, hnc, hcm, hsz, htk⟩⟩ j (by omega)
    rw [this, List.getElem?_map, List.getElem?_eq_getElem hj]; rfl

theorem ownsRow_slice {W : World} {base : Nat} {e : TypeId} {size : Nat} {v : Value} {n : Nat} {xs : List Value} (h : W.ownsRow base e size v n xs) : ∃ a cap, v = .slice a n cap := by
  rcases h.2 with ⟨rfl, rfl⟩ | ⟨g, cap, cur, rfl, _⟩
  · exact ⟨_, _, rfl⟩
  · exact ⟨_, _, rfl⟩

def RowsO (E T : TypeId) (W : World) (base : Nat) (S : Nat → Prop) (v : Value) (ls : List (List Int)) : Prop :=
  ∃ vs, W.ownsRow base T 1 v ls.length vs ∧ (∀ k, v.ownBlock = some k → S k) ∧ ∀ j (hj : j < ls.length), ∃ u, vs[j]? = some u ∧ ElemI E W base S u ls[j]

theorem RowsO.nil (E T : TypeId) (W : World) (base : Nat) (S : Nat → Prop) : RowsO E T W base S (.slice none 0 0) [] :=
  ⟨[], World.ownsRow_nil _ _ _ _, fun k hk => by simp [Value.ownBlock] at hk, fun j hj => by simp at hj⟩

theorem RowsO.keep {E T : TypeId} {W W' : World} {base : Nat} {S : Nat → Prop} {v : Value} {ls : List (List Int)} (h : RowsO E T W base S v ls) (hk : Keep S W W') : RowsO E T W' base S v ls := by
  obtain ⟨vs, ho, hg, he⟩ := h
  refine ⟨vs, ⟨ho.1, ?_⟩, hg, fun j hj => ?_⟩
  · rcases ho.2 with hn | ⟨g, cap, cur, rfl, hb, hgg, rest⟩
    · exact .inl hn
    · exact .inr ⟨g, cap, cur, rfl, hb, (hk.block g (Array.getElem?_eq_some_iff.1 hgg).1 (hg g rfl)).trans hgg, rest⟩
  · obtain ⟨u, hu, hel⟩ := he j hj
    exact ⟨u, hu, hel.keep hk fun b hS _ _ => hS⟩

theorem RowsO.free {E T : TypeId} {W : World} {base : Nat} {S : Nat → Prop} {v : Value} {ls : List (List Int)} (h : RowsO E T W base S v ls) : RowsO E T W base (fun _ => True) v ls := by
  obtain ⟨vs, ho, hg, he⟩ := h
  refine ⟨vs, ho, fun _ _ => trivial, fun j hj => ?_⟩
  obtain ⟨u, hu, a, n, cap, e, hn, hm, hel⟩ := he j hj
  refine ⟨u, hu, a, n, cap, e, hn, hm, fun i hi => ?_⟩
  obtain ⟨b, off, e, _, rest⟩ := hel i hi
  exact ⟨b, off, e, trivial, rest⟩

theorem RowsO.snoc {E T : TypeId} (hET : E ≠ T) {W w1 w2 : World} {base : Nat} {S : Nat → Prop} {v v' u : Value} {ls : List (List Int)} {l : List Int} {vs : List Value}
    (ho : W.ownsRow base T 1 v ls.length vs) (he : ∀ j (hj : j < ls.length), ∃ u, vs[j]? = some u ∧ ElemI E W base S u ls[j]) (hu : ElemI E W base S u l)
    (hW1 : Below W.heap.size W w1) (hg : w1.grownBy w2 v.ownBlock) (ho' : w2.ownsRow base T 1 v' (ls.length + 1) (vs ++ [u])) (hS' : ∀ k, v'.ownBlock = some k → S k) : RowsO E T w2 base S v' (ls ++ [l]) := by
  have hlen : vs.length = ls.length := by have := ho.1; omega
  have hgb : ∀ b, (b < base ∨ ∃ c f, W.heap[b]? = some (.cells c E f)) → b < W.heap.size → w2.heap[b]? = W.heap[b]? := by
    intro b hty hb
    refine (hg.block b (Nat.lt_of_lt_of_le hb hW1.size) ?_).trans (hW1.block b hb)
    rcases ho.2 with ⟨rfl, _⟩ | ⟨g, cap, cur, rfl, hbg, hgg, _⟩
    · simp [Value.ownBlock]
    · intro e
      obtain rfl : b = g := by simpa [Value.ownBlock] using e
      rcases hty with h | ⟨c, f, h⟩
      · omega
      · rw [h] at hgg; cases hgg; exact hET rfl
  have hel : ∀ u l, ElemI E W base S u l → ElemI E w2 base S u l := by
    intro u l h
    refine h.keep (T := fun b => b < W.heap.size ∧ (b < base ∨ ∃ c f, W.heap[b]? = some (.cells c E f))) ⟨hg.os.trans hW1.os, hg.tape.trans hW1.tape, hg.output.trans hW1.output, Nat.le_trans hW1.size hg.size, fun k hk hT => hgb k hT.2 hk⟩ fun b _ hb hty => ⟨hb, hty⟩
  refine ⟨vs ++ [u], by simpa using ho', hS', fun j hj => ?_⟩
  by_cases e : j < ls.length
  · obtain ⟨u', hu', hel'⟩ := he j e
    refine ⟨u', by rw [List.getElem?_append_left (by omega)]; exact hu', ?_⟩
    rw [List.getElem_append_left e]
    exact hel _ _ hel'
  · have : j = ls.length := by simp at hj; omega
    subst this
    refine ⟨u, by rw [List.getElem?_append_right (by omega), hlen]; simp, ?_⟩
    simp only [List.getElem_append_right (Nat.le_refl _), Nat.sub_self, List.getElem_cons_zero]
    exact hel _ _ hu

theorem RowsO.reads {E T : TypeId} {W : World} {base : Nat} {S : Nat → Prop} {v : Value} {ls : List (List Int)} (h : RowsO E T W base S v ls) : ∃ a cap, v = .slice a ls.length cap ∧ ls.length ≤ maxLen ∧ RowsAt W a ls ∧ (a = none → ls = []) := by
  obtain ⟨vs, ho, hg, he⟩ := h
  rcases ho.2 with ⟨rfl, h0⟩ | ⟨g, cap, cur, rfl, hbg, hgg, hnc, hcm, hsz, htk⟩
  · have : ls = [] := List.eq_nil_of_length_eq_zero h0
    subst this
    exact ⟨none, 0, rfl, by simp, fun j hj => by simp at hj, fun _ => rfl⟩
  · refine ⟨_, cap, rfl, by omega, fun j hj => ?_, fun h => by cases h⟩
    obtain ⟨u, hu, hel⟩ := he j hj
    have hc := World.ownsRow.cellAt (w := W) (base := base) (e := T) (size := 1) (g := g) (n := ls.length) (cap := cap) (xs := vs) ⟨ho.1, .inr ⟨g, cap, cur, rfl, hbg, hgg, hnc, hcm, hsz, htk⟩⟩ j (by omega)
    obtain ⟨a', n', cap', rfl, h1, h2, h3⟩ := id hel
    obtain ⟨h1, h2, h3⟩ := hel.ints
    exact ⟨g, 0, a', n', cap', rfl, (Array.getElem?_eq_some_iff.1 hgg).1, by rw [Nat.zero_add, hc, hu], h1, h2, h3⟩
end Go.Proofs.YtofcpmfbeobgiaaDoor

namespace Go.Proofs.YtofcpmfbeobgiaaDoor
open Go.RowKit
set_option linter.unusedVariables false

section
variable {P : Program} {ops : Array Oper} {Q : Exit → Act → World → Prop} {md : Region.Mode} {S : World → Prop}

theorem wpOp_inRound (l n : Nat) {i : Nat} {K : Act → World → Prop} {a : Act} {w : World} (hd : ∀ o, ops[i]? = some o → (∀ c, o.op ≠ .defer c)) (hq : ¬ LetsOut Q)
    (h : wpOp P ops Q i K a w) : wpOpIn (Fence.wide.inRound l) n P ops Q i K a w := by
  unfold wpOp at h
  unfold wpOpIn
  cases ho : ops[i]? with
  | none => simpa [ho] using h
  | some o =>
    simp only [ho] at h ⊢
    split
    · rename_i hw
      simp only [hw, if_true] at h
      have h := h.resolve_right (fun x => hq x.2)
      refine ⟨fun f _ => trivial, ?_⟩
      rw [Fence.inRound_round, Oper.semAt_some l a.eval o (hd o ho)]
      unfold Oper.wp at h
      generalize (execOp a.eval o).run P w = r at *
      cases r with
      | ok x w' =>
        cases x <;> simp only [Oper.upon, Oper.uponIn] at h ⊢ <;> first
          | exact h
          | exact ⟨fun h => by simp [Fence.wide] at h, CallsIn.inRound l (callsIn_wide.2 h)⟩
          | (refine ⟨fun h => by simp [Fence.wide] at h, fun c cs _ => ?_⟩
             obtain ⟨v, w'', hr, hs⟩ := h c cs
             exact ⟨v, w'', hr, (StepsIn.of_steps hs).mono fun m _ => fenced_wide P m⟩)
      | halt x w' => cases x <;> simp only [Oper.upon, Oper.uponIn] at h ⊢ <;> exact h
    · rename_i hw
      simp only [hw] at h
      exact ⟨fun f _ => trivial, h⟩

def AnyT (P : Program) (md : Region.Mode) (ops : Array Oper) (Q : Exit → Act → World → Prop) (T : Nat → World → Prop) : Nat → Array Bool → Act → World → Prop
  | 0, listed, a, w => Region.ready md ops listed = [] ∧ Q .normal a w
  | fuel + 1, listed, a, w =>
    (Region.ready md ops listed = [] → Q .normal a w) ∧
    ∀ j ∈ Region.ready md ops listed, wpOp P ops Q j (fun a' w' => T j w' ∧ AnyT P md ops Q T fuel (listed.setIfInBounds j true) a' w') a w

variable {T : Nat → World → Prop}

theorem AnyT.any : ∀ (fuel : Nat) (listed : Array Bool) (a : Act) (w : World), AnyT P md ops Q T fuel listed a w → wpAny P md ops Q fuel listed a w
  | 0, _, _, _, h => h
  | fuel + 1, _, _, _, h => ⟨h.1, fun i hi => wpOp_mono (fun a' w' h' => AnyT.any fuel _ a' w' h'.2) (h.2 i hi)⟩

theorem AnyT.inRound (l n : Nat) (hd : ∀ (i : Nat) o, ops[i]? = some o → (∀ c, o.op ≠ .defer c)) (hq : ¬ LetsOut Q) : ∀ (fuel : Nat) (listed : Array Bool) (a : Act) (w : World),
    AnyT P md ops Q T fuel listed a w → wpAnyIn (Fence.wide.inRound l) n P md ops Q fuel listed a w
  | 0, _, _, _, h => h
  | fuel + 1, _, _, _, h => ⟨h.1, fun i hi => wpOpIn_mono (fun a' w' h' => AnyT.inRound l n hd hq fuel _ a' w' h'.2) (wpOp_inRound l n (hd i) hq (h.2 i hi))⟩

theorem AnyT.first {i : Nat} {oi : Oper} {v : Value} (hi : ops[i]? = some oi) (hsel : ∀ (j : Nat) (o : Oper) cs b, ops[j]? = some o → o.op ≠ .select cs b)
    (hQ : ∀ c a w, Q (.panic c) (a.put oi.dst v) w → Q (.panic c) a w)
    (hT : ∀ (j : Nat) oj, ops[j]? = some oj → (∀ e ∈ oj.after, Region.binds md e = true → e.on ≠ i) → ∀ w, T j w → S w) (hTi : ∀ w, S w → T i w) :
    ∀ (fuel : Nat) (listed : Array Bool) (a : Act) (w : World),
      (∀ j oj, ops[j]? = some oj → j ≠ i → listed.getD j true = false → (∀ e ∈ oj.after, Region.binds md e = true → e.on ≠ i) → oi.apart ops oj = true) →
      i ∈ Region.ready md ops listed → YieldsIf P ops S oi v a → S w →
      AnyT P md ops Q T fuel (listed.setIfInBounds i true) (a.put oi.dst v) w → AnyT P md ops Q T (fuel + 1) listed a w := by
  intro fuel
  induction fuel with
  | zero =>
    intro listed a w _ hr hy hS H
    refine ⟨fun h => (by rw [h] at hr; cases hr), fun j hj => ?_⟩
    by_cases e : j = i
    · subst e; exact hy.wpOp hi hS ⟨hTi w hS, H⟩
    · have h0 := ready_mono hj e
      rw [H.1] at h0; cases h0
  | succ fuel ih =>
    intro listed a w hfree hr hy hS H
    refine ⟨fun h => (by rw [h] at hr; cases hr), fun j hj => ?_⟩
    by_cases e : j = i
    · subst e; exact hy.wpOp hi hS ⟨hTi w hS, H⟩
    · obtain ⟨hun, oj, hoj, hall⟩ := mem_ready.1 hj
      have hnot : ∀ x ∈ oj.after, Region.binds md x = true → x.on ≠ i := by
        intro x hx hb heq
        have h1 := hall x hx hb
        have h0 := (mem_ready.1 hr).1
        rw [heq] at h1
        rcases Nat.lt_or_ge i listed.size with hlt | hge
        · simp [hlt] at h0 h1; rw [h0] at h1; cases h1
        · simp [Array.getElem?_eq_none hge] at h1
      refine wpOp_mono (fun a' w' h3 => ?_) (wpOp_putIf hoj (hfree j oj hoj e hun hnot) (fun cs b => hsel i oi cs b hi) (fun cs b => hsel j oj cs b hoj) hQ hy (H.2 j (ready_mono hj e)))
      have hS' := hT j oj hoj hnot w' h3.2.1
      refine ⟨h3.2.1, ih (listed.setIfInBounds j true) a' w' ?_ (ready_mono hr (fun h => e h.symm)) h3.1 hS' ?_⟩
      · intro k ok hk hki hkun hno
        refine hfree k ok hk hki ?_ hno
        by_cases hjk : j = k
        · subst hjk; exact hun
        · rwa [getD_set_ne true hjk] at hkun
      · rw [Array.setIfInBounds_comm _ _ e]; exact h3.2.2

def waits (md : Region.Mode) (ops : Array Oper) (i j : Nat) : Bool := match ops[j]? with | some o => o.after.any (fun e => Region.binds md e && e.on == i) | none => true

theorem AnyT.take {i : Nat} {oi : Oper} {v : Value} {fuel : Nat} {listed : Array Bool} {a : Act} {w : World} (hi : ops[i]? = some oi)
    (hs : Region.noSelect ops = true) (hf : Region.free md ops listed i = true) (hr : (Region.ready md ops listed).contains i = true)
    (hQ : ∀ c a w, Q (.panic c) (a.put oi.dst v) w → Q (.panic c) a w)
    (hT : ∀ j, waits md ops i j = false → ∀ w, T j w → S w) (hTi : ∀ w, S w → T i w) (hy : YieldsIf P ops S oi v a) (hS : S w)
    (h : AnyT P md ops Q T fuel (listed.setIfInBounds i true) (a.put oi.dst v) w) : AnyT P md ops Q T (fuel + 1) listed a w :=
  AnyT.first hi (Region.noSelect_spec hs) hQ (fun j oj hj hno w hw => hT j (by
    unfold waits; rw [hj]
    simp only [Array.any_eq_false]
    intro k hk
    have := hno oj.after[k] (Array.getElem_mem hk)
    cases hb : Region.binds md oj.after[k] <;> simp [hb] at this ⊢
    exact this) w hw) hTi fuel listed a w (Region.free_spec hi hf) (by simpa using hr) hy hS h

theorem AnyT.takeW {i : Nat} {oi : Oper} {v : Value} {fuel : Nat} {listed : Array Bool} {a : Act} {w : World} {Wf : Nat → Bool} (hi : ops[i]? = some oi)
    (hs : Region.noSelect ops = true) (hf : Region.free md ops listed i = true) (hr : (Region.ready md ops listed).contains i = true)
    (hQ : ∀ c a w, Q (.panic c) (a.put oi.dst v) w → Q (.panic c) a w)
    (hW : (List.range ops.size).all (fun j => waits md ops i j || Wf j) = true) (hw : Region.wanted oi (yielded ops a.tmps) = true) (hy : ∀ w, S w → (execOp a.eval oi).run P w = .ok (.value v) w) (hS : S w)
    (h : AnyT P md ops Q (fun j w => Wf j = true → S w) fuel (listed.setIfInBounds i true) (a.put oi.dst v) w) : AnyT P md ops Q (fun j w => Wf j = true → S w) (fuel + 1) listed a w :=
  AnyT.take hi hs hf hr hQ (fun j hj w hT => hT (by
    by_cases e : j < ops.size
    · have := List.all_eq_true.1 hW j (List.mem_range.2 e)
      rw [hj] at this; simpa using this
    · unfold waits at hj; rw [Array.getElem?_eq_none (by omega)] at hj; cases hj)) (fun w hS _ => hS) (.inl ⟨hw, hy⟩) hS h

theorem AnyT.next {i : Nat} {o : Oper} {fuel : Nat} {listed : Array Bool} {a : Act} {w : World} (hr : Region.ready md ops listed = [i]) (ho : ops[i]? = some o)
    (h : wpOp P ops Q i (fun a' w' => T i w' ∧ AnyT P md ops Q T fuel (listed.setIfInBounds i true) a' w') a w) : AnyT P md ops Q T (fuel + 1) listed a w :=
  ⟨fun h0 => (by rw [hr] at h0; cases h0), fun j hj => by rw [hr] at hj; obtain rfl : j = i := (by simpa using hj); exact h⟩

theorem AnyT.done {listed : Array Bool} {a : Act} {w : World} (hr : Region.ready md ops listed = []) (h : Q .normal a w) : ∀ fuel, AnyT P md ops Q T fuel listed a w
  | 0 => ⟨hr, h⟩
  | _ + 1 => ⟨fun _ => h, by rw [hr]; simp⟩

def noDefer (ops : Array Oper) : Bool := ops.all fun o => match o.op with | .defer _ => false | _ => true
theorem noDefer_spec {ops : Array Oper} (h : noDefer ops = true) (i : Nat) (o : Oper) (ho : ops[i]? = some o) (c : Call) : o.op ≠ .defer c := by
  intro e
  unfold noDefer at h
  rw [Array.all_eq_true] at h
  obtain ⟨hlt, he⟩ := Array.getElem?_eq_some_iff.1 ho
  have := h i hlt
  rw [he, e] at this
  simp at this

theorem round_region (T : Nat → World → Prop) (l n : Nat) {id : Nat} {a : Act} {w : World} (hm : P.follows .mixedOrders = true) (hd : noDefer ops = true) (hq : ¬ LetsOut Q)
    (h : AnyT P .any ops Q T ops.size (Array.replicate ops.size false) a w.drew) : (Code.region id ops true).wpIn (Fence.wide.inRound l) n P Q a w :=
  wpIn_region_any hm (AnyT.inRound l n (noDefer_spec hd) hq _ _ _ _ h)

theorem plain_region (T : Nat → World → Prop) {id : Nat} {a : Act} {w : World} (hm : P.follows .mixedOrders = true)
    (h : AnyT P .any ops Q T ops.size (Array.replicate ops.size false) a w.drew) : (Code.region id ops true).wp P Q a w :=
  wp_region_any hm (AnyT.any _ _ _ _ h)

def oneQ (K : Act → World → Prop) (Q : Exit → Act → World → Prop) : Exit → Act → World → Prop
  | .normal, a, w => K a w
  | e, a, w => Q e a w

theorem wpOp_of_list {i : Nat} {o : Oper} {K : Act → World → Prop} {a : Act} {w : World} (ho : ops[i]? = some o)
    (h : wpList P ops (oneQ K Q) [o] a w) : wpOp P ops Q i K a w := by
  unfold wpOp
  simp only [ho]
  unfold wpList at h
  split
  · rename_i hw
    simp only [hw, if_true] at h
    rcases h with h | ⟨h, hl⟩
    · refine .inl ?_
      unfold Oper.wp at h ⊢
      generalize (execOp a.eval o).run P w = r at *
      cases r with
      | ok x w' =>
        cases x <;> simp only [Oper.upon] at h ⊢ <;> first
          | exact h
          | exact Calls.mono h (fun e w'' he => by cases e <;> exact he)
      | halt x w' => cases x <;> simp only [Oper.upon] at h ⊢ <;> exact h
    · exact .inr ⟨h, hl⟩
  · rename_i hw
    simp only [hw] at h
    exact h
end
end Go.Proofs.YtofcpmfbeobgiaaDoor
