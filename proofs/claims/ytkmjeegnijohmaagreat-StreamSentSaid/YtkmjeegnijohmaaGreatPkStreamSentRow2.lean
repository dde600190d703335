/- Walks and plain laws for StreamSentRow, part 2. -/
import Derived.Test.YtkmjeegnijohmaaGreatRows
import Derived.WalkKit
import Derived.BigQuiet
import Derived.Deep.QuietTactic
import Derived.Shelf.Abstract
import Derived.Deep.OwnRows
import Derived.RangeFuncNested
import Derived.RangeFuncBound
import Derived.RangeFuncCalls
import Derived.RangeFuncLeaves
import Derived.Shelf.RegionOpen
import Derived.OwnWalkIn
import Derived.TacticsInMore
import Derived.LoopNIn
import Derived.LoopIn
import Derived.Laws.EntriesVeiled
import Derived.Test.YtkmjeegnijohmaaGreatPkStreamSentRow1
namespace Go.Proofs.YtkmjeegnijohmaaGreat
set_option linter.unusedVariables false

def upF (a : Int) : Nat → List Int
  | 0 => []
  | m + 1 => a :: upF (a + 1) m
theorem upF_len : ∀ (m : Nat) (a : Int), (upF a m).length = m
  | 0, _ => rfl
  | m + 1, a => by simp [upF, upF_len m]
def comb : Nat → Nat → Int → List (List Int)
  | _, 0, _ => [[]]
  | 0, _ + 1, _ => []
  | m + 1, k + 1, a => (comb m k (a + 1)).map (a :: ·) ++ comb m (k + 1) (a + 1)
def nextS (n : Int) : List Int → Option (List Int)
  | [] => none
  | a :: r => match nextS n r with
    | some s => some (a :: s)
    | none => if a + r.length + 1 < n then some (upF (a + 1) (r.length + 1)) else none

theorem comb_none : ∀ (m k : Nat) (a : Int), m < k → comb m k a = []
  | 0, k + 1, a, _ => rfl
  | m + 1, k + 1, a, h => by simp [comb, comb_none m k (a + 1) (by omega), comb_none m (k + 1) (a + 1) (by omega)]
theorem comb_head : ∀ (m k : Nat) (a : Int), k ≤ m → ∃ t, comb m k a = upF a k :: t
  | m, 0, a, _ => by cases m <;> exact ⟨[], rfl⟩
  | m + 1, k + 1, a, h => by
    obtain ⟨t, ht⟩ := comb_head m k (a + 1) (by omega)
    exact ⟨t.map (a :: ·) ++ comb m (k + 1) (a + 1), by simp [comb, ht, upF]⟩
theorem comb_len : ∀ (m k : Nat) (a : Int), ∀ x ∈ comb m k a, x.length = k
  | m, 0, a, x, h => by cases m <;> (simp [comb] at h; simp [h])
  | 0, k + 1, a, x, h => by simp [comb] at h
  | m + 1, k + 1, a, x, h => by
    simp only [comb, List.mem_append, List.mem_map] at h
    rcases h with ⟨y, hy, rfl⟩ | h
    · simp [comb_len m k (a + 1) y hy]
    · exact comb_len m (k + 1) (a + 1) x h
theorem comb_asc : ∀ (m k : Nat) (a : Int), ∀ x ∈ comb m k a, x.Pairwise (· < ·) ∧ ∀ y ∈ x, a ≤ y ∧ y < a + m
  | m, 0, a, x, h => by cases m <;> (simp [comb] at h; simp [h])
  | 0, k + 1, a, x, h => by simp [comb] at h
  | m + 1, k + 1, a, x, h => by
    simp only [comb, List.mem_append, List.mem_map] at h
    rcases h with ⟨y, hy, rfl⟩ | h
    · obtain ⟨h1, h2⟩ := comb_asc m k (a + 1) y hy
      refine ⟨List.pairwise_cons.2 ⟨fun z hz => by have := h2 z hz; omega, h1⟩, fun z hz => ?_⟩
      rcases List.mem_cons.1 hz with rfl | hz
      · omega
      · have := h2 z hz; omega
    · obtain ⟨h1, h2⟩ := comb_asc m (k + 1) (a + 1) x h
      exact ⟨h1, fun z hz => by have := h2 z hz; omega⟩
theorem comb_mem : ∀ (m : Nat) (a : Int) (x : List Int), x.Pairwise (· < ·) → (∀ y ∈ x, a ≤ y ∧ y < a + m) → x ∈ comb m x.length a
  | m, a, [], _, _ => by cases m <;> simp [comb]
  | 0, a, y :: x, _, h => by have := h y (by simp); omega
  | m + 1, a, y :: x, hp, h => by
    rw [List.pairwise_cons] at hp
    simp only [List.length_cons, comb, List.mem_append, List.mem_map]
    by_cases e : y = a
    · subst e
      exact .inl ⟨x, comb_mem m (y + 1) x hp.2 (fun z hz => by have := hp.1 z hz; have := h z (by simp [hz]); omega), rfl⟩
    · right
      have := h y (by simp)
      exact comb_mem m (a + 1) (y :: x) (List.pairwise_cons.2 hp) (fun z hz => by
        rcases List.mem_cons.1 hz with rfl | hz'
        · omega
        · have h1 := hp.1 z hz'; have := h z hz; omega)

def Chn (n : Int) (e : Option (List Int)) : List (List Int) → Prop
  | [] => True
  | [x] => nextS n x = e
  | x :: y :: t => nextS n x = some y ∧ Chn n e (y :: t)

theorem Chn.append {n : Int} {e : Option (List Int)} {y : List Int} {t : List (List Int)} : ∀ {l : List (List Int)}, Chn n (some y) l → Chn n e (y :: t) → Chn n e (l ++ y :: t)
  | [], _, h => h
  | [x], h, h2 => ⟨h, h2⟩
  | x :: z :: l, h, h2 => ⟨h.1, Chn.append (l := z :: l) h.2 h2⟩

theorem Chn.cons {n a : Int} {k : Nat} : ∀ {l : List (List Int)}, (∀ x ∈ l, x.length = k) → Chn n none l → Chn n (if a + k + 1 < n then some (upF (a + 1) (k + 1)) else none) (l.map (a :: ·))
  | [], _, _ => trivial
  | [x], hl, h => by
    show (match nextS n x with | some s => some (a :: s) | none => if a + x.length + 1 < n then some (upF (a + 1) (x.length + 1)) else none) = _
    have h' : nextS n x = none := h
    rw [h', hl x (by simp)]
  | x :: y :: l, hl, h => by
    refine ⟨?_, Chn.cons (l := y :: l) (fun z hz => hl z (by simp [List.mem_cons.1 hz])) h.2⟩
    show (match nextS n x with | some s => some (a :: s) | none => _) = _
    rw [h.1]

theorem comb_chn : ∀ (m k : Nat) (a : Int), Chn (a + m) none (comb m k a)
  | m, 0, a => by cases m <;> exact rfl
  | 0, k + 1, a => trivial
  | m + 1, k + 1, a => by
    have h1 := Chn.cons (n := a + (m + 1 : Nat)) (a := a) (comb_len m k (a + 1)) (by have := comb_chn m k (a + 1); rwa [show a + 1 + (m : Int) = a + (m + 1 : Nat) by omega] at this)
    have h2 := comb_chn m (k + 1) (a + 1)
    rw [show a + 1 + (m : Int) = a + (m + 1 : Nat) by omega] at h2
    show Chn _ _ ((comb m k (a + 1)).map (a :: ·) ++ comb m (k + 1) (a + 1))
    by_cases h : k + 1 ≤ m
    · obtain ⟨t, ht⟩ := comb_head m (k + 1) (a + 1) h
      rw [if_pos (by omega)] at h1
      rw [ht] at h2 ⊢
      exact h1.append h2
    · rw [if_neg (by omega)] at h1
      rw [comb_none m (k + 1) (a + 1) (by omega), List.append_nil]
      exact h1

theorem Chn.at {n : Int} : ∀ {l : List (List Int)} {i : Nat} {x : List Int}, Chn n none l → l[i]? = some x → l[i + 1]? = nextS n x
  | [], i, x, _, h => by simp at h
  | [y], 0, x, h, hi => by
    simp at hi; subst hi
    have h' : nextS n y = none := h
    rw [h']; rfl
  | [y], i + 1, x, h, hi => by simp at hi
  | y :: z :: l, 0, x, h, hi => by simp at hi; subst hi; rw [h.1]; rfl
  | y :: z :: l, i + 1, x, h, hi => Chn.at (l := z :: l) h.2 (by simpa using hi)

theorem nextS_up {n : Int} : ∀ (m : Nat) (a : Int), a + m = n → nextS n (upF a m) = none
  | 0, _, _ => rfl
  | m + 1, a, h => by
    show (match nextS n (upF (a + 1) m) with | some s => some (a :: s) | none => if a + (upF (a + 1) m).length + 1 < n then _ else none) = _
    rw [nextS_up m (a + 1) (by omega), upF_len]
    simp only []
    rw [if_neg (by omega)]
theorem nextS_at {n : Int} {m : Nat} {d : Int} (hd : d + m + 1 < n) : ∀ u : List Int, nextS n (u ++ d :: upF (n - m) m) = some (u ++ upF (d + 1) (m + 1))
  | [] => by
    show (match nextS n (upF (n - m) m) with | some s => some (d :: s) | none => if d + (upF (n - m) m).length + 1 < n then some (upF (d + 1) ((upF (n - m) m).length + 1)) else none) = _
    rw [nextS_up m (n - m) (by omega), upF_len]
    simp only []
    rw [if_pos hd]; rfl
  | a :: u => by
    show (match nextS n (u ++ d :: upF (n - m) m) with | some s => some (a :: s) | none => _) = _
    rw [nextS_at hd u]; rfl

def nextFrom (a : Int) (s : List Int) : Int := match s.getLast? with | some x => x + 1 | none => a
def extS (a n : Int) (s : List Int) : List (List Int) := (upF (nextFrom a s) (n - nextFrom a s).toNat).map (fun j => s ++ [j])

theorem comb_one : ∀ (m : Nat) (a : Int), comb m 1 a = (upF a m).map (fun j => [j])
  | 0, _ => rfl
  | m + 1, a => by
    show (comb m 0 (a + 1)).map (a :: ·) ++ comb m 1 (a + 1) = _
    have : comb m 0 (a + 1) = [[]] := by cases m <;> rfl
    rw [this, comb_one m (a + 1)]; rfl
theorem extS_cons {a n : Int} (s : List Int) : extS a n (a :: s) = (extS (a + 1) n s).map (a :: ·) := by
  unfold extS
  have e : nextFrom a (a :: s) = nextFrom (a + 1) s := by
    unfold nextFrom
    cases s with
    | nil => rfl
    | cons b s =>
      rw [List.getLast?_cons_cons, List.getLast?_eq_some_getLast (l := b :: s) (by simp)]
  rw [e, List.map_map]; rfl
theorem extS_ne {a b n : Int} {s : List Int} (h : s ≠ []) : extS a n s = extS b n s := by
  unfold extS nextFrom
  cases hs : s.getLast? with
  | none => exact absurd (List.getLast?_eq_none_iff.1 hs) h
  | some x => rfl

theorem flatMap_same {α β : Type} {f g : α → List β} : ∀ {l : List α}, (∀ x ∈ l, f x = g x) → l.flatMap f = l.flatMap g
  | [], _ => rfl
  | x :: l, h => by rw [List.flatMap_cons, List.flatMap_cons, h x (by simp), flatMap_same fun y hy => h y (by simp [hy])]

theorem comb_succ : ∀ (m k : Nat) (a : Int), comb m (k + 1) a = (comb m k a).flatMap (extS a (a + m))
  | m, 0, a => by
    rw [comb_one]
    have : comb m 0 a = [[]] := by cases m <;> rfl
    rw [this]
    simp [extS, nextFrom, show (a + (m : Int) - a).toNat = m by omega]
  | 0, k + 1, a => rfl
  | m + 1, k + 1, a => by
    show (comb m (k + 1) (a + 1)).map (a :: ·) ++ comb m (k + 2) (a + 1) = ((comb m k (a + 1)).map (a :: ·) ++ comb m (k + 1) (a + 1)).flatMap (extS a (a + (m + 1 : Nat)))
    have e : a + ((m + 1 : Nat) : Int) = a + 1 + m := by omega
    rw [e, List.flatMap_append, List.flatMap_map, comb_succ m (k + 1) (a + 1)]
    congr 1
    · conv => lhs; rw [comb_succ m k (a + 1)]
      rw [List.map_flatMap]
      congr 1
      funext s
      exact (extS_cons s).symm
    · refine flatMap_same fun s hs => extS_ne ?_
      intro h
      have := comb_len m (k + 1) (a + 1) s hs
      rw [h] at this; simp at this

def lvls (n : Nat) : Nat → List (List Int)
  | 0 => comb n 0 0
  | k + 1 => lvls n k ++ comb n (k + 1) 0
def allS (n : Nat) : List (List Int) := lvls n n
theorem lvls_flat (n : Nat) : ∀ k, [[]] ++ (lvls n k).flatMap (extS 0 n) = lvls n (k + 1)
  | 0 => by
    have h := comb_succ n 0 0
    rw [Int.zero_add] at h
    show [[]] ++ (comb n 0 0).flatMap (extS 0 n) = comb n 0 0 ++ comb n 1 0
    rw [← h]
    have : comb n 0 0 = [[]] := by cases n <;> rfl
    rw [this]
  | k + 1 => by
    have ih := lvls_flat n k
    have h := comb_succ n (k + 1) 0
    rw [Int.zero_add] at h
    show [[]] ++ (lvls n k ++ comb n (k + 1) 0).flatMap (extS 0 n) = lvls n (k + 1) ++ comb n (k + 2) 0
    rw [List.flatMap_append, ← List.append_assoc, ih, ← h]
theorem allS_flat (n : Nat) : allS n = [[]] ++ (allS n).flatMap (extS 0 n) := by
  unfold allS
  rw [lvls_flat]
  show _ = lvls n n ++ comb n (n + 1) 0
  rw [comb_none n (n + 1) 0 (by omega), List.append_nil]

theorem take_prefix_flat {α β : Type} (f : α → List β) (l : List α) (k : Nat) : (l.take k).flatMap f <+: l.flatMap f := by
  refine ⟨(l.drop k).flatMap f, ?_⟩
  rw [← List.flatMap_append, List.take_append_drop]

def grown (n at' : Nat) : List (List Int) := [[]] ++ ((allS n).take at').flatMap (extS 0 n)
theorem grown_prefix (n at' : Nat) : grown n at' <+: allS n := by
  obtain ⟨t, ht⟩ := take_prefix_flat (extS 0 (n : Int)) (allS n) at'
  refine ⟨t, ?_⟩
  conv => rhs; rw [allS_flat, ← ht]
  unfold grown
  rw [List.append_assoc]
theorem grown_get {n at' : Nat} (h : at' < (grown n at').length) : (allS n)[at']? = some (grown n at')[at'] := by
  obtain ⟨t, ht⟩ := grown_prefix n at'
  rw [← ht, List.getElem?_append_left h, List.getElem?_eq_getElem h]
theorem grown_succ {n at' : Nat} {s : List Int} (h : (allS n)[at']? = some s) : grown n (at' + 1) = grown n at' ++ extS 0 n s := by
  unfold grown
  obtain ⟨hlt, e⟩ := List.getElem?_eq_some_iff.1 h
  rw [List.take_succ_eq_append_getElem hlt, List.flatMap_append, e]
  simp
theorem grown_done {n at' : Nat} (h : (grown n at').length ≤ at') : grown n at' = allS n := by
  have key : ∀ k, (lvls n k).length ≤ (grown n at').length := by
    intro k
    induction k with
    | zero =>
      have : comb n 0 0 = [[]] := by cases n <;> rfl
      show (comb n 0 0).length ≤ _
      rw [this]; unfold grown; simp
    | succ k ih =>
      rcases Nat.lt_or_ge n (k + 1) with h1 | h1
      · show (lvls n k ++ comb n (k + 1) 0).length ≤ _
        rw [comb_none n (k + 1) 0 h1, List.append_nil]; exact ih
      · rw [← lvls_flat n k]
        -- the first levels are the beginning of all sets
        have hp : ∀ j, k ≤ j → lvls n k <+: lvls n j := by
          intro j hj
          induction j with
          | zero => rw [show k = 0 by omega]; exact List.prefix_refl _
          | succ j ih2 =>
            by_cases e : k = j + 1
            · subst e; exact List.prefix_refl _
            · exact (ih2 (by omega)).trans (List.prefix_append _ _)
        obtain ⟨t, ht⟩ := hp n (by omega)
        have e : (allS n).take at' = lvls n k ++ t.take (at' - (lvls n k).length) := by
          unfold allS; rw [← ht, List.take_append, List.take_of_length_le (by omega)]
        unfold grown
        rw [e, List.flatMap_append, ← List.append_assoc]
        simp only [List.length_append]
        omega
  have h1 := key n
  have h2 := grown_prefix n at'
  exact h2.eq_of_length_le h1
end Go.Proofs.YtkmjeegnijohmaaGreat

namespace Go.Proofs.YtkmjeegnijohmaaGreat
section
set_option linter.unusedVariables false

theorem Sp.mono {B B' : Vec → Prop} (h : ∀ v, B v → B' v) {v : Vec} (hv : Sp B v) : Sp B' v := hv.trans fun u hu => .of (h u hu)
theorem RB.mono {K K' : Nat} (h : K ≤ K') {W : Nat → Vec} {v : Vec} (hv : Sp (RB K W) v) : Sp (RB K' W) v := hv.mono fun u ⟨k, hk, e⟩ => ⟨k, by omega, e⟩

theorem Sp.split {K : Nat} {W : Nat → Vec} {v : Vec} (h : Sp (RB (K + 1) W) v) : ∃ n a : Int, n ≠ 0 ∧ Sp (RB K W) (fun c => n * v c + a * W K c) := by
  induction h with
  | of hb =>
    obtain ⟨k, hk, rfl⟩ := hb
    by_cases e : k = K
    · subst e; exact ⟨1, -1, by decide, Sp.zero.congr fun c => by grind⟩
    · exact ⟨1, 0, by decide, (RB.sp (by omega : k < K)).congr fun c => by grind⟩
  | zero => exact ⟨1, 0, by decide, Sp.zero.congr fun c => by simp⟩
  | add _ _ h1 h2 =>
    obtain ⟨n, a, hn, h1⟩ := h1
    obtain ⟨m, b, hm, h2⟩ := h2
    exact ⟨n * m, m * a + n * b, Int.mul_ne_zero hn hm, (Sp.lin m n h1 h2).congr fun c => by grind⟩
  | mul x _ h1 =>
    obtain ⟨n, a, hn, h1⟩ := h1
    exact ⟨n, x * a, hn, (Sp.mul x h1).congr fun c => by grind⟩
  | div hx _ h1 =>
    obtain ⟨n, a, hn, h1⟩ := h1
    exact ⟨n * _, a, Int.mul_ne_zero hn hx, h1.congr fun c => by grind⟩

theorem Red.le : ∀ {K : Nat} {K' : Nat} {J' : Nat → Nat} {R' : Nat → Vec} {W : Nat → Vec}, Red K' J' R' → (∀ k, k < K' → Sp (RB K W) (R' k)) → K' ≤ K
  | 0, K', J', R', W, h, hs => by
    rcases Nat.eq_zero_or_pos K' with e | e
    · omega
    · exfalso
      have : ∀ {v : Vec}, Sp (RB 0 W) v → ∀ c, v c = 0 := by
        intro v hv
        induction hv with
        | of hb => obtain ⟨k, hk, _⟩ := hb; omega
        | zero => intro c; rfl
        | add _ _ h1 h2 => intro c; simp only [h1, h2]; rfl
        | mul x _ h1 => intro c; simp only [h1]; simp
        | div hx _ h1 => intro c; exact eq_zero_of_mul hx (h1 c)
      exact h.piv 0 e (this (hs 0 e) _)
  | K + 1, K', J', R', W, h, hs => by
    rcases Classical.em (∀ k, k < K' → Sp (RB K W) (R' k)) with c | c
    · have := Red.le h c; omega
    · obtain ⟨k0, c⟩ := Classical.not_forall.1 c
      obtain ⟨hk0, c⟩ := Classical.not_imp.1 c
      obtain ⟨n, a, hn, h0⟩ := (hs k0 hk0).split
      have ha : a ≠ 0 := fun e => c (Sp.div hn (h0.congr fun c => by rw [e]; grind))
      obtain ⟨K1, rfl⟩ : ∃ K1, K' = K1 + 1 := ⟨K' - 1, by omega⟩
      have hch : ∀ k, ∃ m b : Int, k < K1 + 1 → m ≠ 0 ∧ Sp (RB K W) (fun c => m * R' k c + b * W K c) := by
        intro k
        by_cases hk : k < K1 + 1
        · obtain ⟨m, b, hm, hh⟩ := (hs k hk).split; exact ⟨m, b, fun _ => ⟨hm, hh⟩⟩
        · exact ⟨0, 0, fun h => absurd h hk⟩
      obtain ⟨sk, hsk⟩ : ∃ sk : Nat → Nat, sk = fun k => if k < k0 then k else k + 1 := ⟨_, rfl⟩
      have sk1 : ∀ k, k < K1 → sk k < K1 + 1 ∧ sk k ≠ k0 := by
        intro k hk; rw [hsk]; simp only []
        split <;> constructor <;> omega
      have sk2 : ∀ k q, sk k = sk q → k = q := by
        intro k q e; rw [hsk] at e; simp only [] at e
        split at e <;> split at e <;> omega
      have hch2 : ∀ k, ∃ V : Vec, k < K1 → Sp (RB K W) V ∧ ∃ x y : Int, x ≠ 0 ∧ ∀ c, V c = x * R' (sk k) c + y * R' k0 c := by
        intro k
        by_cases hk : k < K1
        · obtain ⟨m, b, hmb⟩ := hch (sk k)
          obtain ⟨hm, hh⟩ := hmb (sk1 k hk).1
          refine ⟨fun c => a * (m * R' (sk k) c + b * W K c) + (-b) * (n * R' k0 c + a * W K c), fun _ => ⟨Sp.lin a (-b) hh h0, a * m, -b * n, Int.mul_ne_zero ha hm, fun c => by grind⟩⟩
        · exact ⟨fun _ => 0, fun h => absurd h hk⟩
      have hV := Classical.choose_spec (Classical.axiomOfChoice hch2)
      obtain ⟨V, hV⟩ := Classical.axiomOfChoice hch2
      have : K1 ≤ K := Red.le (K := K) (J' := fun k => J' (sk k)) (R' := V) (W := W) ⟨fun k hk => by
          obtain ⟨_, x, y, hx, e⟩ := hV k hk
          obtain ⟨s1, s2⟩ := sk1 k hk
          rw [e, h.off k0 hk0 (sk k) s1 (Ne.symm s2)]
          have := h.piv (sk k) s1
          intro h9
          exact this (eq_zero_of_mul hx (by simpa using h9)),
        fun k hk q hq hne => by
          obtain ⟨_, x, y, hx, e⟩ := hV k hk
          obtain ⟨s1, s2⟩ := sk1 k hk
          obtain ⟨t1, t2⟩ := sk1 q hq
          rw [e, h.off k0 hk0 (sk q) t1 (Ne.symm t2), h.off (sk k) s1 (sk q) t1 (fun e => hne (sk2 _ _ e))]
          simp⟩ (fun k hk => (hV k hk).1)
      omega

theorem Sp.map {B B' : Vec → Prop} (f : Vec → Vec) (h0 : f (fun _ => 0) = fun _ => 0) (ha : ∀ u v, f (fun c => u c + v c) = fun c => f u c + f v c) (hm : ∀ (k : Int) u, f (fun c => k * u c) = fun c => k * f u c)
    (hB : ∀ v, B v → Sp B' (f v)) {v : Vec} (h : Sp B v) : Sp B' (f v) := by
  induction h with
  | of hb => exact hB _ hb
  | zero => rw [h0]; exact .zero
  | add _ _ h1 h2 => rw [ha]; exact .add h1 h2
  | mul k _ h1 => rw [hm]; exact .mul k h1
  | div hk _ h1 => rw [hm] at h1; exact .div hk h1

def colsF (M : List (List Int)) (S : List Int) : List (List Int) := M.map (fun r => S.map (fun j => vec r j.toNat))
def pickV (S : List Int) (v : Vec) : Vec := fun c => match S[c]? with | some j => v j.toNat | none => 0
theorem colsF_vec (r : List Int) (S : List Int) : vec (S.map (fun j => vec r j.toNat)) = pickV S (vec r) := by
  funext c
  unfold pickV
  show ((S.map (fun j => vec r j.toNat))[c]?).getD 0 = _
  rw [List.getElem?_map]
  cases S[c]? <;> rfl
theorem colsF_rowv (M : List (List Int)) (S : List Int) (q : Nat) : rowv (colsF M S) q = pickV S (rowv M q) := by
  unfold rowv colsF
  rw [List.getElem?_map]
  cases M[q]? with
  | none => funext c; unfold pickV; cases S[c]? <;> simp [vec]
  | some r => simp only [Option.map_some, Option.getD_some]; exact colsF_vec r S
theorem colsF_len (M : List (List Int)) (S : List Int) : (colsF M S).length = M.length := by simp [colsF]
theorem colsF_wid (M : List (List Int)) (S : List Int) : ∀ r ∈ colsF M S, r.length = S.length := by
  intro r hr
  obtain ⟨r', _, rfl⟩ := List.mem_map.1 hr
  simp
theorem colsF_le {M : List (List Int)} (h : ∀ r ∈ M, ∀ c, -1 ≤ vec r c ∧ vec r c ≤ 1) (S : List Int) : ∀ r ∈ colsF M S, ∀ c, -1 ≤ vec r c ∧ vec r c ≤ 1 := by
  intro r hr c
  obtain ⟨r', hr', rfl⟩ := List.mem_map.1 hr
  rw [colsF_vec]
  unfold pickV
  split
  · exact h r' hr' _
  · decide

structure MaskOk (M : List (List Int)) (n : Nat) : Prop where
  wid : ∀ r ∈ M, r.length = n
  le6 : M.length ≤ 6
  one : ∀ r ∈ M, ∀ c, -1 ≤ vec r c ∧ vec r c ≤ 1
theorem MaskOk.cols {M : List (List Int)} {n : Nat} (h : MaskOk M n) (S : List Int) : MaskOk (colsF M S) S.length :=
  ⟨colsF_wid M S, by rw [colsF_len]; exact h.le6, colsF_le h.one S⟩
theorem MaskOk.inv {M : List (List Int)} {n : Nat} (h : MaskOk M n) (t : Nat) : RInv n M.length (rowv M) t (pRed M t).1 (pRed M t).2 :=
  pRed_inv M h.wid t (fun j _ q => rowv_le (by decide) (fun r hr => h.one r hr j) q)
theorem MaskOk.below {M : List (List Int)} {n : Nat} (h : MaskOk M n) {q : Nat} (h1 : (pRed M n).2.length ≤ q) (h2 : q < M.length) (c : Nat) : rowv (pRed M n).1 q c = 0 := by
  rcases Nat.lt_or_ge c n with hc | hc
  · exact (h.inv n).zero q h1 h2 c hc
  · exact rowv_wid (h.inv n).wid q hc

def rankF (M : List (List Int)) (n : Nat) : Nat := (pRed M n).2.length
theorem MaskOk.cols_rank {M : List (List Int)} {n : Nat} (h : MaskOk M n) (S : List Int) : rankF (colsF M S) S.length ≤ rankF M n := by
  have hc := h.cols S
  have hi := hc.inv S.length
  refine Red.le (W := fun k => pickV S (rowv (pRed M n).1 k)) hi.ech.red fun k hk => ?_
  have h1 := (hi.span (fun q h1 h2 c => hc.below h1 (by rw [colsF_len] at h2 ⊢; exact h2) c)).1 (RB.sp hk)
  refine h1.trans ?_
  rintro v ⟨q, hq, rfl⟩
  rw [colsF_len] at hq
  rw [colsF_rowv]
  refine Sp.map (pickV S) ?_ ?_ ?_ ?_ (((h.inv n).span (fun q h1 h2 c => h.below h1 h2 c)).2 (RB.sp hq))
  · funext c; unfold pickV; split <;> rfl
  · intro u v; funext c; unfold pickV; split <;> simp
  · intro k u; funext c; unfold pickV; split <;> simp
  · rintro v ⟨k, hk, rfl⟩; exact .of ⟨k, hk, rfl⟩

theorem free_len {J : List Nat} {n : Nat} (hn : J.Nodup) (hl : ∀ x ∈ J, x < n) : (freeF J n).length + J.length = n := by
  have h1 : ((List.range n).filter (fun f => J.contains f)).length = J.length := by
    refine (List.Perm.length_eq ?_)
    refine (List.perm_ext_iff_of_nodup ?_ hn).2 fun x => ?_
    · exact List.Pairwise.filter _ List.nodup_range
    · simp only [List.mem_filter, List.mem_range, List.contains_iff_mem]
      exact ⟨fun h => h.2, fun h => ⟨hl x h, h⟩⟩
  have h2 := List.length_eq_countP_add_countP (fun f => J.contains f) (l := List.range n)
  rw [List.countP_eq_length_filter, List.countP_eq_length_filter, List.length_range, h1] at h2
  have e : (fun f => decide ¬(J.contains f) = true) = fun f => !J.contains f := by funext f; cases J.contains f <;> rfl
  rw [e] at h2
  unfold freeF
  omega
end

section
set_option linter.unusedVariables false

def spreadF (n : Nat) (S l : List Int) (k : Nat) : List Int := (List.range k).foldl (fun h i => h.set (S[i]?.getD 0).toNat (l[i]?.getD 0)) (List.replicate n 0)
theorem spreadF_succ (n : Nat) (S l : List Int) (k : Nat) : spreadF n S l (k + 1) = (spreadF n S l k).set (S[k]?.getD 0).toNat (l[k]?.getD 0) := by
  unfold spreadF; rw [List.range_succ, List.foldl_append]; rfl
theorem spreadF_len (n : Nat) (S l : List Int) : ∀ k, (spreadF n S l k).length = n
  | 0 => by simp [spreadF]
  | k + 1 => by rw [spreadF_succ, List.length_set]; exact spreadF_len n S l k

theorem vec_set {h : List Int} {c i : Nat} {x : Int} (hc : c < h.length) : vec (h.set c x) i = if i = c then x else vec h i := by
  unfold vec
  by_cases e : i = c
  · subst e; rw [if_pos rfl, List.getElem?_set_self hc]; rfl
  · rw [if_neg e, List.getElem?_set_ne (Ne.symm e)]

def SetOk (n : Nat) (S : List Int) : Prop := S.Pairwise (· < ·) ∧ ∀ y ∈ S, 0 ≤ y ∧ y < (n : Int)
theorem SetOk.get {n : Nat} {S : List Int} (h : SetOk n S) {i : Nat} (hi : i < S.length) : 0 ≤ S[i] ∧ S[i] < n := h.2 _ (List.getElem_mem hi)
theorem SetOk.inj {n : Nat} {S : List Int} (h : SetOk n S) {i j : Nat} (hi : i < S.length) (hj : j < S.length) (e : S[i] = S[j]) : i = j := by
  rcases Nat.lt_trichotomy i j with c | c | c
  · have := List.pairwise_iff_getElem.1 h.1 i j hi hj c; omega
  · exact c
  · have := List.pairwise_iff_getElem.1 h.1 j i hj hi c; omega

theorem spread_in {n : Nat} {S l : List Int} (h : SetOk n S) : ∀ k, k ≤ S.length → ∀ i (hi : i < S.length), i < k → vec (spreadF n S l k) (S[i]).toNat = l[i]?.getD 0
  | 0, _, i, _, h0 => by omega
  | k + 1, hk, i, hi, hik => by
    have hkS : k < S.length := by omega
    have hS : S[k]?.getD 0 = S[k] := by rw [List.getElem?_eq_getElem hkS]; rfl
    have g1 := h.get hkS
    have g2 := h.get hi
    rw [spreadF_succ, hS, vec_set (by rw [spreadF_len]; omega)]
    by_cases e : i = k
    · subst e; rw [if_pos rfl]
    · rw [if_neg (fun c => e (h.inj hi hkS (by omega)))]
      exact spread_in h k (by omega) i hi (by omega)
theorem spread_out {n : Nat} {S l : List Int} (h : SetOk n S) {c : Nat} (hc : (c : Int) ∉ S) : ∀ k, k ≤ S.length → vec (spreadF n S l k) c = 0
  | 0, _ => by
    unfold spreadF vec
    simp only [List.range_zero, List.foldl_nil, List.getElem?_replicate]
    split <;> rfl
  | k + 1, hk => by
    have hkS : k < S.length := by omega
    have hS : S[k]?.getD 0 = S[k] := by rw [List.getElem?_eq_getElem hkS]; rfl
    have g1 := h.get hkS
    rw [spreadF_succ, hS, vec_set (by rw [spreadF_len]; omega), if_neg (fun e => hc (by
      have : (c : Int) = S[k] := by omega
      rw [this]; exact List.getElem_mem hkS))]
    exact spread_out h hc k (by omega)

def firstNz : List Int → Int
  | [] => 0
  | x :: l => if x = 0 then firstNz l else x
theorem firstNz_at : ∀ {l : List Int} {i : Nat}, (∀ j, j < i → vec l j = 0) → vec l i ≠ 0 → firstNz l = vec l i
  | [], i, _, h => by simp [vec] at h
  | x :: l, 0, _, h => by
    have h' : x ≠ 0 := by simpa [vec] using h
    unfold firstNz; rw [if_neg h']; simp [vec]
  | x :: l, i + 1, h0, h => by
    have h1 := h0 0 (by omega)
    have h' : x = 0 := by simpa [vec] using h1
    unfold firstNz; rw [if_pos h']
    have := firstNz_at (l := l) (i := i) (fun j hj => by have := h0 (j + 1) (by omega); simpa [vec] using this) (by simpa [vec] using h)
    rw [this]; simp [vec]

def primV (h : List Int) : List Int := if firstNz (shortF h) < 0 then negF (shortF h) else shortF h

def kerSP (M : List (List Int)) (S : List Int) : List (List Int) := kernP (pRed (colsF M S) S.length).1 (pRed (colsF M S) S.length).2 S.length
def kerSR (M : List (List Int)) (S : List Int) : List (List Int) := kernR (rRed (colsF M S) S.length).done (rRed (colsF M S) S.length).piv S.length
def circ1P (M : List (List Int)) (n : Nat) (S : List Int) : Option (List Int) :=
  match kerSP M S with
  | [l] => if l.contains 0 then none else some (primV (spreadF n S l S.length))
  | _ => none
def circ1R (M : List (List Int)) (n : Nat) (S : List Int) : Option (List Int) :=
  match kerSR M S with
  | [l] => if l.contains 0 then none else some (if vec (spreadF n S l S.length) (S[0]?.getD 0).toNat < 0 then negF (spreadF n S l S.length) else spreadF n S l S.length)
  | _ => none

theorem kerS_same {M : List (List Int)} {n : Nat} (h : MaskOk M n) (S : List Int) : kerSP M S = kerSR M S := by
  unfold kerSP kerSR
  have hc := h.cols S
  exact kernel_same hc.wid hc.le6 (fun r hr c _ => hc.one r hr c)

theorem kerSR_prim {M : List (List Int)} {S l : List Int} (h : l ∈ kerSR M S) : ∃ r, l = shortF r := by
  unfold kerSR kernR at h
  obtain ⟨f, _, rfl⟩ := List.mem_map.1 h
  unfold kerR
  exact ⟨_, primF_eq _⟩
theorem kerSR_len {M : List (List Int)} {S l : List Int} (h : l ∈ kerSR M S) : l.length = S.length := by
  unfold kerSR kernR at h
  obtain ⟨f, _, rfl⟩ := List.mem_map.1 h
  unfold kerR rawR
  rw [primF_eq, shortF_len, fillF_len]; simp

theorem short_of_prim {h : List Int} (hp : Prim (vec h)) : shortF h = h := by
  unfold shortF
  rw [if_neg]
  intro c
  have := hp (gcdL h) (fun c => vec_mem (P := fun x => gcdL h ∣ x) (Int.dvd_zero _) (fun x hx => gcdL_dvd hx) c)
  have := Int.le_of_dvd (by decide) this
  omega

theorem circ1_same {M : List (List Int)} {n : Nat} (h : MaskOk M n) {S : List Int} (hS : SetOk n S) (hne : S ≠ []) : circ1P M n S = circ1R M n S := by
  unfold circ1P circ1R
  rw [kerS_same h]
  split
  · rename_i l hl
    by_cases h0 : l.contains 0 = true
    · rw [if_pos h0, if_pos h0]
    · rw [if_neg h0, if_neg h0]
      have hm : l ∈ kerSR M S := by rw [hl]; simp
      have hlen := kerSR_len hm
      obtain ⟨r, hr⟩ := kerSR_prim hm
      have hlp : 0 < S.length := List.length_pos_iff.2 hne
      have hnz : ∀ x ∈ l, x ≠ 0 := fun x hx e => h0 (by subst e; simpa using hx)
      have hp : Prim (vec l) := by
        rcases shortF_prim r with a | a
        · rw [hr]; exact a
        · exfalso
          have := hnz l[0] (List.getElem_mem (by omega))
          rw [← vec_lt (by omega : 0 < l.length), hr] at this
          exact this (a 0)
      have hps : Prim (vec (spreadF n S l S.length)) := by
        intro g hg
        refine hp g fun c => ?_
        rcases Nat.lt_or_ge c l.length with hc | hc
        · have := hg (S[c]'(by omega)).toNat
          rw [spread_in hS S.length (Nat.le_refl _) c (by omega) (by omega)] at this
          exact this
        · rw [vec_ge hc]; exact Int.dvd_zero _
      have hfirst : firstNz (spreadF n S l S.length) = vec (spreadF n S l S.length) (S[0]?.getD 0).toNat := by
        have hs0 : S[0]?.getD 0 = S[0] := by rw [List.getElem?_eq_getElem hlp]; rfl
        refine firstNz_at (fun j hj => spread_out hS (fun hm => ?_) _ (Nat.le_refl _)) ?_
        · obtain ⟨i, hi, e⟩ := List.mem_iff_getElem.1 hm
          have g := hS.get hlp
          rw [hs0] at hj
          rcases Nat.eq_zero_or_pos i with c | c
          · subst c; omega
          · have := List.pairwise_iff_getElem.1 hS.1 0 i hlp hi c; omega
        · rw [hs0, spread_in hS S.length (Nat.le_refl _) 0 hlp hlp, List.getElem?_eq_getElem (by omega)]
          exact hnz _ (List.getElem_mem _)
      unfold primV
      rw [short_of_prim hps, hfirst]
  · rename_i hl
    rfl

def circP (M : List (List Int)) (n : Nat) : List (List Int) := (List.range (min (rankF M n + 1) n)).flatMap fun k => (comb n (k + 1) 0).filterMap (circ1P M n)
def circR (M : List (List Int)) (n : Nat) : List (List Int) := (allS n).filterMap fun S => if S.length = 0 ∨ M.length + 1 < S.length then none else circ1R M n S

theorem comb_ok {n k : Nat} {S : List Int} (h : S ∈ comb n k 0) : SetOk n S := by
  obtain ⟨h1, h2⟩ := comb_asc n k 0 S h
  exact ⟨h1, fun y hy => by have := h2 y hy; omega⟩

theorem rank_le {M : List (List Int)} {n : Nat} (h : MaskOk M n) : rankF M n ≤ M.length := (h.inv n).K_le

theorem kerSP_len {M : List (List Int)} {n : Nat} (h : MaskOk M n) (S : List Int) : (kerSP M S).length + rankF (colsF M S) S.length = S.length := by
  unfold kerSP kernP rankF
  rw [List.length_map]
  have hi := (h.cols S).inv S.length
  exact free_len (hi.asc.imp (fun h => by omega)) hi.lt

theorem circ1_many {M : List (List Int)} {n : Nat} (h : MaskOk M n) {S : List Int} (hS : rankF M n + 1 < S.length) : circ1P M n S = none := by
  unfold circ1P
  have h1 := kerSP_len h S
  have h2 := h.cols_rank S
  split
  · rename_i l hl
    rw [hl] at h1
    simp at h1
    omega
  · rfl

theorem lvls_range (n : Nat) : ∀ k, lvls n k = (List.range (k + 1)).flatMap fun j => comb n j 0
  | 0 => by simp [lvls]
  | k + 1 => by
    show lvls n k ++ comb n (k + 1) 0 = _
    rw [lvls_range n k, List.range_succ (n := k + 1), List.flatMap_append]; simp

theorem filterMap_none {α β : Type} {f : α → Option β} : ∀ {l : List α}, (∀ x ∈ l, f x = none) → l.filterMap f = []
  | [], _ => rfl
  | x :: l, h => by rw [List.filterMap_cons, h x (by simp)]; exact filterMap_none fun y hy => h y (by simp [hy])
theorem filterMap_same {α β : Type} {f g : α → Option β} : ∀ {l : List α}, (∀ x ∈ l, f x = g x) → l.filterMap f = l.filterMap g
  | [], _ => rfl
  | x :: l, h => by rw [List.filterMap_cons, List.filterMap_cons, h x (by simp), filterMap_same fun y hy => h y (by simp [hy])]
theorem flatMap_nil' {α β : Type} {f : α → List β} {l : List α} (h : ∀ x ∈ l, f x = []) : l.flatMap f = [] := by
  rw [flatMap_same (g := fun _ => []) h]; induction l <;> simp_all
theorem filterMap_flat {α β γ : Type} (f : β → Option γ) (g : α → List β) : ∀ l : List α, (l.flatMap g).filterMap f = l.flatMap fun x => (g x).filterMap f
  | [] => rfl
  | x :: l => by rw [List.flatMap_cons, List.filterMap_append, filterMap_flat f g l, List.flatMap_cons]

theorem circ_same {M : List (List Int)} {n : Nat} (h : MaskOk M n) : circP M n = circR M n := by
  have hr := rank_le h
  unfold circR allS
  rw [lvls_range, filterMap_flat, List.range_succ_eq_map, List.flatMap_cons, List.flatMap_map]
  have e0 : (comb n 0 0).filterMap (fun S => if S.length = 0 ∨ M.length + 1 < S.length then none else circ1R M n S) = [] :=
    filterMap_none fun S hS => by rw [comb_len n 0 0 S hS, if_pos (.inl rfl)]
  rw [e0, List.nil_append]
  have e1 : ∀ k, (comb n (k + 1) 0).filterMap (fun S => if S.length = 0 ∨ M.length + 1 < S.length then none else circ1R M n S) = if k < rankF M n + 1 then (comb n (k + 1) 0).filterMap (circ1P M n) else [] := by
    intro k
    by_cases hk : k < rankF M n + 1
    · rw [if_pos hk]
      refine filterMap_same fun S hS => ?_
      have hl := comb_len n (k + 1) 0 S hS
      rw [if_neg (by omega)]
      exact (circ1_same h (comb_ok hS) (by intro e; rw [e] at hl; simp at hl)).symm
    · rw [if_neg hk]
      refine filterMap_none fun S hS => ?_
      have hl := comb_len n (k + 1) 0 S hS
      split
      · rfl
      · rw [← circ1_same h (comb_ok hS) (by intro e; rw [e] at hl; simp at hl)]
        exact circ1_many h (by omega)
  have e2 : (List.range n).flatMap (fun k => (comb n (k + 1) 0).filterMap (fun S => if S.length = 0 ∨ M.length + 1 < S.length then none else circ1R M n S)) = circP M n := by
    unfold circP
    rw [flatMap_same (g := fun k => if k < rankF M n + 1 then (comb n (k + 1) 0).filterMap (circ1P M n) else []) fun k _ => e1 k]
    rcases Nat.lt_or_ge n (rankF M n + 1) with c | c
    · rw [show min (rankF M n + 1) n = n by omega]
      exact flatMap_same fun k hk => if_pos (by have := List.mem_range.1 hk; omega)
    · rw [show min (rankF M n + 1) n = rankF M n + 1 by omega]
      have : List.range n = List.range (rankF M n + 1) ++ (List.range' (rankF M n + 1) (n - (rankF M n + 1))) := by
        rw [List.range_eq_range', List.range_eq_range']
        have := @List.range'_append_1 0 (rankF M n + 1) (n - (rankF M n + 1))
        rw [Nat.zero_add] at this
        rw [this]; congr 1; omega
      rw [this, List.flatMap_append]
      rw [flatMap_nil' (l := List.range' _ _) fun k hk => if_neg (by have := (List.mem_range'_1.1 hk).1; omega), List.append_nil]
      exact flatMap_same fun k hk => if_pos (List.mem_range.1 hk)
  exact e2.symm
end

section
set_option linter.unusedVariables false

def ofF (n d : Int) : Int × Int :=
  let g : Int := (Int.gcd n d : Nat)
  if d < 0 then (n.tdiv (-g), d.tdiv (-g)) else (n.tdiv g, d.tdiv g)
def ratioF (n d : Int) : Int × Int := (n.tdiv (Int.gcd n d : Nat), d.tdiv (Int.gcd n d : Nat))
theorem ofF_pos {n d : Int} (h : 0 < d) : ofF n d = ratioF n d := by unfold ofF ratioF; simp only []; rw [if_neg (by omega)]

def withY (R : List (List Int)) (y : List Int) : List (List Int) := List.zipWith (fun r v => r ++ [v]) R y
theorem withY_len {R : List (List Int)} {y : List Int} (h : y.length = R.length) : (withY R y).length = R.length := by simp [withY, h]
theorem withY_mem {R : List (List Int)} {y : List Int} {r : List Int} (h : r ∈ withY R y) : ∃ r' ∈ R, ∃ v ∈ y, r = r' ++ [v] := by
  unfold withY at h
  obtain ⟨i, hi, rfl⟩ := List.mem_iff_getElem.1 h
  rw [List.getElem_zipWith]
  simp at hi
  exact ⟨_, List.getElem_mem (by omega), _, List.getElem_mem (by omega), rfl⟩
theorem vec_snoc_lt {r : List Int} {v : Int} {c : Nat} (h : c < r.length) : vec (r ++ [v]) c = vec r c := by
  unfold vec; rw [List.getElem?_append_left h]

structure MaskY (R : List (List Int)) (n : Nat) (Y : Nat) : Prop where
  wid : ∀ r ∈ R, r.length = n + 1
  le6 : R.length ≤ 6
  one : ∀ r ∈ R, ∀ c, c < n → -1 ≤ vec r c ∧ vec r c ≤ 1
  all : ∀ r ∈ R, ∀ x ∈ r, -(Y : Int) ≤ x ∧ x ≤ Y
theorem MaskOk.addY {M : List (List Int)} {n : Nat} (h : MaskOk M n) {y : List Int} (hy : y.length = M.length) {Y : Nat} (hY1 : 1 ≤ Y) (hY : ∀ v ∈ y, -(Y : Int) ≤ v ∧ v ≤ Y) : MaskY (withY M y) n Y := by
  refine ⟨fun r hr => ?_, by rw [withY_len hy]; exact h.le6, fun r hr c hc => ?_, fun r hr x hx => ?_⟩
  · obtain ⟨r', h1, v, _, rfl⟩ := withY_mem hr
    simp [h.wid r' h1]
  · obtain ⟨r', h1, v, _, rfl⟩ := withY_mem hr
    rw [vec_snoc_lt (by rw [h.wid r' h1]; exact hc)]; exact h.one r' h1 c
  · obtain ⟨r', h1, v, h2, rfl⟩ := withY_mem hr
    rcases List.mem_append.1 hx with hx | hx
    · obtain ⟨c, hc, rfl⟩ := List.mem_iff_getElem.1 hx
      have := h.one r' h1 c
      rw [vec_lt hc] at this; omega
    · simp at hx; subst hx; exact hY _ h2

def solveP (R : List (List Int)) (n : Nat) : List (Int × Int) × Int :=
  let s := pRed R n
  if (s.1.drop s.2.length).any (nz n) then ([], 8)
  else if s.2.length < n then ([], 11)
  else ((List.range n).map fun k => ofF (vec (s.1[k]?.getD []) n) (vec (s.1[k]?.getD []) (jf s.2 k)), 0)
def solvedR (R : List (List Int)) (n : Nat) : List (Int × Int) × Int × Bool :=
  let s := rRed R (n + 1)
  if n ∈ s.piv then ([], 0, false)
  else ((List.range s.piv.length).foldl (fun out i => out.set (jf s.piv i) (ratioF (vec (s.done[i]?.getD []) n) (vec (s.done[i]?.getD []) (jf s.piv i)))) (List.replicate n (0, 1)), (n : Int) - s.piv.length, true)
def solveR (R : List (List Int)) (n : Nat) : List (Int × Int) × Int :=
  let s := solvedR R n
  if s.2.2 = false then ([], 8) else if 0 < s.2.1 then ([], 11) else (s.1, 0)

theorem asc_le : ∀ {J : List Nat} {a b : Nat}, J.Pairwise (· < ·) → (∀ x ∈ J, a ≤ x ∧ x < b) → J.length ≤ b - a
  | [], a, b, _, _ => Nat.zero_le _
  | x :: J, a, b, hp, hb => by
    rw [List.pairwise_cons] at hp
    have hx := hb x (by simp)
    have := asc_le (a := x + 1) (b := b) hp.2 (fun y hy => by have := hp.1 y hy; have := hb y (by simp [hy]); omega)
    simp only [List.length_cons]; omega
theorem asc_full : ∀ {J : List Nat} {a n : Nat}, J.Pairwise (· < ·) → (∀ x ∈ J, a ≤ x ∧ x < a + n) → J.length = n → J = List.range' a n
  | [], a, n, _, _, h => by simp at h; subst h; rfl
  | x :: J, a, 0, _, _, h => by simp at h
  | x :: J, a, n + 1, hp, hb, h => by
    rw [List.pairwise_cons] at hp
    have hx := hb x (by simp)
    have hlen : J.length = n := by simpa using h
    -- all others lie above x
    have hxa : x = a := by
      rcases Nat.lt_or_ge a x with c | c
      · exfalso
        have h2 := asc_le (a := a + 1) (b := a + (n + 1)) (List.pairwise_cons.2 hp) (fun y hy => by
          have := hb y hy
          rcases List.mem_cons.1 hy with rfl | hy'
          · omega
          · have := hp.1 y hy'; omega)
        simp at h2; omega
      · omega
    subst hxa
    rw [List.range'_succ]
    congr 1
    exact asc_full hp.2 (fun y hy => by have := hp.1 y hy; have := hb y (by simp [hy]); omega) hlen

theorem solve_same {R : List (List Int)} {n Y : Nat} (h : MaskY R n Y) : solveP R n = solveR R n := by
  have hi := pRed_inv R h.wid n (fun j hj q => rowv_le (by decide) (fun r hr => h.one r hr j hj) q)
  have hl := pRed_len R n
  unfold solveP solveR solvedR
  simp only []
  by_cases c : ((pRed R n).1.drop (pRed R n).2.length).any (nz n) = true
  · rw [if_pos c]
    obtain ⟨r, hr, hz⟩ := List.any_eq_true.1 c
    obtain ⟨i, hilt, rfl⟩ := List.mem_iff_getElem.1 hr
    rw [List.getElem_drop] at hz
    have hmem := red_more (m := n + 1) h.wid h.one (Nat.le_refl _) (q := (pRed R n).2.length + i) (by omega) (by rw [List.length_drop] at hilt; omega) (by
      rw [rowv_lt (by rw [List.length_drop] at hilt; omega)]; simpa [nz] using hz)
    rw [if_pos hmem]; simp
  · rw [if_neg c]
    have h0 : ∀ q, (pRed R n).2.length ≤ q → q < R.length → ∀ x, n ≤ x → x < n + 1 → rowv (pRed R n).1 q x = 0 := by
      intro q h1 h2 x hx1 hx2
      obtain rfl : x = n := by omega
      rw [rowv_lt (by omega)]
      have hm : (pRed R x).1[q]'(by omega) ∈ (pRed R x).1.drop (pRed R x).2.length := by
        rw [List.mem_drop_iff_getElem]; exact ⟨q - (pRed R x).2.length, by omega, by congr 1; omega⟩
      rcases Classical.em (vec ((pRed R x).1[q]'(by omega)) x = 0) with e | e
      · exact e
      · exact absurd (List.any_eq_true.2 ⟨_, hm, by simpa [nz] using e⟩) c
    obtain ⟨e1, e2⟩ := red_same (m := n + 1) h.wid h.one (Nat.le_refl _) h0
    rw [e2, ← e1]
    have hnm : n ∉ (pRed R n).2 := fun hm => by have := hi.lt _ hm; omega
    rw [if_neg hnm]
    simp only [Bool.true_eq_false, if_false]
    have hKn : (pRed R n).2.length ≤ n := by
      have := asc_le (a := 0) (b := n) hi.asc (fun x hx => ⟨Nat.zero_le _, hi.lt x hx⟩)
      omega
    by_cases c2 : (pRed R n).2.length < n
    · rw [if_pos c2, if_pos (by omega)]
    · rw [if_neg c2, if_neg (by omega)]
      have hK : (pRed R n).2.length = n := by omega
      have hJ := asc_full (a := 0) hi.asc (fun x hx => ⟨Nat.zero_le _, by have := hi.lt x hx; omega⟩) hK
      have hjf : ∀ k, k < n → jf (pRed R n).2 k = k := by
        intro k hk
        unfold jf
        rw [hJ, List.getElem?_range' hk]; simp
      congr 1
      rw [hK]
      -- the places filled one after the other
      have key : ∀ t, t ≤ n → (List.range t).foldl (fun (out : List (Int × Int)) i => out.set (jf (pRed R n).2 i) (ratioF (vec (((pRed R n).1.take n)[i]?.getD []) n) (vec (((pRed R n).1.take n)[i]?.getD []) (jf (pRed R n).2 i)))) (List.replicate n (0, 1)) =
          (List.range t).map (fun k => ofF (vec ((pRed R n).1[k]?.getD []) n) (vec ((pRed R n).1[k]?.getD []) (jf (pRed R n).2 k))) ++ List.replicate (n - t) (0, 1) := by
        intro t
        induction t with
        | zero => intro _; simp
        | succ t ih =>
          intro ht
          rw [List.range_succ, List.foldl_append, ih (by omega), List.map_append]
          simp only [List.foldl_cons, List.foldl_nil, List.map_cons, List.map_nil]
          rw [hjf t (by omega), List.getElem?_take_of_lt (by omega)]
          have hpos := (hi.pp t (by omega)).2
          rw [hjf t (by omega)] at hpos
          rw [ofF_pos (show 0 < vec ((pRed R n).1[t]?.getD []) t from hpos)]
          rw [show n - t = (n - (t + 1)) + 1 by omega, List.replicate_succ, List.set_append_right _ _ (by simp)]
          simp
      have := key n (Nat.le_refl _)
      rw [Nat.sub_self] at this
      simp only [List.replicate_zero, List.append_nil] at this
      rw [this]
end

section
set_option linter.unusedVariables false

def dotS (u v : Vec) (n : Nat) : Int := sm (fun c => u c * v c) n

theorem dotS_sp {B : Vec → Prop} {h : Vec} {n : Nat} (hB : ∀ u, B u → dotS u h n = 0) {v : Vec} (hv : Sp B v) : dotS v h n = 0 := by
  unfold dotS at *
  induction hv with
  | of hb => exact hB _ hb
  | zero => rw [sm_congr (g := fun _ => 0) (fun k _ => by simp), sm_zero]
  | @add u v _ _ h1 h2 => rw [sm_congr (g := fun c => u c * h c + v c * h c) (fun k _ => by grind), sm_add, h1, h2]; rfl
  | @mul k u _ h1 => rw [sm_congr (g := fun c => k * (u c * h c)) (fun k _ => by grind), sm_mul, h1]; simp
  | @div k u hk _ h1 =>
    rw [sm_congr (g := fun c => k * (u c * h c)) (fun k _ => by grind), sm_mul] at h1
    exact eq_zero_of_mul hk h1

abbrev RP (M : List (List Int)) (n : Nat) : List (List Int) := (pRed M n).1
abbrev JP (M : List (List Int)) (n : Nat) : List Nat := (pRed M n).2

theorem MaskOk.rp_le {M : List (List Int)} {n : Nat} (h : MaskOk M n) (k c : Nat) : -720 ≤ vec ((RP M n)[k]?.getD []) c ∧ vec ((RP M n)[k]?.getD []) c ≤ 720 := by
  cases hk : (RP M n)[k]? with
  | none => simp [vec]
  | some r =>
    have := (pRed_le (n := n) (Y := 1) h.wid h.le6 (fun r hr c _ => h.one r hr c) (fun r hr => mem_vec (P := fun x => -((1 : Nat) : Int) ≤ x ∧ x ≤ ((1 : Nat) : Int)) fun c => by have := h.one r hr c; omega) (Nat.le_refl n) r (List.mem_of_getElem? hk)).2
    have h2 := vec_le (Y := 720) (by decide) (fun x hx => by have := this x hx; omega) c
    simpa using h2

theorem MaskOk.span {M : List (List Int)} {n : Nat} (h : MaskOk M n) {v : Vec} : Sp (RB (JP M n).length (rowv (RP M n))) v ↔ Sp (RB M.length (rowv M)) v :=
  (h.inv n).span (fun q h1 h2 c => h.below h1 h2 c)

def IsKer (M : List (List Int)) (n : Nat) (v : Vec) : Prop := ∀ q, q < M.length → dotS (rowv M q) v n = 0
theorem MaskOk.ker_iff {M : List (List Int)} {n : Nat} (h : MaskOk M n) {v : Vec} : IsKer M n v ↔ ∀ k, k < (JP M n).length → dotS (rowv (RP M n) k) v n = 0 := by
  constructor
  · intro hk k hlt
    exact dotS_sp (B := RB M.length (rowv M)) (fun u ⟨q, hq, e⟩ => e ▸ hk q hq) (h.span.1 (RB.sp hlt))
  · intro hk q hq
    exact dotS_sp (B := RB (JP M n).length (rowv (RP M n))) (fun u ⟨k, hlt, e⟩ => e ▸ hk k hlt) (h.span.2 (RB.sp hq))

theorem MaskOk.dot_row {M : List (List Int)} {n : Nat} (h : MaskOk M n) (v : Vec) {k : Nat} (hk : k < (JP M n).length) :
    dotS (rowv (RP M n) k) v n = rowv (RP M n) k (jf (JP M n) k) * v (jf (JP M n) k) + sm (fun c => if c ∈ JP M n then 0 else rowv (RP M n) k c * v c) n := by
  have hi := h.inv n
  have hjl := hi.lt _ (jf_mem hk)
  unfold dotS
  rw [sm_congr (g := fun c => (if c = jf (JP M n) k then rowv (RP M n) k c * v c else 0) + (if c ∈ JP M n then 0 else rowv (RP M n) k c * v c)) (fun c _ => ?_), sm_add, sm_single hjl (fun c _ hne => if_neg hne), if_pos rfl]
  by_cases hc : c ∈ JP M n
  · obtain ⟨i, hlt, rfl⟩ := mem_jf hc
    rw [if_pos hc]
    by_cases e : i = k
    · subst e; simp
    · rw [hi.ech.red.off k hk i hlt (Ne.symm e)]; simp
  · rw [if_neg hc, if_neg (fun e : c = jf (JP M n) k => hc (by rw [e]; exact jf_mem hk))]; simp

theorem MaskOk.raw {M : List (List Int)} {n : Nat} (h : MaskOk M n) {f : Nat} (hf : f < n) (hfJ : f ∉ JP M n) :
    ∃ t : Int, 0 < t ∧ t ≤ 720 ∧ vec (rawP (RP M n) (JP M n) n f) f = t ∧ (∀ c, c ∉ JP M n → c ≠ f → vec (rawP (RP M n) (JP M n) n f) c = 0) ∧
      ∀ i, i < (JP M n).length → vec (rawP (RP M n) (JP M n) n f) (jf (JP M n) i) * rowv (RP M n) i (jf (JP M n) i) = -(rowv (RP M n) i f) * t := by
  obtain ⟨d, d1, d2, hk⟩ := pRed_ok (n := n) h.wid h.le6 (fun r hr c _ => h.one r hr c)
  obtain ⟨a1, a2, a3, a4, a5⟩ := rawP_vals hk hf hfJ
  refine ⟨timesP (RP M n) f (JP M n) 0 1, a1, ?_, by rw [a4 f hfJ, if_pos rfl], fun c hc hne => by rw [a4 c hc, if_neg hne], a5⟩
  have h9 := Int.le_of_dvd (by omega) a2
  have h8 : timesP (RP M n) f (JP M n) 0 1 ≤ (d : Int) := h9
  omega

theorem MaskOk.raw_ker {M : List (List Int)} {n : Nat} (h : MaskOk M n) {f : Nat} (hf : f < n) (hfJ : f ∉ JP M n) : IsKer M n (vec (rawP (RP M n) (JP M n) n f)) := by
  obtain ⟨t, ht, _, h1, h2, h3⟩ := h.raw hf hfJ
  rw [h.ker_iff]
  intro k hk
  rw [h.dot_row _ hk]
  have : sm (fun c => if c ∈ JP M n then 0 else rowv (RP M n) k c * vec (rawP (RP M n) (JP M n) n f) c) n = rowv (RP M n) k f * t := by
    rw [sm_single hf (fun c _ hne => ?_), if_neg hfJ, h1]
    by_cases hc : c ∈ JP M n
    · rw [if_pos hc]
    · rw [if_neg hc, h2 c hc hne]; simp
  rw [this]
  have := h3 k hk
  grind

theorem IsKer.short {M : List (List Int)} {n : Nat} {l : List Int} (h : IsKer M n (vec l)) : IsKer M n (vec (shortF l)) := by
  obtain ⟨g, hg, e⟩ := shortF_mul l
  intro q hq
  have := h q hq
  unfold dotS at *
  rw [sm_congr (g := fun c => g * (rowv M q c * vec (shortF l) c)) (fun c _ => by rw [← e c]; grind), sm_mul] at this
  exact eq_zero_of_mul (g := g) (by omega) this

theorem shortF_le (l : List Int) (c : Nat) : (vec (shortF l) c).natAbs ≤ (vec l c).natAbs := by
  obtain ⟨g, hg, e⟩ := shortF_mul l
  rw [← e c, Int.natAbs_mul]
  exact Nat.le_mul_of_pos_left _ (by omega)

theorem MaskOk.kern {M : List (List Int)} {n : Nat} (h : MaskOk M n) {l : List Int} (hl : l ∈ kernP (RP M n) (JP M n) n) :
    IsKer M n (vec l) ∧ l.length = n ∧ (∀ c, (vec l c).natAbs ≤ 518400) ∧ ∃ f, f < n ∧ 0 < vec l f := by
  unfold kernP at hl
  obtain ⟨f, hf, rfl⟩ := List.mem_map.1 hl
  obtain ⟨hf1, hf2⟩ := List.mem_filter.1 hf
  have hfn : f < n := by simpa using hf1
  have hfJ : f ∉ JP M n := by simpa using hf2
  obtain ⟨t, ht, ht2, h1, h2, h3⟩ := h.raw hfn hfJ
  refine ⟨(h.raw_ker hfn hfJ).short, by unfold kerP rawP; rw [shortF_len, fillF_len]; simp, fun c => ?_, f, hfn, short_pos (by rw [h1]; exact ht)⟩
  refine Nat.le_trans (shortF_le _ c) ?_
  by_cases hc : c ∈ JP M n
  · obtain ⟨i, hi, rfl⟩ := mem_jf hc
    have e := h3 i hi
    have hp : 0 < rowv (RP M n) i (jf (JP M n) i) := ((h.inv n).pp i hi).2
    have hb := h.rp_le i f
    have e2 := congrArg Int.natAbs e
    rw [Int.natAbs_mul, Int.natAbs_mul, Int.natAbs_neg] at e2
    have h5 : (vec (rawP (RP M n) (JP M n) n f) (jf (JP M n) i)).natAbs ≤ (rowv (RP M n) i f).natAbs * t.natAbs := by
      rw [← e2]; exact Nat.le_mul_of_pos_right _ (by omega)
    refine Nat.le_trans h5 ?_
    show _ ≤ 720 * 720
    exact Nat.mul_le_mul (by unfold rowv; omega) (by omega)
  · by_cases e : c = f
    · subst e; rw [h1]; omega
    · rw [h2 c hc e]; simp

theorem MaskOk.ker_one {M : List (List Int)} {n : Nat} (h : MaskOk M n) {f : Nat} (hf : freeF (JP M n) n = [f]) {v : Vec} (hv : IsKer M n v) {c : Nat} (hc : c < n) :
    v c * vec (rawP (RP M n) (JP M n) n f) f = vec (rawP (RP M n) (JP M n) n f) c * v f := by
  have hfm : f ∈ freeF (JP M n) n := by rw [hf]; simp
  obtain ⟨hf1, hf2⟩ := List.mem_filter.1 hfm
  have hfn : f < n := by simpa using hf1
  have hfJ : f ∉ JP M n := by simpa using hf2
  obtain ⟨t, ht, ht2, h1, h2, h3⟩ := h.raw hfn hfJ
  have only : ∀ c, c < n → c ∉ JP M n → c = f := fun c hc hcJ => by
    have : c ∈ freeF (JP M n) n := List.mem_filter.2 ⟨by simpa using hc, by simpa using hcJ⟩
    rw [hf] at this; simpa using this
  rw [h1]
  by_cases hcJ : c ∈ JP M n
  · obtain ⟨i, hi, rfl⟩ := mem_jf hcJ
    have hk := h.ker_iff.1 hv i hi
    rw [h.dot_row _ hi, sm_single hfn (fun c hc hne => by
      by_cases e : c ∈ JP M n
      · rw [if_pos e]
      · exact absurd (only c hc e) hne), if_neg hfJ] at hk
    have hp : 0 < rowv (RP M n) i (jf (JP M n) i) := ((h.inv n).pp i hi).2
    have e := h3 i hi
    refine Int.eq_of_mul_eq_mul_right (show rowv (RP M n) i (jf (JP M n) i) ≠ 0 by omega) ?_
    have e1 : rowv (RP M n) i (jf (JP M n) i) * v (jf (JP M n) i) = - (rowv (RP M n) i f * v f) := by omega
    calc v (jf (JP M n) i) * t * rowv (RP M n) i (jf (JP M n) i) = (rowv (RP M n) i (jf (JP M n) i) * v (jf (JP M n) i)) * t := by grind
      _ = - (rowv (RP M n) i f * v f) * t := by rw [e1]
      _ = (-(rowv (RP M n) i f) * t) * v f := by grind
      _ = _ := by rw [← e]; grind
  · have := only c hc hcJ
    subst this
    rw [h1]; exact Int.mul_comm _ _
end

section
set_option linter.unusedVariables false

theorem MaskOk.rank_ker {M : List (List Int)} {n : Nat} (h : MaskOk M n) : rankF M n + (kernP (RP M n) (JP M n) n).length = n := by
  obtain ⟨d, d1, d2, hk⟩ := pRed_ok (n := n) h.wid h.le6 (fun r hr c _ => h.one r hr c)
  unfold kernP
  rw [List.length_map]
  have := free_len hk.nodup hk.lt
  rw [Nat.add_comm]
  exact this
end
end Go.Proofs.YtkmjeegnijohmaaGreat

namespace Go.Proofs.YtkmjeegnijohmaaGreat
section
set_option linter.unusedVariables false

theorem sm_add_at {f g : Nat → Int} {p : Nat} {x : Int} : ∀ {n : Nat}, p < n → (∀ c, c < n → f c = g c + if c = p then x else 0) → sm f n = sm g n + x
  | n, hp, h => by rw [sm_congr h, sm_add, sm_single (f := fun c => if c = p then x else 0) hp (fun k _ hne => if_neg hne), if_pos rfl]

theorem dotS_set {r : Vec} {h : List Int} {p n : Nat} {x : Int} (hp : p < n) (hl : h.length = n) : dotS r (vec (h.set p x)) n = dotS r (vec h) n + r p * (x - vec h p) := by
  unfold dotS
  refine sm_add_at hp fun c hc => ?_
  rw [vec_set (by omega)]
  by_cases e : c = p
  · subst e; rw [if_pos rfl, if_pos rfl]; grind
  · rw [if_neg e, if_neg e]; grind

theorem spread_before {n : Nat} {S l : List Int} (h : SetOk n S) {k : Nat} (hk : k < S.length) : ∀ t, t ≤ k → vec (spreadF n S l t) (S[k]).toNat = 0
  | 0, _ => by
    unfold spreadF vec
    simp only [List.range_zero, List.foldl_nil, List.getElem?_replicate]
    split <;> rfl
  | t + 1, ht => by
    have htS : t < S.length := by omega
    have hS : S[t]?.getD 0 = S[t] := by rw [List.getElem?_eq_getElem htS]; rfl
    have g1 := h.get htS
    have g2 := h.get hk
    rw [spreadF_succ, hS, vec_set (by rw [spreadF_len]; omega), if_neg (fun c => by have := h.inj hk htS (by omega); omega)]
    exact spread_before h hk t (by omega)

theorem dot_spread {n : Nat} {S l : List Int} (h : SetOk n S) (r : Vec) : ∀ k, k ≤ S.length → dotS r (vec (spreadF n S l k)) n = sm (fun i => pickV S r i * vec l i) k
  | 0, _ => by
    unfold dotS
    rw [sm_congr (g := fun _ => 0) (fun c _ => ?_), sm_zero]; rfl
    unfold spreadF vec
    simp only [List.range_zero, List.foldl_nil, List.getElem?_replicate]
    split <;> simp
  | k + 1, hk => by
    have hkS : k < S.length := by omega
    have hS : S[k]?.getD 0 = S[k] := by rw [List.getElem?_eq_getElem hkS]; rfl
    have g1 := h.get hkS
    rw [spreadF_succ, hS, dotS_set (by omega) (spreadF_len n S l k), dot_spread h r k (by omega), spread_before h hkS k (Nat.le_refl _)]
    have : pickV S r k = r (S[k]).toNat := by unfold pickV; rw [List.getElem?_eq_getElem hkS]
    show _ = sm _ k + pickV S r k * vec l k
    rw [this]
    unfold vec
    simp

theorem spread_ker {M : List (List Int)} {n : Nat} {S l : List Int} (h : SetOk n S) : IsKer M n (vec (spreadF n S l S.length)) ↔ IsKer (colsF M S) S.length (vec l) := by
  unfold IsKer
  rw [colsF_len]
  have : ∀ q, dotS (rowv M q) (vec (spreadF n S l S.length)) n = dotS (rowv (colsF M S) q) (vec l) S.length := fun q => by
    rw [dot_spread h _ _ (Nat.le_refl _), colsF_rowv]; rfl
  constructor
  · intro hk q hq; rw [← this]; exact hk q hq
  · intro hk q hq; rw [this]; exact hk q hq

theorem spread_nz {n : Nat} {S l : List Int} (h : SetOk n S) (hl : l.length = S.length) {c : Nat} : vec (spreadF n S l S.length) c ≠ 0 ↔ ∃ i, ∃ hi : i < S.length, S[i] = (c : Int) ∧ vec l i ≠ 0 := by
  constructor
  · intro hc
    by_cases hm : (c : Int) ∈ S
    · obtain ⟨i, hi, e⟩ := List.mem_iff_getElem.1 hm
      refine ⟨i, hi, e, fun h0 => hc ?_⟩
      have := spread_in (l := l) h S.length (Nat.le_refl _) i hi hi
      rw [show (S[i]).toNat = c by omega] at this
      rw [this]; exact h0
    · exact absurd (spread_out h hm _ (Nat.le_refl _)) hc
  · rintro ⟨i, hi, e, hz⟩ h0
    have := spread_in (l := l) h S.length (Nat.le_refl _) i hi hi
    rw [show (S[i]).toNat = c by omega, h0] at this
    exact hz this.symm

theorem spread_pick {n : Nat} {S : List Int} (h : SetOk n S) {v : Vec} (h0 : ∀ c, c < n → (c : Int) ∉ S → v c = 0) {c : Nat} (hc : c < n) : vec (spreadF n S (S.map fun j => v j.toNat) S.length) c = v c := by
  by_cases hm : (c : Int) ∈ S
  · obtain ⟨i, hi, e⟩ := List.mem_iff_getElem.1 hm
    have := spread_in (l := S.map fun j => v j.toNat) h S.length (Nat.le_refl _) i hi hi
    rw [show (S[i]).toNat = c by omega] at this
    rw [this, List.getElem?_map, List.getElem?_eq_getElem hi]
    show v (S[i]).toNat = v c
    rw [e]; rfl
  · rw [spread_out h hm _ (Nat.le_refl _), h0 c hc hm]

theorem IsKer.congr {M : List (List Int)} {n : Nat} {u v : Vec} (h : IsKer M n u) (e : ∀ c, c < n → u c = v c) : IsKer M n v := fun q hq => by
  have := h q hq
  unfold dotS at *
  rw [sm_congr (g := fun c => rowv M q c * u c) (fun c hc => by rw [e c hc])]; exact this

theorem primV_vec (h : List Int) : ∃ x y : Int, 0 < x ∧ (y = 1 ∨ y = -1) ∧ ∀ c, x * vec (primV h) c = y * vec h c := by
  obtain ⟨g, hg, e⟩ := shortF_mul h
  unfold primV
  split
  · exact ⟨g, -1, hg, .inr rfl, fun c => by rw [negF_vec, ← e c]; grind⟩
  · exact ⟨g, 1, hg, .inl rfl, fun c => by rw [e c]; omega⟩

theorem circ1_some {M : List (List Int)} {n : Nat} (h : MaskOk M n) {S c : List Int} (hS : SetOk n S) (hc : circ1P M n S = some c) :
    ∃ l, kerSP M S = [l] ∧ l.length = S.length ∧ (∀ i, i < S.length → vec l i ≠ 0) ∧ c = primV (spreadF n S l S.length) := by
  unfold circ1P at hc
  split at hc
  · rename_i l hl
    have hm : l ∈ kerSR M S := by rw [← kerS_same h, hl]; simp
    have hlen := kerSR_len hm
    by_cases h0 : l.contains 0 = true
    · rw [if_pos h0] at hc; cases hc
    · rw [if_neg h0] at hc
      cases hc
      refine ⟨l, hl, hlen, fun i hi e => h0 ?_, rfl⟩
      rw [vec_lt (by omega)] at e
      rw [List.contains_iff_mem, ← e]
      exact List.getElem_mem _
  · cases hc

theorem circ_supp {M : List (List Int)} {n : Nat} (h : MaskOk M n) {S c : List Int} (hS : SetOk n S) (hc : circ1P M n S = some c) (j : Nat) : vec c j ≠ 0 ↔ (j : Int) ∈ S := by
  obtain ⟨l, hl, hlen, hnz, rfl⟩ := circ1_some h hS hc
  obtain ⟨x, y, hx, hy, e⟩ := primV_vec (spreadF n S l S.length)
  have h1 : vec (primV (spreadF n S l S.length)) j ≠ 0 ↔ vec (spreadF n S l S.length) j ≠ 0 := by
    have := e j
    constructor
    · intro h0 h1; rw [h1] at this; exact h0 (eq_zero_of_mul (g := x) (by omega) (by simpa using this))
    · intro h0 h1; rw [h1] at this; exact h0 (eq_zero_of_mul (g := y) (by omega) (by simpa using this.symm))
  rw [h1, spread_nz hS hlen]
  constructor
  · rintro ⟨i, hi, e, _⟩; rw [← e]; exact List.getElem_mem hi
  · intro hm
    obtain ⟨i, hi, e⟩ := List.mem_iff_getElem.1 hm
    exact ⟨i, hi, e, hnz i hi⟩

theorem circP_mem {M : List (List Int)} {n : Nat} {c : List Int} : c ∈ circP M n ↔ ∃ k S, k < min (rankF M n + 1) n ∧ S ∈ comb n (k + 1) 0 ∧ circ1P M n S = some c := by
  unfold circP
  simp only [List.mem_flatMap, List.mem_range, List.mem_filterMap]
  constructor
  · rintro ⟨k, hk, S, hS, e⟩; exact ⟨k, S, hk, hS, e⟩
  · rintro ⟨k, S, hk, hS, e⟩; exact ⟨k, hk, S, hS, e⟩

theorem circ_facts {M : List (List Int)} {n : Nat} (h : MaskOk M n) {S c : List Int} (hS : SetOk n S) (hne : S ≠ []) (hc : circ1P M n S = some c) :
    c.length = n ∧ IsKer M n (vec c) ∧ (∀ j, (vec c j).natAbs ≤ 518400) ∧ Prim (vec c) ∧ 0 < firstNz c := by
  obtain ⟨l, hl, hlen, hnz, rfl⟩ := circ1_some h hS hc
  have hm : l ∈ kerSP M S := by rw [hl]; simp
  obtain ⟨k1, k2, k3, _⟩ := (h.cols S).kern hm
  obtain ⟨x, y, hx, hy, e⟩ := primV_vec (spreadF n S l S.length)
  have hkS := (spread_ker (M := M) hS).2 k1
  have hSp : 0 < S.length := List.length_pos_iff.2 hne
  refine ⟨?_, ?_, ?_, ?_, ?_⟩
  · unfold primV
    split
    · unfold negF; rw [List.length_map, shortF_len, spreadF_len]
    · rw [shortF_len, spreadF_len]
  · intro q hq
    have h1 := hkS q hq
    refine eq_zero_of_mul (g := x) (by omega) ?_
    unfold dotS at *
    rw [← sm_mul, sm_congr (g := fun c => y * (rowv M q c * vec (spreadF n S l S.length) c)) (fun c _ => by have := e c; grind), sm_mul, h1]; simp
  · intro j
    have h1 : (vec (primV (spreadF n S l S.length)) j).natAbs ≤ (vec (spreadF n S l S.length) j).natAbs := by
      have := congrArg Int.natAbs (e j)
      rw [Int.natAbs_mul, Int.natAbs_mul] at this
      have hy1 : y.natAbs = 1 := by omega
      rw [hy1, Nat.one_mul] at this
      rw [← this]; exact Nat.le_mul_of_pos_left _ (by omega)
    refine Nat.le_trans h1 ?_
    by_cases hm : (j : Int) ∈ S
    · obtain ⟨i, hi, ei⟩ := List.mem_iff_getElem.1 hm
      have := spread_in (l := l) hS S.length (Nat.le_refl _) i hi hi
      rw [show (S[i]).toNat = j by omega] at this
      rw [this]; exact k3 i
    · rw [spread_out hS hm _ (Nat.le_refl _)]; simp
  · have hp : Prim (vec (shortF (spreadF n S l S.length))) := by
      rcases shortF_prim (spreadF n S l S.length) with a | a
      · exact a
      · exfalso
        obtain ⟨g, hg, e2⟩ := shortF_mul (spreadF n S l S.length)
        have h1 := e2 (S[0]).toNat
        rw [a, spread_in hS S.length (Nat.le_refl _) 0 hSp hSp] at h1
        exact hnz 0 hSp (by unfold vec; rw [← h1]; simp)
    unfold primV
    split
    · exact prim_neg (z := -1) (.inr rfl) (fun c => by rw [negF_vec]; omega) hp
    · exact hp
  · -- the first number that is not 0
    have hz : ∀ m : List Int, (∃ j, vec m j ≠ 0) → firstNz m ≠ 0 := by
      intro m
      induction m with
      | nil => rintro ⟨j, hj⟩; simp [vec] at hj
      | cons a m ih =>
        rintro ⟨j, hj⟩
        unfold firstNz
        by_cases ha : a = 0
        · rw [if_pos ha]
          match j, hj with
          | 0, hj => simp [vec] at hj; exact absurd ha hj
          | j + 1, hj => exact ih ⟨j, by simpa [vec] using hj⟩
        · rw [if_neg ha]; exact ha
    have hn : ∀ m : List Int, firstNz (negF m) = - firstNz m := by
      intro m
      induction m with
      | nil => rfl
      | cons a m ih =>
        show (if -a = 0 then firstNz (negF m) else -a) = -(if a = 0 then firstNz m else a)
        by_cases ha : a = 0
        · rw [if_pos ha, if_pos (by omega), ih]
        · rw [if_neg ha, if_neg (by omega)]
    have hs : firstNz (shortF (spreadF n S l S.length)) ≠ 0 := by
      refine hz _ ⟨(S[0]).toNat, fun h0 => ?_⟩
      obtain ⟨g, hg, e2⟩ := shortF_mul (spreadF n S l S.length)
      have h1 := e2 (S[0]).toNat
      rw [h0, spread_in hS S.length (Nat.le_refl _) 0 hSp hSp] at h1
      exact hnz 0 hSp (by unfold vec; rw [← h1]; simp)
    unfold primV
    split
    · rw [hn]; omega
    · omega

theorem nodup_sub {α : Type} [BEq α] [LawfulBEq α] : ∀ {l m : List α}, l.Nodup → (∀ x ∈ l, x ∈ m) → l.length ≤ m.length
  | [], _, _, _ => Nat.zero_le _
  | x :: l, m, hn, h => by
    rw [List.nodup_cons] at hn
    have hx := h x (by simp)
    have := nodup_sub (l := l) (m := m.erase x) hn.2 (fun y hy => (List.mem_erase_of_ne (fun e => hn.1 (by rw [← e]; exact hy))).2 (h y (by simp [hy])))
    rw [List.length_erase_of_mem hx] at this
    have := List.length_pos_of_mem hx
    simp only [List.length_cons]; omega

def suppL (n : Nat) (v : Vec) : List Int := ((List.range n).filter (fun c => decide (v c ≠ 0))).map (fun c : Nat => (c : Int))
theorem mem_suppL {n : Nat} {v : Vec} {j : Nat} : (j : Int) ∈ suppL n v ↔ j < n ∧ v j ≠ 0 := by
  unfold suppL
  simp only [List.mem_map, List.mem_filter, List.mem_range]
  constructor
  · rintro ⟨c, ⟨h1, h2⟩, e⟩
    have : c = j := by omega
    subst this; exact ⟨h1, by simpa using h2⟩
  · rintro ⟨h1, h2⟩; exact ⟨j, ⟨h1, by simpa using h2⟩, rfl⟩
theorem suppL_ok (n : Nat) (v : Vec) : SetOk n (suppL n v) := by
  constructor
  · unfold suppL
    rw [List.pairwise_map]
    exact (List.pairwise_lt_range.filter _).imp (fun h => by omega)
  · intro y hy
    unfold suppL at hy
    obtain ⟨c, hc, rfl⟩ := List.mem_map.1 hy
    have := List.mem_range.1 (List.mem_filter.1 hc).1
    omega

theorem circ_within {M : List (List Int)} {n : Nat} (h : MaskOk M n) : ∀ (s : Nat) (v : Vec), (suppL n v).length = s → IsKer M n v → (∃ j, j < n ∧ v j ≠ 0) → ∃ S c, SetOk n S ∧ S.length ≤ s ∧ S ≠ [] ∧ (∀ y ∈ S, y ∈ suppL n v) ∧ circ1P M n S = some c := by
  intro s
  induction s using Nat.strongRecOn with
  | ind s ih =>
    intro v hs hv hne
    have hS := suppL_ok n v
    obtain ⟨S, hSe⟩ : ∃ S, S = suppL n v := ⟨_, rfl⟩
    rw [← hSe] at hS hs
    have h0 : ∀ j, j < n → (j : Int) ∉ S → v j = 0 := fun j hj hm => by
      rcases Classical.em (v j = 0) with c | c
      · exact c
      · exact absurd (by rw [hSe]; exact mem_suppL.2 ⟨hj, c⟩) hm
    have hne2 : S ≠ [] := by
      obtain ⟨j, hj, hvj⟩ := hne
      intro e
      have : (j : Int) ∈ S := by rw [hSe]; exact mem_suppL.2 ⟨hj, hvj⟩
      rw [e] at this; simp at this
    have hk : IsKer (colsF M S) S.length (vec (S.map fun j => v j.toNat)) := (spread_ker hS).1 (hv.congr fun c hc => (spread_pick hS h0 hc).symm)
    have hc := h.cols S
    have hw : ∀ i (hi : i < S.length), vec (S.map fun j => v j.toNat) i ≠ 0 := fun i hi => by
      have : vec (S.map fun j => v j.toNat) i = v (S[i]).toNat := by unfold vec; rw [List.getElem?_map, List.getElem?_eq_getElem hi]; rfl
      rw [this]
      have hm : ((S[i]).toNat : Int) ∈ suppL n v := by
        have g := hS.get hi
        rw [show ((S[i]).toNat : Int) = S[i] by omega, ← hSe]; exact List.getElem_mem hi
      exact (mem_suppL.1 hm).2
    -- the free columns
    have hfree : ∃ f, f < S.length ∧ f ∉ JP (colsF M S) S.length := by
      refine Classical.byContradiction fun hno => ?_
      have hall : ∀ f, f < S.length → f ∈ JP (colsF M S) S.length := fun f hf => Classical.byContradiction fun hn => hno ⟨f, hf, hn⟩
      have hSp : 0 < S.length := List.length_pos_iff.2 hne2
      obtain ⟨i, hi, e⟩ := mem_jf (hall 0 hSp)
      have hr := hc.ker_iff.1 hk i hi
      rw [hc.dot_row _ hi, sm_congr (g := fun _ => 0) (fun c hcl => if_pos (hall c hcl)), sm_zero, e] at hr
      have hp : 0 < rowv (RP (colsF M S) S.length) i (jf (JP (colsF M S) S.length) i) := ((hc.inv S.length).pp i hi).2
      rw [e] at hp
      rcases Int.mul_eq_zero.1 (show rowv (RP (colsF M S) S.length) i 0 * vec (S.map fun j => v j.toNat) 0 = 0 by omega) with a | a
      · omega
      · exact hw 0 hSp a
    obtain ⟨f, hf, hfJ⟩ := hfree
    have hfm : f ∈ freeF (JP (colsF M S) S.length) S.length := List.mem_filter.2 ⟨by simpa using hf, by simpa using hfJ⟩
    rcases Classical.em (∃ f2, f2 ∈ freeF (JP (colsF M S) S.length) S.length ∧ f2 ≠ f) with ⟨f2, hf2, hne3⟩ | hone
    · -- a second free column: a vector with a smaller support
      obtain ⟨g1, g2⟩ := List.mem_filter.1 hf2
      have hf2S : f2 < S.length := by simpa using g1
      have hf2J : f2 ∉ JP (colsF M S) S.length := by simpa using g2
      obtain ⟨t, ht, _, r1, r2, _⟩ := hc.raw hf hfJ
      have hrk := hc.raw_ker hf hfJ
      have hlen : (rawP (RP (colsF M S) S.length) (JP (colsF M S) S.length) S.length f).length = S.length := by unfold rawP; rw [fillF_len]; simp
      obtain ⟨u, hu⟩ : ∃ u, u = vec (spreadF n S (rawP (RP (colsF M S) S.length) (JP (colsF M S) S.length) S.length f) S.length) := ⟨_, rfl⟩
      have huk : IsKer M n u := by rw [hu]; exact (spread_ker hS).2 hrk
      have hsub : ∀ y ∈ suppL n u, y ∈ S ∧ y ≠ S[f2] := by
        intro y hy
        have gy := (suppL_ok n u).2 y hy
        have hy' : ((y.toNat : Nat) : Int) ∈ suppL n u := by rw [show ((y.toNat : Nat) : Int) = y by omega]; exact hy
        obtain ⟨_, hz⟩ := mem_suppL.1 hy'
        rw [hu] at hz
        obtain ⟨i, hi, ei, hzi⟩ := (spread_nz hS hlen).1 hz
        have e1 : S[i] = y := by omega
        refine ⟨by rw [← e1]; exact List.getElem_mem hi, fun e2 => ?_⟩
        have := hS.inj hi hf2S (by rw [e1, e2])
        subst this
        exact hzi (r2 i hf2J hne3)
      have hlt : (suppL n u).length < s := by
        have hnd : (suppL n u).Nodup := (suppL_ok n u).1.imp (fun h => by omega)
        have h1 : (S[f2] :: suppL n u).length ≤ S.length := by
          refine nodup_sub ?_ ?_
          · exact List.nodup_cons.2 ⟨fun hm => (hsub _ hm).2 rfl, hnd⟩
          · intro y hy
            rcases List.mem_cons.1 hy with rfl | hy
            · exact List.getElem_mem hf2S
            · exact (hsub y hy).1
        simp only [List.length_cons] at h1
        omega
      have hune : ∃ j, j < n ∧ u j ≠ 0 := by
        have g := hS.get hf
        refine ⟨(S[f]).toNat, by omega, ?_⟩
        rw [hu, spread_nz hS hlen]
        exact ⟨f, hf, by omega, by rw [r1]; omega⟩
      obtain ⟨T, c, t1, t2, t3, t4, t5⟩ := ih _ hlt u rfl huk hune
      exact ⟨T, c, t1, by omega, t3, fun y hy => by rw [← hSe]; exact (hsub y (t4 y hy)).1, t5⟩
    · -- one free column: a circuit
      have hone' : freeF (JP (colsF M S) S.length) S.length = [f] := by
        have hall : ∀ x ∈ freeF (JP (colsF M S) S.length) S.length, x = f := fun x hx => Classical.byContradiction fun hn => hone ⟨x, hx, hn⟩
        have hnd : (freeF (JP (colsF M S) S.length) S.length).Nodup := List.Pairwise.filter _ List.nodup_range
        match hL : freeF (JP (colsF M S) S.length) S.length, hall, hnd with
        | [], _, _ => rw [hL] at hfm; simp at hfm
        | [x], hall, _ => rw [hall x (by simp)]
        | x :: y :: t, hall, hnd =>
          have h1 := hall x (by simp)
          have h2 := hall y (by simp)
          rw [h1, h2] at hnd
          simp at hnd
      have hl : kerSP M S = [shortF (rawP (RP (colsF M S) S.length) (JP (colsF M S) S.length) S.length f)] := by
        show (freeF (JP (colsF M S) S.length) S.length).map _ = _
        rw [hone']; rfl
      refine ⟨S, primV (spreadF n S (shortF (rawP (RP (colsF M S) S.length) (JP (colsF M S) S.length) S.length f)) S.length), hS, by omega, hne2, fun y hy => by rw [← hSe]; exact hy, ?_⟩
      unfold circ1P
      rw [hl]
      simp only []
      rw [if_neg]
      intro h0'
      have hm : (0 : Int) ∈ shortF (rawP (RP (colsF M S) S.length) (JP (colsF M S) S.length) S.length f) := by simpa using h0'
      obtain ⟨i, hi, ei⟩ := List.mem_iff_getElem.1 hm
      have hiS : i < S.length := by
        rw [shortF_len] at hi
        unfold rawP at hi
        rw [fillF_len] at hi
        simpa using hi
      have h1 := hc.ker_one hone' hk hiS
      obtain ⟨g, hg, e⟩ := shortF_mul (rawP (RP (colsF M S) S.length) (JP (colsF M S) S.length) S.length f)
      have h2 := e i
      rw [vec_lt hi, ei, Int.mul_zero] at h2
      rw [← h2, Int.zero_mul] at h1
      obtain ⟨t, ht, _, r1, _⟩ := hc.raw hf hfJ
      rw [r1] at h1
      rcases Int.mul_eq_zero.1 h1 with a | a
      · exact hw i hiS a
      · omega
end

section
set_option linter.unusedVariables false

def unitF (N i : Nat) : List Int := (List.replicate N 0).set i 1
def extF (M : List (List Int)) : List (List Int) := M.mapIdx (fun i r => r ++ unitF M.length i)
theorem extF_len (M : List (List Int)) : (extF M).length = M.length := by simp [extF]
theorem extF_get {M : List (List Int)} {i : Nat} (h : i < M.length) : (extF M)[i]? = some (M[i] ++ unitF M.length i) := by
  unfold extF; rw [List.getElem?_mapIdx, List.getElem?_eq_getElem h]; rfl
theorem extF_mem {M : List (List Int)} {r : List Int} (h : r ∈ extF M) : ∃ i, ∃ hi : i < M.length, r = M[i] ++ unitF M.length i := by
  obtain ⟨i, hi, rfl⟩ := List.mem_iff_getElem.1 h
  rw [extF_len] at hi
  have := extF_get hi
  rw [List.getElem?_eq_getElem (by rw [extF_len]; exact hi)] at this
  exact ⟨i, hi, Option.some.inj this⟩
theorem unitF_len (N i : Nat) : (unitF N i).length = N := by simp [unitF]
theorem unitF_vec {N i : Nat} (hi : i < N) (c : Nat) : vec (unitF N i) c = if c = i then 1 else 0 := by
  unfold unitF
  rw [vec_set (by simpa using hi)]
  split
  · rfl
  · unfold vec; rw [List.getElem?_replicate]; split <;> rfl
theorem vec_app_lt {a b : List Int} {c : Nat} (h : c < a.length) : vec (a ++ b) c = vec a c := by unfold vec; rw [List.getElem?_append_left h]
theorem vec_app_ge {a b : List Int} {c : Nat} (h : a.length ≤ c) : vec (a ++ b) c = vec b (c - a.length) := by unfold vec; rw [List.getElem?_append_right h]

structure ExtOk (M : List (List Int)) (n : Nat) : Prop where
  wid : ∀ r ∈ extF M, r.length = n + M.length
  one : ∀ r ∈ extF M, ∀ c, -1 ≤ vec r c ∧ vec r c ≤ 1
theorem MaskOk.ext {M : List (List Int)} {n : Nat} (h : MaskOk M n) : ExtOk M n := by
  constructor
  · intro r hr
    obtain ⟨i, hi, rfl⟩ := extF_mem hr
    rw [List.length_append, unitF_len, h.wid _ (List.getElem_mem hi)]
  · intro r hr c
    obtain ⟨i, hi, rfl⟩ := extF_mem hr
    rcases Nat.lt_or_ge c (M[i]).length with hc | hc
    · rw [vec_app_lt hc]; exact h.one _ (List.getElem_mem hi) c
    · rw [vec_app_ge hc, unitF_vec hi]; split <;> decide

abbrev RE (M : List (List Int)) (n : Nat) : List (List Int) := (pRed (extF M) n).1
def truncV (n : Nat) (v : Vec) : Vec := fun c => if c < n then v c else 0
theorem truncV_sp {B B' : Vec → Prop} {n : Nat} (hB : ∀ v, B v → Sp B' (truncV n v)) {v : Vec} (h : Sp B v) : Sp B' (truncV n v) :=
  Sp.map (truncV n) (by funext c; unfold truncV; split <;> rfl) (fun u v => by funext c; unfold truncV; split <;> simp) (fun k u => by funext c; unfold truncV; split <;> simp) hB h
theorem withY_row {M : List (List Int)} {n : Nat} (h : MaskOk M n) {y : List Int} (hy : y.length = M.length) {q : Nat} (hq : q < M.length) (c : Nat) :
    rowv (withY M y) q c = if c < n then rowv M q c else if c = n then vec y q else 0 := by
  have hw := h.wid _ (List.getElem_mem hq)
  have e : (withY M y)[q]? = some (M[q] ++ [y[q]]) := by unfold withY; rw [List.getElem?_zipWith, List.getElem?_eq_getElem hq, List.getElem?_eq_getElem (by omega)]
  unfold rowv
  rw [e, List.getElem?_eq_getElem hq]
  simp only [Option.getD_some]
  by_cases hc : c < n
  · rw [if_pos hc, vec_app_lt (by rw [hw]; exact hc)]
  · rw [if_neg hc, vec_app_ge (by rw [hw]; omega), hw]
    by_cases e2 : c = n
    · rw [if_pos e2, e2, Nat.sub_self, vec_lt (l := [y[q]]) (by simp), vec_lt (l := y) (by omega)]; rfl
    · rw [if_neg e2, vec_ge (by simp; omega)]

end
end Go.Proofs.YtkmjeegnijohmaaGreat

namespace Go.Proofs.YtkmjeegnijohmaaGreat
open Go.RowKit
set_option linter.unusedVariables false

def Stop (P : Prop) : Prop := P
theorem Stop.of {P : Prop} (h : Stop P) : P := h
theorem Stop.go {P : Prop} (h : P) : Stop P := h
theorem hid {p : Prop} (h : p) : Hid p := h

def IntsAt (w : World) (a : Option Addr) (l : List Int) : Prop :=
  ∀ j, j < l.length → ∃ b off, a = some ⟨b, off, none⟩ ∧ b < w.heap.size ∧ w.cell? ⟨b, off + j, none⟩ = some (.int .i64 (l[j]?.getD 0))

theorem IntsAt.below {w w' : World} {a : Option Addr} {l : List Int} (h : IntsAt w a l) (hb : Below w.heap.size w w') : IntsAt w' a l := by
  intro j hj
  obtain ⟨b, off, e, hlt, hc⟩ := h j hj
  exact ⟨b, off, e, Nat.lt_of_lt_of_le hlt hb.size, (hb.cell (p := ⟨b, off + j, none⟩) hlt).trans hc⟩

theorem chain {a b c : World} (h : Below a.heap.size a b) (k : Below b.heap.size b c) : Below a.heap.size a c := h.trans (k.mono h.size)

theorem below_drewN {B : Nat} {a w : World} (h : Below B a w) (n : Nat) : Below B a (w.drewN n) := ⟨h.os, h.tape, h.output, h.size, h.block⟩

theorem cast1 (k : Nat) : Value.int .i64 ((k : Int) + 1) = Value.int .i64 ((k + 1 : Nat) : Int) := by congr 1

theorem ret_int {k : IntKind} {a b : Int} (h : a = b) : Ending.returned (.int k a) = .returned (.int k b) := by rw [h]
theorem ret_bool {a b : Bool} (h : a = b) : Ending.returned (.bool a) = .returned (.bool b) := by rw [h]

def idxP {α : Type} (p : α → Bool) : List α → Nat → Int
  | [], _ => -1
  | x :: l, k => if p x then (k : Int) else idxP p l (k + 1)

theorem idxP_neg {α : Type} (p : α → Bool) : ∀ (l : List α) (k : Nat), (∀ x ∈ l, p x = false) → idxP p l k = -1
  | [], _, _ => rfl
  | x :: l, k, h => by
    unfold idxP
    rw [if_neg (by rw [h x (by simp)]; simp), idxP_neg p l (k + 1) (fun y hy => h y (by simp [hy]))]

theorem idxP_at {α : Type} (p : α → Bool) : ∀ (l : List α) (k j : Nat) (x : α), l[j]? = some x → p x = true → (∀ i y, i < j → l[i]? = some y → p y = false) → idxP p l k = ((k + j : Nat) : Int)
  | [], _, j, x, h, _, _ => by simp at h
  | y :: l, k, 0, x, h, hp, _ => by
    simp at h; subst h; unfold idxP; rw [if_pos hp]; simp
  | y :: l, k, j + 1, x, h, hp, hn => by
    have h0 := hn 0 y (by omega) rfl
    unfold idxP
    rw [if_neg (by rw [h0]; simp), idxP_at p l (k + 1) j x (by simpa using h) hp (fun i z hi hz => hn (i + 1) z (by omega) (by simpa using hz))]
    congr 1; omega

theorem idxP_ge {α : Type} (p : α → Bool) : ∀ (l : List α) (k : Nat), (0 ≤ idxP p l k) = (l.any p = true)
  | [], k => by simp [idxP]
  | x :: l, k => by
    unfold idxP
    by_cases h : p x = true
    · simp [h]
    · rw [if_neg h, idxP_ge p l (k + 1)]; simp [h]

def PredI (P : Program) (g : Nat) (lb : Array Value) (w : World) (p : Int → Bool) : Prop :=
  ∀ (x : Int) (W : World), Below w.heap.size w W → Calls P g (#[.int .i64 x] ++ lb) W fun e W' => e = .returned (.bool (p x)) ∧ Below W.heap.size W W'

theorem getD_lt {l : List Int} {k : Nat} (h : k < l.length) : l[k]? = some (l[k]?.getD 0) := by
  simp [List.getElem?_eq_getElem h]

structure Cel where
  row : List Int
  lo : Int
  hi : Int

def CelV (w : World) (v : Value) (c : Cel) : Prop :=
  ∃ ra n cap, v = .agg #[.slice ra n cap, .int .i64 c.lo, .int .i64 c.hi] ∧ c.row.length = n ∧ n ≤ maxLen ∧ IntsAt w ra c.row

theorem CelV.below {w w' : World} {v : Value} {c : Cel} (h : CelV w v c) (hb : Below w.heap.size w w') : CelV w' v c := by
  obtain ⟨ra, n, cap, e, hn, hm, hi⟩ := h
  exact ⟨ra, n, cap, e, hn, hm, hi.below hb⟩

def CellsAt (w : World) (a : Option Addr) (l : List Cel) : Prop :=
  ∀ j (hj : j < l.length), ∃ b off ra n cap, a = some ⟨b, off, none⟩ ∧ b < w.heap.size ∧
    w.cell? ⟨b, off + j * 3, none⟩ = some (.slice ra n cap) ∧ w.cell? ⟨b, off + j * 3 + 1, none⟩ = some (.int .i64 l[j].lo) ∧ w.cell? ⟨b, off + j * 3 + 2, none⟩ = some (.int .i64 l[j].hi) ∧
    l[j].row.length = n ∧ n ≤ maxLen ∧ IntsAt w ra l[j].row

theorem CellsAt.below {w w' : World} {a : Option Addr} {l : List Cel} (h : CellsAt w a l) (hb : Below w.heap.size w w') : CellsAt w' a l := by
  intro j hj
  obtain ⟨b, off, ra, n, cap, e, hlt, h0, h1, h2, hn, hm, hi⟩ := h j hj
  exact ⟨b, off, ra, n, cap, e, Nat.lt_of_lt_of_le hlt hb.size, (hb.cell (p := ⟨b, _, none⟩) hlt).trans h0, (hb.cell (p := ⟨b, _, none⟩) hlt).trans h1, (hb.cell (p := ⟨b, _, none⟩) hlt).trans h2, hn, hm, hi.below hb⟩

end Go.Proofs.YtkmjeegnijohmaaGreat

namespace Go.Proofs.YtkmjeegnijohmaaGreat
open Go.RowKit
set_option linter.unusedVariables false

structure Keep (S : Nat → Prop) (A B : World) : Prop where
  os : B.os = A.os
  tape : B.tape = A.tape
  output : B.output = A.output
  size : A.heap.size ≤ B.heap.size
  block : ∀ k, k < A.heap.size → S k → B.heap[k]? = A.heap[k]?

theorem Keep.refl (S : Nat → Prop) (A : World) : Keep S A A := ⟨rfl, rfl, rfl, Nat.le_refl _, fun _ _ _ => rfl⟩
theorem Keep.trans {S : Nat → Prop} {A B C : World} (h : Keep S A B) (k : Keep S B C) : Keep S A C :=
  ⟨k.os.trans h.os, k.tape.trans h.tape, k.output.trans h.output, Nat.le_trans h.size k.size, fun i hi hs => (k.block i (Nat.lt_of_lt_of_le hi h.size) hs).trans (h.block i hi hs)⟩
theorem Keep.drewN {S : Nat → Prop} {A B : World} (h : Keep S A B) (n : Nat) : Keep S A (B.drewN n) := ⟨h.os, h.tape, h.output, h.size, h.block⟩
theorem Keep.mono {S T : Nat → Prop} {A B : World} (h : Keep S A B) (hs : ∀ k, T k → S k) : Keep T A B := ⟨h.os, h.tape, h.output, h.size, fun k hk ht => h.block k hk (hs k ht)⟩
theorem Keep.of_below {S : Nat → Prop} {A B : World} (h : Below A.heap.size A B) : Keep S A B := ⟨h.os, h.tape, h.output, h.size, fun k hk _ => h.block k hk⟩
theorem Keep.grown {A B : World} {row : Option Nat} (h : A.grownBy B row) : Keep (fun k => some k ≠ row) A B := ⟨h.os, h.tape, h.output, h.size, fun k hk hs => h.block k hk hs⟩
theorem Keep.put (A : World) (l : Nat) (o : Obj) : Keep (fun k => k ≠ l) A (A.putObj l o) := (Keep.grown (grownBy_putObj' A l o)).mono fun k hk e => hk (by cases e; rfl)
theorem Keep.set (A : World) (b o : Nat) (v : Value) : Keep (fun k => k ≠ b) A (A.setCell ⟨b, o, none⟩ v) :=
  ⟨rfl, rfl, rfl, by simp [World.setCell], fun k _ hs => Below.heap_setCell _ _ _ _ hs⟩
theorem Keep.below {S : Nat → Prop} {A B w : World} {N : Nat} (h : Keep S A B) (hb : Below N w A) (hN : N ≤ A.heap.size) (hs : ∀ k, k < N → S k) : Below N w B :=
  hb.trans ⟨h.os, h.tape, h.output, h.size, fun k hk => h.block k (by omega) (hs k hk)⟩
theorem Keep.cell {S : Nat → Prop} {A B : World} (h : Keep S A B) {b o : Nat} {v : Value} (hc : A.cell? ⟨b, o, none⟩ = some v) (hs : S b) : B.cell? ⟨b, o, none⟩ = some v :=
  (World.cell?_of_block (a := ⟨b, o, none⟩) (h.block b (World.block_lt_of_cell? A ⟨b, o, none⟩ hc) hs)).trans hc

def IntRow (w : World) (E : TypeId) (b : Nat) (l : List Int) : Prop := w.heap[b]? = some (.cells (l.map (Value.int .i64)).toArray E (0, 0))
theorem IntRow.lt {w : World} {E : TypeId} {b : Nat} {l : List Int} (h : IntRow w E b l) : b < w.heap.size := (Array.getElem?_eq_some_iff.1 h).1
theorem IntRow.cell {w : World} {E : TypeId} {b : Nat} {l : List Int} (h : IntRow w E b l) {j : Nat} (hj : j < l.length) : w.cell? ⟨b, j, none⟩ = some (.int .i64 (l[j]?.getD 0)) := by
  simp [World.cell?, show w.heap[b]? = _ from h, hj]
theorem IntRow.frozen {w : World} {E : TypeId} {b : Nat} {l : List Int} (h : IntRow w E b l) (j : Nat) : w.frozen? ⟨b, j, none⟩ = false := by
  simp [World.frozen?, show w.heap[b]? = _ from h]
theorem IntRow.keep {w w' : World} {E : TypeId} {b : Nat} {l : List Int} (h : IntRow w E b l) (hk : w'.heap[b]? = w.heap[b]?) : IntRow w' E b l := hk.trans h
theorem IntRow.set {w : World} {E : TypeId} {b : Nat} {l : List Int} (h : IntRow w E b l) (j : Nat) (n : Int) : IntRow (w.setCell ⟨b, j, none⟩ (.int .i64 n)) E b (l.set j n) := by
  obtain ⟨hlt, hk⟩ := Array.getElem?_eq_some_iff.1 h
  unfold IntRow
  show (w.heap.modify b _)[b]? = _
  rw [Array.getElem?_eq_getElem (by rw [Array.size_modify]; exact hlt), Array.getElem_modify_self, hk]
  simp [List.map_set]
theorem IntRow.ints {w : World} {E : TypeId} {b : Nat} {l : List Int} (h : IntRow w E b l) : IntsAt w (some ⟨b, 0, none⟩) l :=
  fun j hj => ⟨b, 0, rfl, h.lt, by rw [Nat.zero_add]; exact h.cell hj⟩
theorem IntRow.made (w : World) (E : TypeId) (n : Nat) : IntRow (w.alloc (.cells (madeCells #[.int .i64 0] n) E)) E w.heap.size (List.replicate n 0) := by
  have e : madeCells #[Value.int .i64 0] n = ((List.replicate n (0 : Int)).map (Value.int .i64)).toArray := by
    apply Array.toList_inj.1
    rw [toList_madeCells_one]; simp
  unfold IntRow
  rw [← e]
  exact World.alloc_heap_new _ _

def IterInts (P : Program) (E : TypeId) (g : Nat) (lb : Array Value) (xs : List (List Int)) (fp : Nat → Prop) (w0 : World) : Prop :=
  ∀ (l : Nat) (J : Nat → List (List Int) → World → Prop) (Jx : List (List Int) → World → Prop) (W : World), Below w0.heap.size w0 W →
    (∀ it s A B, W.heap.size ≤ it → J it s A → Keep (fun k => k ≠ it) A B → J it s B) →
    (∀ it pre x cap sp W1, pre ++ [x] <+: xs → W.heap.size ≤ it → it < W1.heap.size → J it pre W1 → W1.heap[it]? = some (.cells (x.map (Value.int .i64) ++ sp).toArray E (0, 0)) →
      YieldAt Fence.wide 0 P l #[.slice (some ⟨it, 0, none⟩) x.length cap] W1 fun e W' =>
        (e = .returned (.bool true) ∧ J it (pre ++ [x]) W' ∧ W1.heap.size ≤ W'.heap.size ∧ (∀ k, fp k ∨ k = it → W'.heap[k]? = W1.heap[k]?)) ∨ (e = .returned (.bool false) ∧ Jx (pre ++ [x]) W')) →
    (∀ it, W.heap.size ≤ it → J it [] W) →
    CallsIn Fence.wide 0 P g (#[.func (.yield l) #[] #[]] ++ lb) W fun e W' => (∃ v, e = .returned v) ∧ ((∃ it, W.heap.size ≤ it ∧ J it xs W') ∨ (∃ pre, pre <+: xs ∧ Jx pre W'))

end Go.Proofs.YtkmjeegnijohmaaGreat

namespace Go.Proofs.YtkmjeegnijohmaaGreat
open Go.RowKit
set_option linter.unusedVariables false

def RowsAt (w : World) (a : Option Addr) (ls : List (List Int)) : Prop :=
  ∀ j (hj : j < ls.length), ∃ b off ra n cap, a = some ⟨b, off, none⟩ ∧ b < w.heap.size ∧ w.cell? ⟨b, off + j, none⟩ = some (.slice ra n cap) ∧ ls[j].length = n ∧ n ≤ maxLen ∧ IntsAt w ra ls[j]
theorem RowsAt.below {w w' : World} {a : Option Addr} {l : List (List Int)} (h : RowsAt w a l) (hb : Below w.heap.size w w') : RowsAt w' a l := by
  intro j hj
  obtain ⟨b, off, ra, n, cap, e, hlt, h0, hn, hm, hi⟩ := h j hj
  exact ⟨b, off, ra, n, cap, e, Nat.lt_of_lt_of_le hlt hb.size, (hb.cell (p := ⟨b, _, none⟩) hlt).trans h0, hn, hm, hi.below hb⟩

def ElemI (E : TypeId) (W : World) (base : Nat) (S : Nat → Prop) (v : Value) (l : List Int) : Prop :=
  ∃ a n cap, v = .slice a n cap ∧ l.length = n ∧ n ≤ maxLen ∧ ∀ j, j < l.length → ∃ b off, a = some ⟨b, off, none⟩ ∧ S b ∧ b < W.heap.size ∧
    (b < base ∨ ∃ c f, W.heap[b]? = some (.cells c E f)) ∧ W.cell? ⟨b, off + j, none⟩ = some (.int .i64 (l[j]?.getD 0))

theorem ElemI.keep {E : TypeId} {W W' : World} {base : Nat} {S T : Nat → Prop} {v : Value} {l : List Int} (h : ElemI E W base S v l) (hk : Keep T W W')
    (hT : ∀ b, S b → b < W.heap.size → (b < base ∨ ∃ c f, W.heap[b]? = some (.cells c E f)) → T b) : ElemI E W' base S v l := by
  obtain ⟨a, n, cap, e, hn, hm, hj⟩ := h
  refine ⟨a, n, cap, e, hn, hm, fun j hlt => ?_⟩
  obtain ⟨b, off, e, hS, hb, hty, hc⟩ := hj j hlt
  have ht := hT b hS hb hty
  refine ⟨b, off, e, hS, Nat.lt_of_lt_of_le hb hk.size, ?_, hk.cell hc ht⟩
  rcases hty with h | ⟨c, f, h⟩
  · exact .inl h
  · exact .inr ⟨c, f, (hk.block b hb ht).trans h⟩

theorem ElemI.ints {E : TypeId} {W : World} {base : Nat} {S : Nat → Prop} {l : List Int} {a : Option Addr} {n cap : Nat} (h : ElemI E W base S (.slice a n cap) l) : l.length = n ∧ n ≤ maxLen ∧ IntsAt W a l := by
  obtain ⟨a', n', cap', e, hn, hm, hj⟩ := h
  cases e
  refine ⟨hn, hm, fun j hlt => ?_⟩
  obtain ⟨b, off, e, _, hb, _, hc⟩ := hj j hlt
  exact ⟨b, off, e, hb, hc⟩

theorem ElemI.own {E : TypeId} {W : World} {b0 base : Nat} {S : Nat → Prop} {v : Value} {l : List Int} (h : W.ownsRow b0 E 1 v l.length (l.map (Value.int .i64))) (hm : l.length ≤ maxLen) (hS : ∀ b, b0 ≤ b → S b) : ElemI E W base S v l := by
  obtain ⟨h1, h2⟩ := h
  rcases h2 with ⟨rfl, h0⟩ | ⟨g, cap, cur, rfl, hg, hh, hnc, hcm, hsz, htk⟩
  · exact ⟨none, 0, 0, rfl, h0, by unfold maxLen; omega, fun j hj => by omega⟩
  · refine ⟨_, _, cap, rfl, rfl, hm, fun j hj => ⟨g, 0, rfl, hS g hg, (Array.getElem?_eq_some_iff.1 hh).1, .inr ⟨cur, _, hh⟩, ?_⟩⟩
    rw [Nat.zero_add]
    have := World.ownsRow.cellAt (w := W) (base := b0) (e := E) (size := 1) (g := g) (n := l.length) (cap := cap) (xs := l.map (Value.int .i64)) ⟨h1, .inr ⟨g, cap, cur, rfl, hg, hh, hnc, hcm, hsz, htk⟩⟩ j (by omega)
    rw [this, List.getElem?_map, List.getElem?_eq_getElem hj]; rfl

theorem ownsRow_slice {W : World} {base : Nat} {e : TypeId} {size : Nat} {v : Value} {n : Nat} {xs : List Value} (h : W.ownsRow base e size v n xs) : ∃ a cap, v = .slice a n cap := by
  rcases h.2 with ⟨rfl, rfl⟩ | ⟨g, cap, cur, rfl, _⟩
  · exact ⟨_, _, rfl⟩
  · exact ⟨_, _, rfl⟩

def RowsO (E T : TypeId) (W : World) (base : Nat) (S : Nat → Prop) (v : Value) (ls : List (List Int)) : Prop :=
  ∃ vs, W.ownsRow base T 1 v ls.length vs ∧ (∀ k, v.ownBlock = some k → S k) ∧ ∀ j (hj : j < ls.length), ∃ u, vs[j]? = some u ∧ ElemI E W base S u ls[j]

theorem RowsO.nil (E T : TypeId) (W : World) (base : Nat) (S : Nat → Prop) : RowsO E T W base S (.slice none 0 0) [] :=
  ⟨[], World.ownsRow_nil _ _ _ _, fun k hk => by simp [Value.ownBlock] at hk, fun j hj => by simp at hj⟩

theorem RowsO.keep {E T : TypeId} {W W' : World} {base : Nat} {S : Nat → Prop} {v : Value} {ls : List (List Int)} (h : RowsO E T W base S v ls) (hk : Keep S W W') : RowsO E T W' base S v ls := by
  obtain ⟨vs, ho, hg, he⟩ := h
  refine ⟨vs, ⟨ho.1, ?_⟩, hg, fun j hj => ?_⟩
  · rcases ho.2 with hn | ⟨g, cap, cur, rfl, hb, hgg, rest⟩
    · exact .inl hn
    · exact .inr ⟨g, cap, cur, rfl, hb, (hk.block g (Array.getElem?_eq_some_iff.1 hgg).1 (hg g rfl)).trans hgg, rest⟩
  · obtain ⟨u, hu, hel⟩ := he j hj
    exact ⟨u, hu, hel.keep hk fun b hS _ _ => hS⟩

theorem RowsO.free {E T : TypeId} {W : World} {base : Nat} {S : Nat → Prop} {v : Value} {ls : List (List Int)} (h : RowsO E T W base S v ls) : RowsO E T W base (fun _ => True) v ls := by
  obtain ⟨vs, ho, hg, he⟩ := h
  refine ⟨vs, ho, fun _ _ => trivial, fun j hj => ?_⟩
  obtain ⟨u, hu, a, n, cap, e, hn, hm, hel⟩ := he j hj
  refine ⟨u, hu, a, n, cap, e, hn, hm, fun i hi => ?_⟩
  obtain ⟨b, off, e, _, rest⟩ := hel i hi
  exact ⟨b, off, e, trivial, rest⟩

theorem RowsO.snoc {E T : TypeId} (hET : E ≠ T) {W w1 w2 : World} {base : Nat} {S : Nat → Prop} {v v' u : Value} {ls : List (List Int)} {l : List Int} {vs : List Value}
    (ho : W.ownsRow base T 1 v ls.length vs) (he : ∀ j (hj : j < ls.length), ∃ u, vs[j]? = some u ∧ ElemI E W base S u ls[j]) (hu : ElemI E W base S u l)
    (hW1 : Below W.heap.size W w1) (hg : w1.grownBy w2 v.ownBlock) (ho' : w2.ownsRow base T 1 v' (ls.length + 1) (vs ++ [u])) (hS' : ∀ k, v'.ownBlock = some k → S k) : RowsO E T w2 base S v' (ls ++ [l]) := by
  have hlen : vs.length = ls.length := by have := ho.1; omega
  have hgb : ∀ b, (b < base ∨ ∃ c f, W.heap[b]? = some (.cells c E f)) → b < W.heap.size → w2.heap[b]? = W.heap[b]? := by
    intro b hty hb
    refine (hg.block b (Nat.lt_of_lt_of_le hb hW1.size) ?_).trans (hW1.block b hb)
    rcases ho.2 with ⟨rfl, _⟩ | ⟨g, cap, cur, rfl, hbg, hgg, _⟩
    · simp [Value.ownBlock]
    · intro e
      obtain rfl : b = g := by simpa [Value.ownBlock] using e
      rcases hty with h | ⟨c, f, h⟩
      · omega
      · rw [h] at hgg; cases hgg; exact hET rfl
  have hel : ∀ u l, ElemI E W base S u l → ElemI E w2 base S u l := by
    intro u l h
    refine h.keep (T := fun b => b < W.heap.size ∧ (b < base ∨ ∃ c f, W.heap[b]? = some (.cells c E f))) ⟨hg.os.trans hW1.os, hg.tape.trans hW1.tape, hg.output.trans hW1.output, Nat.le_trans hW1.size hg.size, fun k hk hT => hgb k hT.2 hk⟩ fun b _ hb hty => ⟨hb, hty⟩
  refine ⟨vs ++ [u], by simpa using ho', hS', fun j hj => ?_⟩
  by_cases e : j < ls.length
  · obtain ⟨u', hu', hel'⟩ := he j e
    refine ⟨u', by rw [List.getElem?_append_left (by omega)]; exact hu', ?_⟩
    rw [List.getElem_append_left e]
    exact hel _ _ hel'
  · have : j = ls.length := by simp at hj; omega
    subst this
    refine ⟨u, by rw [List.getElem?_append_right (by omega), hlen]; simp, ?_⟩
    simp only [List.getElem_append_right (Nat.le_refl _), Nat.sub_self, List.getElem_cons_zero]
    exact hel _ _ hu

theorem RowsO.reads {E T : TypeId} {W : World} {base : Nat} {S : Nat → Prop} {v : Value} {ls : List (List Int)} (h : RowsO E T W base S v ls) : ∃ a cap, v = .slice a ls.length cap ∧ ls.length ≤ maxLen ∧ RowsAt W a ls ∧ (a = none → ls = []) := by
  obtain ⟨vs, ho, hg, he⟩ := h
  rcases ho.2 with ⟨rfl, h0⟩ | ⟨g, cap, cur, rfl, hbg, hgg, hnc, hcm, hsz, htk⟩
  · have : ls = [] := List.eq_nil_of_length_eq_zero h0
    subst this
    exact ⟨none, 0, rfl, by simp, fun j hj => by simp at hj, fun _ => rfl⟩
  · refine ⟨_, cap, rfl, by omega, fun j hj => ?_, fun h => by cases h⟩
    obtain ⟨u, hu, hel⟩ := he j hj
    have hc := World.ownsRow.cellAt (w := W) (base := base) (e := T) (size := 1) (g := g) (n := ls.length) (cap := cap) (xs := vs) ⟨ho.1, .inr ⟨g, cap, cur, rfl, hbg, hgg, hnc, hcm, hsz, htk⟩⟩ j (by omega)
    obtain ⟨a', n', cap', rfl, h1, h2, h3⟩ := id hel
    obtain ⟨h1, h2, h3⟩ := hel.ints
    exact ⟨g, 0, a', n', cap', rfl, (Array.getElem?_eq_some_iff.1 hgg).1, by rw [Nat.zero_add, hc, hu], h1, h2, h3⟩
end Go.Proofs.YtkmjeegnijohmaaGreat

namespace Go.Proofs.YtkmjeegnijohmaaGreat
open Go.RowKit
set_option linter.unusedVariables false

def inB (n lo hi : Int) : Bool := decide (lo ≤ n) && decide (n ≤ hi)

theorem mwithin_c (n lo hi : Int) (w : World) : Calls Tryz.prog 71 #[.int .i64 n, .int .i64 lo, .int .i64 hi] w fun e w' => e = .returned (.bool (inB n lo hi)) ∧ w = w' := by
  by_cases h1 : lo ≤ n <;> by_cases h2 : n ≤ hi
  all_goals
    go_enter Tryz.func71, Tryz.ntmps71
    go_wp2
    go_ret
    exact ⟨ret_bool (by simp [inB, h1, h2]), rfl⟩

theorem indexI (w : World) (a : Option Addr) (n cap : Nat) (l : List Int) (hn : l.length = n) (hm : n ≤ maxLen) (H : IntsAt w a l) (g : Nat) (lb : Array Value) (p : Int → Bool)
    (eg : ∀ args w, (callFunc g args).run Tryz.prog w = .ok (.enter g args) w) (hp : PredI Tryz.prog g lb w p) :
    Calls Tryz.prog 95 #[.slice a n cap, .func (.func g) #[] lb] w fun e w' => e = .returned (.int .i64 (idxP p l 0)) ∧ Below w.heap.size w w' := by
  have HN := hid hn
  have HH := hid H
  have HP := hid hp
  clear hn H hp
  unfold maxLen at hm
  go_enter Tryz.func95, Tryz.ntmps95
  go_wp2
  go_loopw [8] (fun i wr => ∃ k : Nat, k ≤ n ∧ i = .int .i64 k ∧ Below w.heap.size w wr ∧ ∀ i y, i < k → l[i]? = some y → p y = false) (fun i _ => n - (intOf i).toNat)
  case atStart => exact ⟨0, Nat.zero_le _, rfl, Below.refl _ _, fun i y h => by omega⟩
  case round =>
    obtain ⟨k, hk, rfl, hb, hno⟩ := hrel
    have HNO := hid hno
    clear hno
    by_cases hlt : k < n
    · obtain ⟨b, off, rfl, hbs, hc⟩ := (HH.out.below hb) k (by rw [HN.out]; exact hlt)
      have hkk := getD_lt (l := l) (k := k) (by rw [HN.out]; exact hlt)
      have HK := hid hkk
      clear hkk
      cases hpx : p (l[k]?.getD 0)
      · go_wp2_with (refine (HP.out _ _ hb).mono ?_; rintro e w1 ⟨rfl, hb1⟩)
        refine ⟨⟨k + 1, by omega, by go_num, chain hb hb1, ?_⟩, by simp [intOf]; omega⟩
        intro i y hi hy
        by_cases e : i = k
        · subst e; rw [HK.out] at hy; cases hy; exact hpx
        · exact HNO.out i y (by omega) hy
      · go_wp2_with (refine (HP.out _ _ hb).mono ?_; rintro e w1 ⟨rfl, hb1⟩)
        go_ret
        refine ⟨ret_int ?_, chain hb hb1⟩
        rw [idxP_at p l 0 k _ HK.out hpx HNO.out]; simp
    · go_wp2
      go_ret
      refine ⟨ret_int ?_, hb⟩
      rw [idxP_neg]
      intro x hx
      obtain ⟨i, hi, e⟩ := List.getElem_of_mem hx
      exact HNO.out i x (by have := HN.out; omega) (by rw [List.getElem?_eq_getElem hi, e])

theorem containsI (w : World) (a : Option Addr) (n cap : Nat) (l : List Int) (hn : l.length = n) (hm : n ≤ maxLen) (H : IntsAt w a l) (g : Nat) (lb : Array Value) (p : Int → Bool)
    (eg : ∀ args w, (callFunc g args).run Tryz.prog w = .ok (.enter g args) w) (hp : PredI Tryz.prog g lb w p) :
    Calls Tryz.prog 76 #[.slice a n cap, .func (.func g) #[] lb] w fun e w' => e = .returned (.bool (l.any p)) ∧ Below w.heap.size w w' := by
  have HC := hid (indexI w a n cap l hn hm H g lb p eg hp)
  have HG := idxP_ge p l 0
  have HG' := hid HG
  clear hn H hp HG
  go_enter Tryz.func76, Tryz.ntmps76
  go_wp2_with (refine HC.out.mono ?_; rintro e w1 ⟨rfl, hb1⟩)
  go_ret
  refine ⟨ret_bool ?_, hb1⟩
  rw [Bool.eq_iff_iff, decide_eq_true_iff, HG'.out]

def SlV (w : World) (v : Value) (l : List Int) : Prop := ∃ ra n cap, v = .slice ra n cap ∧ l.length = n ∧ n ≤ maxLen ∧ IntsAt w ra l
theorem SlV.below {w w' : World} {v : Value} {l : List Int} (h : SlV w v l) (hb : Below w.heap.size w w') : SlV w' v l := by
  obtain ⟨ra, n, cap, e, hn, hm, hi⟩ := h
  exact ⟨ra, n, cap, e, hn, hm, hi.below hb⟩

def PredR (P : Program) (g : Nat) (lb : Array Value) (w : World) (p : List Int → Bool) : Prop :=
  ∀ (l : List Int) (v : Value) (W : World), Below w.heap.size w W → SlV W v l → Calls P g (#[v] ++ lb) W fun e W' => e = .returned (.bool (p l)) ∧ Below W.heap.size W W'

theorem indexR (w : World) (a : Option Addr) (n cap : Nat) (l : List (List Int)) (hn : l.length = n) (hm : n ≤ maxLen) (H : RowsAt w a l) (g : Nat) (lb : Array Value) (p : List Int → Bool)
    (eg : ∀ args w, (callFunc g args).run Tryz.prog w = .ok (.enter g args) w) (hp : PredR Tryz.prog g lb w p) :
    Calls Tryz.prog 75 #[.slice a n cap, .func (.func g) #[] lb] w fun e w' => e = .returned (.int .i64 (idxP p l 0)) ∧ Below w.heap.size w w' := by
  have HN := hid hn
  have HH := hid H
  have HP := hid hp
  clear hn H hp
  unfold maxLen at hm
  go_enter Tryz.func75, Tryz.ntmps75
  go_wp2
  go_loopw [8] (fun i wr => ∃ k : Nat, k ≤ n ∧ i = .int .i64 k ∧ Below w.heap.size w wr ∧ ∀ i y, i < k → l[i]? = some y → p y = false) (fun i _ => n - (intOf i).toNat)
  case atStart => exact ⟨0, Nat.zero_le _, rfl, Below.refl _ _, fun i y h => by omega⟩
  case round =>
    obtain ⟨k, hk, rfl, hb, hno⟩ := hrel
    have HNO := hid hno
    clear hno
    by_cases hlt : k < n
    · have hkl : k < l.length := by rw [HN.out]; exact hlt
      obtain ⟨b, off, ra, rn, rc, rfl, hbs, h0, hrn, hrm, hri⟩ := (HH.out.below hb) k hkl
      have HV := hid (show SlV wr (.slice ra rn rc) l[k] from ⟨ra, rn, rc, rfl, hrn, hrm, hri⟩)
      clear hrn hri
      have HK := hid (List.getElem?_eq_getElem hkl)
      cases hpx : p l[k]
      · go_wp2_with (refine (HP.out _ _ _ hb HV.out).mono ?_; rintro e w1 ⟨rfl, hb1⟩)
        refine ⟨⟨k + 1, by omega, by go_num, chain hb hb1, ?_⟩, by simp [intOf]; omega⟩
        intro i y hi hy
        by_cases e : i = k
        · subst e; rw [HK.out] at hy; cases hy; exact hpx
        · exact HNO.out i y (by omega) hy
      · go_wp2_with (refine (HP.out _ _ _ hb HV.out).mono ?_; rintro e w1 ⟨rfl, hb1⟩)
        go_ret
        refine ⟨ret_int ?_, chain hb hb1⟩
        rw [idxP_at p l 0 k _ HK.out hpx HNO.out]; simp
    · go_wp2
      go_ret
      refine ⟨ret_int ?_, hb⟩
      rw [idxP_neg]
      intro x hx
      obtain ⟨i, hi, e⟩ := List.getElem_of_mem hx
      exact HNO.out i x (by have := HN.out; omega) (by rw [List.getElem?_eq_getElem hi, e])

theorem containsR (w : World) (a : Option Addr) (n cap : Nat) (l : List (List Int)) (hn : l.length = n) (hm : n ≤ maxLen) (H : RowsAt w a l) (g : Nat) (lb : Array Value) (p : List Int → Bool)
    (eg : ∀ args w, (callFunc g args).run Tryz.prog w = .ok (.enter g args) w) (hp : PredR Tryz.prog g lb w p) :
    Calls Tryz.prog 53 #[.slice a n cap, .func (.func g) #[] lb] w fun e w' => e = .returned (.bool (l.any p)) ∧ Below w.heap.size w w' := by
  have HC := hid (indexR w a n cap l hn hm H g lb p eg hp)
  have HG := idxP_ge p l 0
  have HG' := hid HG
  clear hn H hp HG
  go_enter Tryz.func53, Tryz.ntmps53
  go_wp2_with (refine HC.out.mono ?_; rintro e w1 ⟨rfl, hb1⟩)
  go_ret
  refine ⟨ret_bool ?_, hb1⟩
  rw [Bool.eq_iff_iff, decide_eq_true_iff, HG'.out]

theorem allI1 (w : World) (b g : Nat) (lb : Array Value) (p : Int → Bool) (eg : ∀ args w, (callFunc g args).run Tryz.prog w = .ok (.enter g args) w) (hb : b < w.heap.size) (hc : w.cell? ⟨b, 0, none⟩ = some (.func (.func g) #[] lb)) (hp : PredI Tryz.prog g lb w p) :
    PredI Tryz.prog 110 #[.pointer (some ⟨b, 0, none⟩)] w (fun n => !p n) := by
  intro x W hbw
  have hc' : W.cell? ⟨b, 0, none⟩ = some (.func (.func g) #[] lb) := (hbw.cell (p := ⟨b, 0, none⟩) hb).trans hc
  have HP := hid (hp x W hbw)
  clear hp
  go_enter Tryz.func110, Tryz.ntmps110
  go_wp2_with (refine HP.out.mono ?_; rintro e w1 ⟨rfl, hb1⟩)
  go_ret
  exact ⟨rfl, hb1⟩

theorem allI_c (w : World) (a : Option Addr) (n cap : Nat) (l : List Int) (hn : l.length = n) (hm : n ≤ maxLen) (H : IntsAt w a l) (g : Nat) (lb : Array Value) (p : Int → Bool)
    (eg : ∀ args w, (callFunc g args).run Tryz.prog w = .ok (.enter g args) w) (hp : PredI Tryz.prog g lb w p) :
    Calls Tryz.prog 93 #[.slice a n cap, .func (.func g) #[] lb] w fun e w' => e = .returned (.bool (l.all p)) ∧ Below w.heap.size w w' := by
  have hb0 : Below w.heap.size w (w.alloc (.cells #[.func (.func g) #[] lb] 86)) := (Below.refl _ _).alloc (Nat.le_refl _) _
  have HC := hid (containsI (w.alloc (.cells #[.func (.func g) #[] lb] 86)) a n cap l hn hm (H.below hb0) 110 #[.pointer (some ⟨w.heap.size, 0, none⟩)] _ (enters_of Tryz.func110 (by kernel_rfl) rfl)
    (allI1 _ w.heap.size g lb p eg (by simp) (by rw [World.cell?_alloc_at _ _ _ _ rfl]; rfl) (fun x W h => hp x W (chain hb0 h))))
  clear hn H hp
  have hmf : ∀ (fn : Fn) (first cap : Array Value) (w : World), (Instr.makeFunc fn first cap).run Tryz.prog w = .ok (.func fn first cap) w := fun _ _ _ _ => rfl
  go_enter Tryz.func93, Tryz.ntmps93
  go_wp2_with (refine HC.out.mono ?_; rintro e w1 ⟨rfl, hb1⟩)
  go_ret
  exact ⟨ret_bool (by simp [List.all_eq_not_any_not]), chain hb0 hb1⟩

theorem allR1 (w : World) (b g : Nat) (lb : Array Value) (p : List Int → Bool) (eg : ∀ args w, (callFunc g args).run Tryz.prog w = .ok (.enter g args) w) (hb : b < w.heap.size) (hc : w.cell? ⟨b, 0, none⟩ = some (.func (.func g) #[] lb)) (hp : PredR Tryz.prog g lb w p) :
    PredR Tryz.prog 92 #[.pointer (some ⟨b, 0, none⟩)] w (fun n => !p n) := by
  intro x v W hbw hv
  have hc' : W.cell? ⟨b, 0, none⟩ = some (.func (.func g) #[] lb) := (hbw.cell (p := ⟨b, 0, none⟩) hb).trans hc
  have HP := hid (hp x v W hbw hv)
  obtain ⟨ra, rn, rc, rfl, _, _, _⟩ := hv
  clear hp
  go_enter Tryz.func92, Tryz.ntmps92
  go_wp2_with (refine HP.out.mono ?_; rintro e w1 ⟨rfl, hb1⟩)
  go_ret
  exact ⟨rfl, hb1⟩

theorem allR_c (w : World) (a : Option Addr) (n cap : Nat) (l : List (List Int)) (hn : l.length = n) (hm : n ≤ maxLen) (H : RowsAt w a l) (g : Nat) (lb : Array Value) (p : List Int → Bool)
    (eg : ∀ args w, (callFunc g args).run Tryz.prog w = .ok (.enter g args) w) (hp : PredR Tryz.prog g lb w p) :
    Calls Tryz.prog 72 #[.slice a n cap, .func (.func g) #[] lb] w fun e w' => e = .returned (.bool (l.all p)) ∧ Below w.heap.size w w' := by
  have hb0 : Below w.heap.size w (w.alloc (.cells #[.func (.func g) #[] lb] 70)) := (Below.refl _ _).alloc (Nat.le_refl _) _
  have HC := hid (containsR (w.alloc (.cells #[.func (.func g) #[] lb] 70)) a n cap l hn hm (H.below hb0) 92 #[.pointer (some ⟨w.heap.size, 0, none⟩)] _ (enters_of Tryz.func92 (by kernel_rfl) rfl)
    (allR1 _ w.heap.size g lb p eg (by simp) (by rw [World.cell?_alloc_at _ _ _ _ rfl]; rfl) (fun x v W h => hp x v W (chain hb0 h))))
  clear hn H hp
  have hmf : ∀ (fn : Fn) (first cap : Array Value) (w : World), (Instr.makeFunc fn first cap).run Tryz.prog w = .ok (.func fn first cap) w := fun _ _ _ _ => rfl
  go_enter Tryz.func72, Tryz.ntmps72
  go_wp2_with (refine HC.out.mono ?_; rintro e w1 ⟨rfl, hb1⟩)
  go_ret
  exact ⟨ret_bool (by simp [List.all_eq_not_any_not]), chain hb0 hb1⟩

abbrev Mask := List (List Int)
def okMRow (l : List Int) : Bool := inB l.length 1 10 && l.all (fun n => inB n (-1) 1)
def colsM (M : Mask) : Nat := (M[0]?.getD []).length
def okM (M : Mask) : Bool := inB M.length 1 6 && M.all (fun l => decide (l.length = colsM M) && okMRow l)

theorem row1 (w : World) : PredI Tryz.prog 94 #[] w (fun n => inB n (-1) 1) := by
  intro x W hb
  go_enter Tryz.func94, Tryz.ntmps94
  go_wp2_with (go_at_call 71; refine (mwithin_c _ _ _ _).mono ?_; rintro e w1 ⟨rfl, rfl⟩)
  go_ret
  exact ⟨rfl, Below.refl _ _⟩

theorem mrow_c (w : World) (a : Option Addr) (n cap : Nat) (l : List Int) (hn : l.length = n) (hm : n ≤ maxLen) (H : IntsAt w a l) :
    Calls Tryz.prog 74 #[.slice a n cap] w fun e w' => e = .returned (.bool (okMRow l)) ∧ Below w.heap.size w w' := by
  have HC := hid (allI_c w a n cap l hn hm H 94 #[] _ (enters_of Tryz.func94 (by kernel_rfl) rfl) (row1 w))
  have HN := hid hn
  clear hn H
  cases h : inB n 1 10
  all_goals
    have HQ := hid h
    go_enter Tryz.func74, Tryz.ntmps74
    go_wp2_with (first | (go_at_call 71; refine (mwithin_c _ _ _ _).mono ?_; rintro e w1 ⟨rfl, rfl⟩) | (refine HC.out.mono ?_; rintro e w1 ⟨rfl, hb1⟩))
    go_ret
    first
      | exact ⟨ret_bool (by unfold okMRow; rw [HN.out, HQ.out]; simp), hb1⟩
      | exact ⟨ret_bool (by unfold okMRow; rw [HN.out, HQ.out]; simp), Below.refl _ _⟩

theorem valid1 (w : World) (b : Nat) (a : Option Addr) (n cap : Nat) (M : Mask) (hn : M.length = n) (hm : n ≤ maxLen) (h0 : 0 < n) (H : RowsAt w a M) (hb : b < w.heap.size) (hc : w.cell? ⟨b, 0, none⟩ = some (.slice a n cap)) :
    PredR Tryz.prog 73 #[.pointer (some ⟨b, 0, none⟩)] w (fun l => decide (l.length = colsM M) && okMRow l) := by
  intro x v W hbw hv
  have hc' : W.cell? ⟨b, 0, none⟩ = some (.slice a n cap) := (hbw.cell (p := ⟨b, 0, none⟩) hb).trans hc
  obtain ⟨ra, rn, rc, rfl, hrn, hrm, hri⟩ := hv
  have HR := hid (mrow_c W ra rn rc x hrn hrm hri)
  obtain ⟨b', off, qa, qn, qc, rfl, hbs, hq0, hqn, hqm, hqi⟩ := (H.below hbw) 0 (by omega)
  have HCols : colsM M = qn := by unfold colsM; rw [List.getElem?_eq_getElem (by omega), ← hqn]; rfl
  have HCO := hid HCols
  have HRN := hid hrn
  unfold maxLen at hm
  simp only [Nat.add_zero] at hq0
  clear HCols hrn hri hqn hqi H hc
  by_cases h : rn = qn
  all_goals
    have hd : ((rn : Int) == (qn : Int)) = decide (rn = qn) := by rw [Bool.eq_iff_iff]; simp; omega
    have HQ := hid h
    first
      | rw [decide_eq_true h] at hd
      | rw [decide_eq_false h] at hd
    clear h
    go_enter Tryz.func73, Tryz.ntmps73
    go_wp2_with (go_at_call 74; refine HR.out.mono ?_; rintro e w1 ⟨rfl, hb1⟩)
    go_ret
    first
      | exact ⟨ret_bool (by rw [HRN.out, HCO.out, decide_eq_true HQ.out]; simp), hb1⟩
      | exact ⟨ret_bool (by rw [HRN.out, HCO.out, decide_eq_false HQ.out]; simp), Below.refl _ _⟩

theorem maskValid_c (w : World) (a : Option Addr) (n cap : Nat) (M : Mask) (hn : M.length = n) (hm : n ≤ maxLen) (H : RowsAt w a M) :
    Calls Tryz.prog 52 #[.slice a n cap] w fun e w' => e = .returned (.bool (okM M)) ∧ Below w.heap.size w w' := by
  have hb0 : Below w.heap.size w (w.alloc (.cells #[.slice a n cap] 23)) := (Below.refl _ _).alloc (Nat.le_refl _) _
  have hmf : ∀ (fn : Fn) (first cap : Array Value) (w : World), (Instr.makeFunc fn first cap).run Tryz.prog w = .ok (.func fn first cap) w := fun _ _ _ _ => rfl
  cases h : inB n 1 6
  · have HQ := hid h
    have HN := hid hn
    clear hn H
    go_enter Tryz.func52, Tryz.ntmps52
    go_wp2_with (go_at_call 71; refine (mwithin_c _ _ _ _).mono ?_; rintro e w1 ⟨rfl, rfl⟩)
    go_ret
    exact ⟨ret_bool (by unfold okM; rw [HN.out, HQ.out]; simp), hb0⟩
  · have h0 : 0 < n := by unfold inB at h; simp at h; omega
    have HC := hid (allR_c (w.alloc (.cells #[.slice a n cap] 23)) a n cap M hn hm (H.below hb0) 73 #[.pointer (some ⟨w.heap.size, 0, none⟩)] _ (enters_of Tryz.func73 (by kernel_rfl) rfl)
      (valid1 _ w.heap.size a n cap M hn hm h0 (H.below hb0) (by simp) (by rw [World.cell?_alloc_at _ _ _ _ rfl]; rfl)))
    have HQ := hid h
    have HN := hid hn
    clear hn H
    go_enter Tryz.func52, Tryz.ntmps52
    go_wp2_with (first | (go_at_call 71; refine (mwithin_c _ _ _ _).mono ?_; rintro e w1 ⟨rfl, rfl⟩) | (refine HC.out.mono ?_; rintro e w1 ⟨rfl, hb1⟩))
    go_ret
    exact ⟨ret_bool (by unfold okM; rw [HN.out, HQ.out]; simp), chain hb0 hb1⟩
end Go.Proofs.YtkmjeegnijohmaaGreat
