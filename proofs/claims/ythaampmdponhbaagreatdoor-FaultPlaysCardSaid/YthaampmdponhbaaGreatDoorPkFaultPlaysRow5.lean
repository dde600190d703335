/- Walks and plain laws for FaultPlaysRow, part 5. -/
import Derived.Test.YthaampmdponhbaaGreatDoorPkFaultPlaysRow4
namespace Go.Proofs.YthaampmdponhbaaGreatDoor
set_option linter.unusedVariables false

def cntM (M : Mask) (x : List Int) (F : List Flt) (f : Flt) : Nat := F.countP fun g => decide (readF M g x = readF M f x)
def mostM (M : Mask) (x : List Int) (F : List Flt) : Nat := F.foldl (fun n f => max n (cntM M x F f)) 0
theorem fold_max {α : Type} (c : α → Nat) : ∀ (l : List α) (n : Nat), n ≤ l.foldl (fun n f => max n (c f)) n ∧ (∀ f ∈ l, c f ≤ l.foldl (fun n f => max n (c f)) n) ∧ ∀ m, n ≤ m → (∀ f ∈ l, c f ≤ m) → l.foldl (fun n f => max n (c f)) n ≤ m
  | [], n => ⟨Nat.le_refl _, fun f h => by simp at h, fun m h _ => h⟩
  | a :: l, n => by
    obtain ⟨h1, h2, h3⟩ := fold_max c l (max n (c a))
    simp only [List.foldl_cons]
    refine ⟨by omega, fun f hf => ?_, fun m hm hc => h3 m ?_ fun f hf => hc f (List.mem_cons_of_mem _ hf)⟩
    · rcases List.mem_cons.1 hf with rfl | hf
      · omega
      · exact h2 f hf
    · have := hc a (by simp); omega
theorem most_ge {M : Mask} {x : List Int} {F : List Flt} {f : Flt} (h : f ∈ F) : cntM M x F f ≤ mostM M x F := (fold_max _ F 0).2.1 f h
theorem most_le {M : Mask} {x : List Int} {F : List Flt} {n : Nat} (h : ∀ f ∈ F, cntM M x F f ≤ n) : mostM M x F ≤ n := (fold_max _ F 0).2.2 n (Nat.zero_le _) h
theorem cnt_le (M : Mask) (x : List Int) (F : List Flt) (f : Flt) : cntM M x F f ≤ F.length := List.countP_le_length
theorem most_len (M : Mask) (x : List Int) (F : List Flt) : mostM M x F ≤ F.length := most_le fun f _ => cnt_le M x F f
theorem cnt_snoc (M : Mask) (x : List Int) (F : List Flt) (f g : Flt) : cntM M x (F ++ [f]) g = cntM M x F g + (if readF M f x = readF M g x then 1 else 0) := by
  unfold cntM
  rw [List.countP_append, List.countP_singleton]
  simp
theorem cnt_congr {M : Mask} {x : List Int} {F : List Flt} {f g : Flt} (h : readF M f x = readF M g x) : cntM M x F f = cntM M x F g := by unfold cntM; rw [h]
theorem most_snoc (M : Mask) (x : List Int) (F : List Flt) (f : Flt) : mostM M x (F ++ [f]) = max (mostM M x F) (cntM M x (F ++ [f]) f) := by
  apply Nat.le_antisymm
  · refine most_le fun g hg => ?_
    by_cases e : readF M f x = readF M g x
    · rw [← cnt_congr e]; omega
    · rw [cnt_snoc, if_neg e]
      rcases List.mem_append.1 hg with hg | hg
      · have := most_ge (M := M) (x := x) hg; omega
      · simp at hg; subst hg; exact absurd rfl e
  · apply Nat.max_le.2
    refine ⟨most_le fun g hg => ?_, most_ge (by simp)⟩
    have := most_ge (M := M) (x := x) (F := F ++ [f]) (f := g) (by simp [hg])
    rw [cnt_snoc] at this; omega
def mostTo (M : Mask) (x : List Int) (F : List Flt) (k : Nat) : Nat := (F.take k).foldl (fun n f => max n (cntM M x F f)) 0
theorem mostTo_succ {M : Mask} {x : List Int} {F : List Flt} {k : Nat} (hk : k < F.length) : mostTo M x F (k + 1) = max (mostTo M x F k) (cntM M x F F[k]) := by
  unfold mostTo; rw [List.take_succ_eq_append_getElem hk, List.foldl_append]; rfl
theorem mostTo_all (M : Mask) (x : List Int) (F : List Flt) : mostTo M x F F.length = mostM M x F := by unfold mostTo mostM; rw [List.take_length]
theorem mostTo_le (M : Mask) (x : List Int) (F : List Flt) (k : Nat) : mostTo M x F k ≤ F.length := (fold_max _ (F.take k) 0).2.2 _ (Nat.zero_le _) fun f _ => cnt_le M x F f
theorem cnt_take_succ {M : Mask} {x : List Int} {F : List Flt} {f : Flt} {k : Nat} (hk : k < F.length) : cntM M x (F.take (k + 1)) f = cntM M x (F.take k) f + (if readF M F[k] x = readF M f x then 1 else 0) := by
  rw [List.take_succ_eq_append_getElem hk, cnt_snoc]
theorem most_take_succ {M : Mask} {x : List Int} {F : List Flt} {k : Nat} (hk : k < F.length) : mostM M x (F.take (k + 1)) = max (mostM M x (F.take k)) (cntM M x (F.take k) F[k] + 1) := by
  rw [List.take_succ_eq_append_getElem hk, most_snoc, cnt_snoc, if_pos rfl]

def bestTo (M : Mask) (F : List Flt) (L : List (List Int)) : Nat → Option (Nat × Nat)
  | 0 => none
  | k + 1 => match bestTo M F L k with
    | none => some (k, mostM M (L[k]?.getD []) F)
    | some (a, l) => if mostM M (L[k]?.getD []) F < l then some (k, mostM M (L[k]?.getD []) F) else some (a, l)
theorem bestTo_spec (M : Mask) (F : List Flt) (L : List (List Int)) : ∀ k, (k = 0 ∧ bestTo M F L k = none) ∨ ∃ a l, bestTo M F L k = some (a, l) ∧ a < k ∧ l = mostM M (L[a]?.getD []) F ∧ ∀ j, j < k → l ≤ mostM M (L[j]?.getD []) F
  | 0 => .inl ⟨rfl, rfl⟩
  | k + 1 => by
    right
    unfold bestTo
    rcases bestTo_spec M F L k with ⟨rfl, h⟩ | ⟨a, l, h, ha, hl, hm⟩
    · rw [h]
      refine ⟨_, _, rfl, by omega, rfl, fun j hj => ?_⟩
      obtain rfl : j = 0 := by omega
      exact Nat.le_refl _
    · rw [h]
      simp only []
      by_cases e : mostM M (L[k]?.getD []) F < l
      · rw [if_pos e]
        refine ⟨_, _, rfl, by omega, rfl, fun j hj => ?_⟩
        rcases Nat.lt_or_ge j k with h2 | h2
        · have := hm j h2; omega
        · obtain rfl : j = k := by omega
          exact Nat.le_refl _
      · rw [if_neg e]
        refine ⟨a, l, rfl, by omega, hl, fun j hj => ?_⟩
        rcases Nat.lt_or_ge j k with h2 | h2
        · exact hm j h2
        · obtain rfl : j = k := by omega
          omega
def bestE (M : Mask) (t : List Tst) (L : List (List Int)) : Int := if okTests M t = true then (if picsB M L = true then (if whichF M t = [] ∨ L = [] then 8 else 0) else 7) else 1
def bestV (M : Mask) (t : List Tst) (L : List (List Int)) : Nat := if okTests M t = true ∧ picsB M L = true ∧ whichF M t ≠ [] ∧ L ≠ [] then ((bestTo M (whichF M t) L L.length).getD (0, 0)).1 else 0

def stepF (M : Mask) (f : Flt) (L : List (List Int)) (out : List Tst) : Option Tst :=
  if (whichF M out).length < 2 then none else
  match bestTo M (whichF M out) L L.length with
  | none => none
  | some (a, l) => if l = (whichF M out).length then none else some ⟨L[a]?.getD [], readF M f (L[a]?.getD [])⟩
def playTo (M : Mask) (f : Flt) (L : List (List Int)) : Nat → List Tst
  | 0 => []
  | k + 1 => match stepF M f L (playTo M f L k) with | none => playTo M f L k | some t => playTo M f L k ++ [t]
def playF (M : Mask) (f : Flt) (L : List (List Int)) : List Tst := playTo M f L 12

theorem play_none {M : Mask} {f : Flt} {L : List (List Int)} {k : Nat} (h : stepF M f L (playTo M f L k) = none) : ∀ d, playTo M f L (k + d) = playTo M f L k
  | 0 => rfl
  | d + 1 => by
    have ih := play_none h d
    show (match stepF M f L (playTo M f L (k + d)) with | none => playTo M f L (k + d) | some t => playTo M f L (k + d) ++ [t]) = _
    rw [ih, h]
theorem play_stop {M : Mask} {f : Flt} {L : List (List Int)} {k : Nat} (hk : k ≤ 12) (h : stepF M f L (playTo M f L k) = none) : playF M f L = playTo M f L k := by
  have := play_none h (12 - k)
  rw [show k + (12 - k) = 12 by omega] at this
  exact this
theorem play_more {M : Mask} {f : Flt} {L : List (List Int)} {k : Nat} {t : Tst} (h : stepF M f L (playTo M f L k) = some t) : playTo M f L (k + 1) = playTo M f L k ++ [t] := by
  show (match stepF M f L (playTo M f L k) with | none => playTo M f L k | some t => playTo M f L k ++ [t]) = _
  rw [h]
theorem step_some {M : Mask} {f : Flt} {L : List (List Int)} {out : List Tst} {t : Tst} (h : stepF M f L out = some t) :
    ∃ a l, 2 ≤ (whichF M out).length ∧ bestTo M (whichF M out) L L.length = some (a, l) ∧ a < L.length ∧ t = ⟨L[a]?.getD [], readF M f (L[a]?.getD [])⟩ ∧ l = mostM M (L[a]?.getD []) (whichF M out) ∧ l < (whichF M out).length := by
  unfold stepF at h
  split at h
  · cases h
  · rename_i h2
    rcases bestTo_spec M (whichF M out) L L.length with ⟨_, hb⟩ | ⟨a, l, hb, ha, hl, hm⟩
    · rw [hb] at h; cases h
    · rw [hb] at h
      simp only [] at h
      split at h
      · cases h
      · rename_i h3
        have := most_len M (L[a]?.getD []) (whichF M out)
        exact ⟨a, l, by omega, hb, ha, (Option.some.inj h).symm, hl, by omega⟩
theorem play_form (M : Mask) (f : Flt) (L : List (List Int)) : ∀ k, ∃ X : List (List Int), (∀ x ∈ X, x ∈ L) ∧ playTo M f L k = X.map (fun x => ⟨x, readF M f x⟩)
  | 0 => ⟨[], fun x h => by simp at h, rfl⟩
  | k + 1 => by
    obtain ⟨X, h1, h2⟩ := play_form M f L k
    cases hs : stepF M f L (playTo M f L k) with
    | none =>
      refine ⟨X, h1, ?_⟩
      rw [← h2]
      exact play_none hs 1
    | some t =>
      obtain ⟨a, l, _, _, ha, ht, _⟩ := step_some hs
      refine ⟨X ++ [L[a]?.getD []], fun x hx => ?_, ?_⟩
      · rcases List.mem_append.1 hx with hx | hx
        · exact h1 x hx
        · simp at hx; subst hx
          rw [List.getElem?_eq_getElem ha]; exact List.getElem_mem ha
      · rw [play_more hs, h2, ht, List.map_append]; rfl
theorem play_len (M : Mask) (f : Flt) (L : List (List Int)) : ∀ k, (playTo M f L k).length ≤ k
  | 0 => Nat.le_refl _
  | k + 1 => by
    have := play_len M f L k
    cases hs : stepF M f L (playTo M f L k) with
    | none => rw [show playTo M f L (k + 1) = playTo M f L k from play_none hs 1]; omega
    | some t => rw [play_more hs, List.length_append]; simp; omega

def liveB (M : Mask) (F : List Flt) (x : List Int) : Bool := F.any fun f => F.any fun g => !decide (readF M f x = readF M g x)
theorem live_iff (M : Mask) (F : List Flt) (x : List Int) : liveB M F x = true ↔ ∃ f ∈ F, ∃ g ∈ F, readF M f x ≠ readF M g x := by simp [liveB]
theorem countP_lt {α : Type} (p : α → Bool) (l : List α) : l.countP p < l.length ↔ ∃ g ∈ l, p g = false := by
  have h1 := List.countP_eq_length (p := p) (l := l)
  have h2 := List.countP_le_length (p := p) (l := l)
  constructor
  · intro h
    apply Classical.byContradiction
    intro hno
    have : l.countP p = l.length := h1.2 fun g hg => by
      cases hp : p g
      · exact absurd ⟨g, hg, hp⟩ hno
      · rfl
    omega
  · rintro ⟨g, hg, hp⟩
    rcases Nat.lt_or_ge (l.countP p) l.length with h | h
    · exact h
    · have := h1.1 (by omega) g hg
      rw [hp] at this; cases this
theorem live_most {M : Mask} {F : List Flt} {x : List Int} (h : mostM M x F < F.length) : liveB M F x = true := by
  rw [live_iff]
  cases F with
  | nil => simp at h
  | cons f F =>
    have h1 := most_ge (M := M) (x := x) (F := f :: F) (f := f) (by simp)
    have h2 : cntM M x (f :: F) f < (f :: F).length := by omega
    unfold cntM at h2
    rw [countP_lt] at h2
    obtain ⟨g, hg, hn⟩ := h2
    refine ⟨g, hg, f, by simp, by simpa using hn⟩
theorem most_live {M : Mask} {F : List Flt} {x : List Int} (h : liveB M F x = true) : mostM M x F < F.length := by
  rw [live_iff] at h
  obtain ⟨f, hf, g, hg, hn⟩ := h
  have key : ∀ k ∈ F, cntM M x F k < F.length := by
    intro k hk
    unfold cntM
    rw [countP_lt]
    by_cases e : readF M f x = readF M k x
    · exact ⟨g, hg, by simp; intro h; exact hn (e.trans h.symm)⟩
    · exact ⟨f, hf, by simpa using e⟩
  have h0 : 0 < F.length := List.length_pos_of_mem hf
  have := most_le (M := M) (x := x) (F := F) (n := F.length - 1) (fun k hk => by have := key k hk; omega)
  omega
theorem countP_less {α : Type} (p q : α → Bool) : ∀ (l : List α), (∀ x ∈ l, p x = true → q x = true) → (∃ x ∈ l, q x = true ∧ p x = false) → l.countP p + 1 ≤ l.countP q
  | [], _, h => by obtain ⟨x, hx, _⟩ := h; simp at hx
  | a :: l, h, h2 => by
    have hle : ∀ (l : List α), (∀ x ∈ l, p x = true → q x = true) → l.countP p ≤ l.countP q := fun l h => List.countP_mono_left h
    rw [List.countP_cons, List.countP_cons]
    obtain ⟨x, hx, hq, hp⟩ := h2
    rcases List.mem_cons.1 hx with rfl | hx
    · rw [hq, hp]
      have := hle l fun y hy => h y (List.mem_cons_of_mem _ hy)
      simp; omega
    · have := countP_less p q l (fun y hy => h y (List.mem_cons_of_mem _ hy)) ⟨x, hx, hq, hp⟩
      have h3 := h a (by simp)
      cases ha : p a
      · simp; omega
      · rw [h3 ha]; simp; omega
theorem which_snoc (M : Mask) (out : List Tst) (t : Tst) : whichF M (out ++ [t]) = (whichF M out).filter fun g => decide (readF M g t.shown = t.read) := by
  unfold whichF
  rw [List.filter_filter]
  apply List.filter_congr
  intro f _
  unfold explainsF
  rw [List.all_append]
  simp [Bool.and_comm]
theorem play_live {M : Mask} {f : Flt} {L : List (List Int)} : ∀ k, (∀ j, j < k → stepF M f L (playTo M f L j) ≠ none) → L.countP (liveB M (whichF M (playTo M f L k))) + k ≤ L.length
  | 0, _ => by have := List.countP_le_length (p := liveB M (whichF M (playTo M f L 0))) (l := L); omega
  | k + 1, h => by
    have ih := play_live k fun j hj => h j (by omega)
    cases hs : stepF M f L (playTo M f L k) with
    | none => exact absurd hs (h k (by omega))
    | some t =>
      obtain ⟨a, l, h2, hb, ha, ht, hl, hlt⟩ := step_some hs
      have hm := play_more hs
      have hw := which_snoc M (playTo M f L k) t
      rw [← hm] at hw
      have := countP_less (liveB M (whichF M (playTo M f L (k + 1)))) (liveB M (whichF M (playTo M f L k))) L (fun x _ hx => by
        rw [live_iff] at hx ⊢
        obtain ⟨u, hu, v, hv, hn⟩ := hx
        rw [hw] at hu hv
        exact ⟨u, (List.mem_filter.1 hu).1, v, (List.mem_filter.1 hv).1, hn⟩) ⟨L[a], List.getElem_mem ha, by
          have := live_most (M := M) (F := whichF M (playTo M f L k)) (x := L[a]?.getD []) (by omega)
          rwa [List.getElem?_eq_getElem ha] at this, by
          rw [← Bool.not_eq_true, live_iff, hw]
          rintro ⟨u, hu, v, hv, hn⟩
          have h3 := (List.mem_filter.1 hu).2
          have h4 := (List.mem_filter.1 hv).2
          rw [ht] at h3 h4
          simp only [List.getElem?_eq_getElem ha, Option.getD_some, decide_eq_true_eq] at h3 h4
          exact hn (h3.trans h4.symm)⟩
      omega
theorem play_end {M : Mask} {f : Flt} {L : List (List Int)} (hL : L.length < 12) : stepF M f L (playF M f L) = none := by
  by_cases h : ∀ j, j < 12 → stepF M f L (playTo M f L j) ≠ none
  · have := play_live 12 h; omega
  · obtain ⟨j, hj⟩ := Classical.not_forall.1 h
    obtain ⟨h1, h2⟩ := Classical.not_imp.1 hj
    have h3 : stepF M f L (playTo M f L j) = none := Classical.not_not.1 h2
    rw [play_stop (by omega) h3]; exact h3
theorem enough_apart {M : Mask} {L : List (List Int)} (h : enoughF M L = true) : (allF M).Pairwise fun f g => ∃ x ∈ L, readF M f x ≠ readF M g x := by
  rw [enough_iff] at h
  rw [List.pairwise_iff_getElem]
  intro i j hi hj hij
  cases hs : sameR M L (allF M)[i] (allF M)[j]
  · rw [← Bool.not_eq_true, sameR_iff] at hs
    obtain ⟨x, hx⟩ := Classical.not_forall.1 hs
    obtain ⟨h1, h2⟩ := Classical.not_imp.1 hx
    exact ⟨x, h1, h2⟩
  · have := (idxR_iff hi hj).2 hs
    rw [h i hi, h j hj] at this; omega
theorem play_one {M : Mask} {f : Flt} {L : List (List Int)} (hL : L.length < 12) (he : enoughF M L = true) : (whichF M (playF M f L)).length < 2 := by
  have h := play_end (M := M) (f := f) hL
  unfold stepF at h
  split at h
  · assumption
  · rename_i h2
    exfalso
    obtain ⟨F, hF⟩ : ∃ F, F = whichF M (playF M f L) := ⟨_, rfl⟩
    rw [← hF] at h h2
    have hsub : F.Sublist (allF M) := by rw [hF]; exact List.filter_sublist
    -- two faults that are left
    have h0 : 0 < F.length := by omega
    have h1 : 1 < F.length := by omega
    obtain ⟨x, hx, hn⟩ := List.pairwise_iff_getElem.1 ((enough_apart he).sublist hsub) 0 1 h0 h1 (by omega)
    obtain ⟨j, hj, rfl⟩ := List.getElem_of_mem hx
    have hlive : liveB M F L[j] = true := (live_iff _ _ _).2 ⟨F[0], List.getElem_mem h0, F[1], List.getElem_mem h1, hn⟩
    have hm := most_live hlive
    rcases bestTo_spec M F L L.length with ⟨h3, _⟩ | ⟨a, l, hb, ha, hl, hmm⟩
    · omega
    · rw [hb] at h
      simp only [] at h
      have := hmm j hj
      rw [List.getElem?_eq_getElem hj] at this
      simp only [Option.getD_some] at this
      rw [if_neg (by omega)] at h
      cases h
end Go.Proofs.YthaampmdponhbaaGreatDoor

namespace Go.Proofs.YthaampmdponhbaaGreatDoor
open Go.RowKit Go.Maps
set_option linter.unusedVariables false

def cntS (M : Mask) (x : List Int) (G : List Flt) (s : List UInt8) : Option Int :=
  if G.any (fun g => decide (toldT M g [x] = s)) then some (G.countP (fun g => decide (toldT M g [x] = s)) : Nat) else none
theorem told_one (M : Mask) (x : List Int) (f g : Flt) : toldT M f [x] = toldT M g [x] ↔ readF M f x = readF M g x := by
  rw [toldT_iff, sameR_iff]; simp
theorem cntS_told (M : Mask) (x : List Int) (G : List Flt) (f : Flt) : (cntS M x G (toldT M f [x])).getD 0 = (cntM M x G f : Nat) := by
  have e : (fun g => decide (toldT M g [x] = toldT M f [x])) = (fun g => decide (readF M g x = readF M f x)) := by
    funext g; exact decide_eq_decide.2 (told_one M x g f)
  unfold cntS cntM
  rw [e]
  split
  · rfl
  · rename_i h
    have : G.countP (fun g => decide (readF M g x = readF M f x)) = 0 := by
      rw [List.countP_eq_zero]
      intro g hg hp
      exact h (List.any_eq_true.2 ⟨g, hg, hp⟩)
    rw [this]; rfl
theorem cntS_snoc (M : Mask) (x : List Int) (G : List Flt) (f : Flt) : cntS M x (G ++ [f]) = fun t => if t = toldT M f [x] then some ((cntM M x G f : Nat) + 1 : Int) else cntS M x G t := by
  funext t
  by_cases e : t = toldT M f [x]
  · subst e
    rw [if_pos rfl]
    have h := cntS_told M x (G ++ [f]) f
    rw [cnt_snoc, if_pos rfl] at h
    have h2 : (cntS M x (G ++ [f]) (toldT M f [x])).isSome := by
      unfold cntS; rw [if_pos (by simp)]; rfl
    obtain ⟨v, hv⟩ := Option.isSome_iff_exists.1 h2
    rw [hv] at h ⊢
    simp only [Option.getD_some] at h
    rw [h]; simp
  · rw [if_neg e]
    unfold cntS
    have e2 : ¬ toldT M f [x] = t := fun h => e h.symm
    simp [List.any_append, List.countP_append, e2]
theorem cntS_nil (M : Mask) (x : List Int) : cntS M x [] = fun _ => none := by funext t; simp [cntS]

theorem bestTo_first {M : Mask} {F : List Flt} {L : List (List Int)} {k : Nat} {x : List Int} (hx : L[k]?.getD [] = x) (h : bestTo M F L k = none) : bestTo M F L (k + 1) = some (k, mostM M x F) := by rw [bestTo, h, hx]
theorem bestTo_new {M : Mask} {F : List Flt} {L : List (List Int)} {k p l : Nat} {x : List Int} (hx : L[k]?.getD [] = x) (h : bestTo M F L k = some (p, l)) (hl : mostM M x F < l) : bestTo M F L (k + 1) = some (k, mostM M x F) := by rw [bestTo, h, hx]; simp only []; rw [if_pos hl]
theorem bestTo_old {M : Mask} {F : List Flt} {L : List (List Int)} {k p l : Nat} {x : List Int} (hx : L[k]?.getD [] = x) (h : bestTo M F L k = some (p, l)) (hl : ¬ mostM M x F < l) : bestTo M F L (k + 1) = some (p, l) := by rw [bestTo, h, hx]; simp only []; rw [if_neg hl]
def bestI : Option (Nat × Nat) → Int × Int
  | none => (-1, 0)
  | some (p, l) => ((p : Int), (l : Int))

set_option maxRecDepth 100000 in
set_option maxHeartbeats 8000000 in
theorem best_c (w : World) (ht : Tab w) (a : Option Addr) (n cap : Nat) (M : Mask) (hn : M.length = n) (H : RowsAt w a M) (hM : okM M = true) (fa : Option Addr) (fn fc : Nat) (F : List Flt) (hfn : F.length = fn) (hfm : fn ≤ 240) (HF : FltsAt w fa F) (hF : ∀ f ∈ F, okF M f = true)
    (a2 : Option Addr) (n2 cap2 : Nat) (L : List (List Int)) (hn2 : L.length = n2) (hm2 : n2 ≤ 12) (H2 : RowsAt w a2 L) (hx : ∀ x ∈ L, okShown M x = true) :
    Calls Tryz.prog 40 #[.slice a n cap, .slice fa fn fc, .slice a2 n2 cap2] w fun e w' => e = .returned (.tuple #[.int .i64 (bestI (bestTo M F L n2)).1, .int .i64 (bestI (bestTo M F L n2)).2]) ∧ Below w.heap.size w w' := by
  have HTo := hid (fun (W : World) (hb : Below w.heap.size w W) (f : Flt) (hf : okF M f = true) (xa : Option Addr) (x : List Int) (hxL : x ∈ L) (hR : RowsAt W xa [x]) => told_c W (ht.below hb) a n cap M hn (H.below hb) hM f hf xa 1 1 [x] rfl (by decide) hR (fun y hy => by simp at hy; rw [hy]; exact hx x hxL))
  have HLen := hid (fun f x => told_len hM f [x])
  have HOk := hid hF
  have HFA := hid HF
  have HR2 := hid H2
  have HN2 := hid hn2
  have HFN := hid hfn
  have HBL := hid (fun k (a l : Nat) (h : bestTo M F L k = some (a, l)) => show a < k ∧ l ≤ 240 from by
    rcases bestTo_spec M F L k with ⟨_, h2⟩ | ⟨a', l', h2, h3, h4, _⟩
    · rw [h] at h2; cases h2
    · rw [h] at h2; cases h2
      have := most_len M (L[a]?.getD []) F
      exact ⟨h3, by omega⟩)
  have HML := hid (fun x k => show mostM M x (F.take k) ≤ 240 from by have := most_len M x (F.take k); rw [List.length_take] at this; omega)
  have HCL := hid (fun x k f => show cntM M x (F.take k) f ≤ 240 from by have := cnt_le M x (F.take k) f; rw [List.length_take] at this; omega)
  have HMS := hid (fun x k (hk : k < F.length) => most_take_succ (M := M) (x := x) (F := F) hk)
  have HFT := hid (show ∀ x, mostM M x (F.take fn) = mostM M x F from fun x => by rw [← hfn, List.take_length])
  have hmm := @run_makeMap Tryz.prog
  clear hn H hM hn2 H2 hx ht hF HF hfn
  go_enter Tryz.func40, Tryz.ntmps40
  go_wp2
  go_loopw [6, 7, 17] (fun s6 s7 s17 wr => ∃ k : Nat, k ≤ n2 ∧ s17 = .int .i64 k ∧ s6 = .int .i64 (bestI (bestTo M F L k)).1 ∧ s7 = .int .i64 (bestI (bestTo M F L k)).2 ∧ Below w.heap.size w wr) (fun _ _ i _ => n2 - (intOf i).toNat)
  case atStart => exact ⟨0, Nat.zero_le _, rfl, rfl, rfl, Below.refl _ _⟩
  case round =>
    obtain ⟨k, hk, rfl, rfl, rfl, hbr⟩ := hrel
    by_cases hlt : k < n2
    · have hkl : k < L.length := by rw [HN2.out]; exact hlt
      obtain ⟨b, off, xa, xn, xc, rfl, hbs, hcx, hxn, hxm, hxi⟩ := (HR2.out.below hbr) k hkl
      have hxL := List.getElem_mem hkl
      obtain ⟨x, hxe⟩ : ∃ x, x = L[k]'hkl := ⟨_, rfl⟩
      have HXE := hid (show L[k]?.getD [] = x by rw [List.getElem?_eq_getElem hkl, hxe]; rfl)
      rw [← hxe] at hxn hxi hxL
      obtain ⟨wm, hwm⟩ : ∃ wm, wm = wr.alloc (.map #[] 0) := ⟨_, rfl⟩
      have hbm : Below wr.heap.size wr wm := by rw [hwm]; exact (Below.refl _ _).alloc (Nat.le_refl _) _
      obtain ⟨mb, hmb⟩ : ∃ mb, mb = wr.heap.size := ⟨_, rfl⟩
      have hmade : wm.ownsMap Tryz.prog 9 (plainElem (H := Unit) Tryz.prog 3) mb 0 (.map []) := by rw [hwm, hmb]; exact World.ownsMap_made _ _ _ _
      have hzm : wm.heap.size = mb + 1 := by rw [hwm, hmb]; simp
      have HBM := hid (chain hbr hbm)
      have HMade := hid hmade
      have HWM := hid hwm
      have HMB := hid hmb
      have HZM := hid hzm
      have HX := hid (And.intro hxn (And.intro hxm (And.intro (hxi.below hbm) hxL)))
      have hwmb : w.heap.size ≤ mb := by rw [hmb]; exact hbr.size
      clear hxn hxm hxi hxL hwm hmade hxe hbm hmb hzm hbr
      go_wp2
      rw [← HMB.out, ← HWM.out]
      go_loopw [11, 25] (fun s11 s25 wq => ∃ (j : Nat) (D : DataW Unit) (c : Nat), j ≤ fn ∧ s25 = .int .i64 j ∧ s11 = .int .i64 (mostM M x (F.take j) : Nat) ∧ wq.ownsMap Tryz.prog 9 (plainElem (H := Unit) Tryz.prog 3) mb c D ∧ c ≤ j ∧ Hid (MapSI D (cntS M x (F.take j))) ∧ Keep (fun q => q ≠ mb) wm wq) (fun _ i _ => fn - (intOf i).toNat)
      case atStart => exact ⟨0, .map [], 0, Nat.zero_le _, rfl, by simp [mostM], HMade.out, Nat.le_refl _, hid (by rw [List.take_zero, cntS_nil]; exact MapSI.nil), Keep.refl _ _⟩
      case round =>
        obtain ⟨j, D, c, hj, rfl, rfl, hmap, hc, HD, hkp⟩ := hrel
        have hbq : Below w.heap.size w wr := hkp.below HBM.out HBM.out.size (fun q hq => by omega)
        by_cases hjlt : j < fn
        · have hjF : j < F.length := by rw [HFN.out]; exact hjlt
          obtain ⟨b2, off2, e2, hbs2, k0, k1, k2⟩ := (HFA.out.below hbq) j hjF
          subst e2
          have hms := HMS.out x j hjF
          have hsn := cntS_snoc M x (F.take j) F[j]
          have htd := cntS_told M x (F.take j) F[j]
          have htd2 := cntS_told M x (F.take j ++ [F[j]]) F[j]
          rw [cnt_snoc, if_pos rfl] at htd2
          have htk : F.take (j + 1) = F.take j ++ [F[j]] := List.take_succ_eq_append_getElem hjF
          rw [← htk] at hsn htd2
          have hok := HOk.out F[j] (List.getElem_mem hjF)
          have hcl := HCL.out x j F[j]
          have hml := HML.out x j
          have hlen := HLen.out F[j] x
          obtain ⟨f, hf⟩ : ∃ f, f = F[j] := ⟨_, rfl⟩
          rw [← hf] at hms hsn htd htd2 hok hcl hlen k0 k1 k2
          obtain ⟨C, hC⟩ : ∃ C, C = cntM M x (F.take j) f := ⟨_, rfl⟩
          rw [← hC] at hms hsn htd htd2 hcl
          obtain ⟨P, hP⟩ : ∃ P, P = mostM M x (F.take j) := ⟨_, rfl⟩
          rw [← hP] at hms hml ⊢
          obtain ⟨S, hS⟩ : ∃ S : ByteArray, S = ⟨(toldT M f [x]).toArray⟩ := ⟨_, rfl⟩
          have hSt : S.data.toList = toldT M f [x] := by rw [hS]
          have hSz : S.size ≤ maxLen := by rw [hS]; unfold maxLen; simp [ByteArray.size]; simp at hlen; omega
          rw [← hSt] at hsn htd htd2
          obtain ⟨wx, hwx⟩ : ∃ wx, wx = (wr.alloc (.cells #[.int .i64 f.kind, .int .i64 f.row, .int .i64 f.pixel] 25)).alloc (.cells #[.slice xa xn xc] 27) := ⟨_, rfl⟩
          have hb1 : Below wr.heap.size wr (wr.alloc (.cells #[.int .i64 f.kind, .int .i64 f.row, .int .i64 f.pixel] 25)) := (Below.refl _ _).alloc (Nat.le_refl _) _
          have hbx : Below wr.heap.size wr wx := by rw [hwx]; exact hb1.alloc (by simp) _
          have hxr : IntsAt wr xa x := by
            have h := HX.out.2.2.1
            intro i hi
            obtain ⟨b3, o3, e3, hb3, hc3⟩ := h i hi
            refine ⟨b3, o3, e3, Nat.lt_of_lt_of_le hb3 hkp.size, hkp.cell hc3 ?_⟩
            rintro rfl
            obtain ⟨es, clock, hbk, _, _, _⟩ := HMade.out
            unfold World.cell? at hc3
            rw [hbk] at hc3
            simp at hc3
          have hrx : RowsAt wx (some ⟨wr.heap.size + 1, 0, none⟩) [x] := by
            rw [hwx]
            have := lit_rows1 (wr.alloc (.cells #[.int .i64 f.kind, .int .i64 f.row, .int .i64 f.pixel] 25)) xa xn xc x HX.out.1 HX.out.2.1 (hxr.below hb1) 27
            rwa [World.size_alloc] at this
          have HT1 := hid (HTo.out wx (chain hbq hbx) f hok (some ⟨wr.heap.size + 1, 0, none⟩) x HX.out.2.2.2 hrx)
          rw [← hS] at HT1
          have HWX := hid hwx
          have HBX := hid hbx
          have HSN := hid hsn
          have HTD := hid htd
          have HTD2 := hid htd2
          have HMS1 := hid hms
          have HSZ := hid hSz
          have HMAP := hid hmap
          have HKP := hid hkp
          have M4 := hid (show c < maxLen by unfold maxLen; omega)
          have hsw := hkp.size
          have hmbr : mb < wr.heap.size := by have := HZM.out; omega
          clear hmap hkp hbx hwx hb1 hxr hrx hSt hSz hS hsn htd htd2 hms hf hok hlen htk hjF hC hP
          obtain ⟨kind, row, pixel⟩ := f
          simp only [Flt.val] at HT1
          simp only [] at k0 k1 k2 HWX
          go_wp2_with (go_at_call 78; refine Stop.of ?_)
          refine Stop.go ?_
          rw [← HWX.out]
          refine HT1.out.mono ?_
          rintro e w3 ⟨rfl, hb3⟩
          have hb3' := chain HBX.out hb3
          have HM3 := hid (map_keep (S := fun _ => True) HMAP.out (Keep.of_below hb3') trivial)
          have HK3 := hid (HKP.out.trans (Keep.of_below hb3' : Keep (fun q => q ≠ mb) wr w3))
          clear hb3 hb3' k0 k1 k2
          have hD2 : MapSI (D.put (.string S.data.toList) (.lit (.int .i64 ((C : Int) + 1)))) (cntS M x (F.take (j + 1))) := by
            have h9 := HD.out.put S.data.toList ((C : Int) + 1)
            rw [HSN.out]; exact h9
          have HD2 := hid hD2
          have hel : plainElem (H := Unit) Tryz.prog 3 (.int .i64 ((C : Int) + 1)) = some (.lit (.int .i64 ((C : Int) + 1)), []) := plainElem_int Tryz.underlying3 (by have := wf_nat (C + 1) (by omega); push_cast at this; exact this)
          have HEL := hid hel
          have q1 := IntWalk.i64_in ((C : Int) + 1) (by omega)
          clear hD2 hel
          go_wp2_with (first
            | (at_lookup; refine wpList_lookup_si_one _ rfl _ _ 99 rfl 9 3 Tryz.underlying9 Tryz.underlying99 Tryz.underlying3 (Tryz.zeroValue3 _) mb _ D _ HD.out rfl HM3.out S rfl HSZ.out C HTD.out ?_)
            | (at_mapUpdate; refine wpList_mapUpdate_own _ rfl _ _ _ 99 rfl 9 3 (string_keyed Tryz.underlying9) Tryz.underlying99 _ mb _ D rfl HM3.out M4.out _ _ _ rfl rfl (keyS Tryz.underlying9 HSZ.out) _ [] HEL.out ?_; refine Stop.of ?_))
          refine Stop.go ?_
          intro w5 hown5 hg5
          have HM5 := hid hown5
          have HK5 := hid (HK3.out.trans ((Keep.grown hg5).mono fun q hq e => hq (by cases e; rfl)))
          clear hown5 hg5 q1
          go_wp2_with (at_lookup; refine wpList_lookup_si_one _ rfl _ _ 99 rfl 9 3 Tryz.underlying9 Tryz.underlying99 Tryz.underlying3 (Tryz.zeroValue3 _) mb _ _ _ HD2.out rfl HM5.out S rfl HSZ.out ((C : Int) + 1) (by have := HTD2.out; push_cast at this; exact this) ?_; refine Stop.of ?_)
          refine Stop.go ?_
          go_wp2
          have hmxe : (max (P : Int) ((C : Int) + 1)) = ((max P (C + 1) : Nat) : Int) := by omega
          exact ⟨⟨j + 1, _, c + 1, by omega, by go_num, by rw [HMS1.out, hmxe], HM5.out, by omega, hid HD2.out, HK5.out⟩, by simp [intOf]; omega⟩
        · obtain rfl : j = fn := by omega
          rw [HFT.out]
          have hmx := most_len M x F
          rw [HFN.out] at hmx
          obtain ⟨P, hP⟩ : ∃ P, P = mostM M x F := ⟨_, rfl⟩
          rw [← hP] at hmx ⊢
          have HP := hid hP
          have HBQ := hid hbq
          clear hmap hkp hP hbq
          cases hb : bestTo M F L k with
          | none =>
            have hs := bestTo_first HXE.out hb
            rw [← HP.out] at hs
            have HS1 := hid hs
            clear hs hb
            simp only [bestI]
            go_wp2
            refine ⟨⟨k + 1, by omega, by go_num, ?_, ?_, HBQ.out⟩, by simp [intOf]; omega⟩
            · rw [HS1.out]; rfl
            · rw [HS1.out]; rfl
          | some pl =>
            obtain ⟨p, l⟩ := pl
            have hbl := HBL.out k p l hb
            by_cases hpl : P < l
            · have hs := bestTo_new HXE.out hb (by rw [← HP.out]; exact hpl)
              rw [← HP.out] at hs
              have HS1 := hid hs
              clear hs hb
              simp only [bestI]
              go_wp2
              refine ⟨⟨k + 1, by omega, by go_num, ?_, ?_, HBQ.out⟩, by simp [intOf]; omega⟩
              · rw [HS1.out]; rfl
              · rw [HS1.out]; rfl
            · have hs := bestTo_old HXE.out hb (by rw [← HP.out]; exact hpl)
              have HS1 := hid hs
              clear hs hb
              simp only [bestI]
              go_wp2
              refine ⟨⟨k + 1, by omega, by go_num, ?_, ?_, HBQ.out⟩, by simp [intOf]; omega⟩
              · rw [HS1.out]; rfl
              · rw [HS1.out]; rfl
    · obtain rfl : k = n2 := by omega
      go_wp2
      go_ret2
      exact ⟨rfl, hbr⟩
end Go.Proofs.YthaampmdponhbaaGreatDoor

namespace Go.Proofs.YthaampmdponhbaaGreatDoor
open Go.RowKit
set_option linter.unusedVariables false

set_option maxRecDepth 100000 in
set_option maxHeartbeats 2000000 in
theorem refExplains_c (w : World) (a : Option Addr) (n cap : Nat) (M : Mask) (hn : M.length = n) (H : RowsAt w a M) (hM : okM M = true) (f : Flt) (hf : okF M f = true) (a3 : Option Addr) (n3 cap3 : Nat) (t : List Tst) (hn3 : t.length = n3) (hm3 : n3 ≤ maxLen) (H3 : TestsAt w a3 t) (hok : ∀ x ∈ t, okTest M x = true) :
    Calls Tryz.prog 36 #[.slice a n cap, f.val, .slice a3 n3 cap3] w fun e w' => e = .returned (.bool (explainsF M f t)) ∧ Below w.heap.size w w' := by
  obtain ⟨wf, hwf, hb0, hcells⟩ := fltBox w f
  have hm : n ≤ maxLen := by have := (okM_len hM).2.1; unfold maxLen; omega
  have HRd := hid (fun (W : World) (hb : Below wf.heap.size wf W) (xa : Option Addr) (xn xc : Nat) (x : List Int) (hxn : x.length = xn) (hxi : IntsAt W xa x) (hx : okShown M x = true) => refReads_v W a n cap M hn (H.below (chain hb0 hb)) hM f hf xa xn xc x hxn hxi hx)
  have HSI := hid (fun (W : World) (x : List Int) (va ra : Option Addr) (vc rn rc : Nat) (r : List Int) (D : Bool) (h1 : IntsAt W va (readF M f x)) (h2 : r.length = rn) (h3 : rn ≤ maxLen) (h4 : IntsAt W ra r) (hD : D = decide (readF M f x = r)) => sameInts_d W va ra n rn vc rc _ r D (by rw [readF_length, hn]) h2 hm h3 h1 h4 hD)
  have HE := hid (show explainsF M f t = t.all (fun x => decide (readF M f x.shown = x.read)) from rfl)
  have HOK := hid hok
  have HN3 := hid hn3
  have HH3 := hid (H3.below hb0)
  have HC := hid hcells
  have HB0 := hid hb0
  have HWF := hid hwf
  unfold maxLen at hm3
  clear hn H hM hf hn3 H3 hok hcells hb0 hwf hm
  obtain ⟨R, hR⟩ : ∃ R, R = readF M f := ⟨_, rfl⟩
  rw [← hR] at HRd HSI HE
  obtain ⟨EX, hEX⟩ : ∃ R, R = explainsF M f t := ⟨_, rfl⟩
  rw [← hEX] at HE ⊢
  clear hR hEX
  obtain ⟨kind, row, pixel⟩ := f
  simp only [Flt.val] at HRd HC HWF ⊢
  have hw := HWF.out
  go_enter Tryz.func36, Tryz.ntmps36
  go_wp2
  rw [← hw]
  clear hw
  go_loopw [11] (fun i wr => ∃ k : Nat, k ≤ n3 ∧ i = .int .i64 k ∧ Below wf.heap.size wf wr ∧ Hid (∀ j (hj : j < t.length), j < k → decide (R t[j].shown = t[j].read) = true)) (fun i _ => n3 - (intOf i).toNat)
  case atStart => exact ⟨0, Nat.zero_le _, rfl, Below.refl _ _, hid (fun j _ h => by omega)⟩
  case round =>
    obtain ⟨k, hk, rfl, hbk, hno⟩ := hrel
    by_cases hlt : k < n3
    · have hkt : k < t.length := by rw [HN3.out]; exact hlt
      obtain ⟨b, off, sa, sn, sc, ra, rn, rc, rfl, hbs, c0, c1, hsn, hsm, hsi, hrn, hrm, hri⟩ := (HH3.out.below hbk) k hkt
      obtain ⟨hsh, hrd⟩ := okTest_ok (HOK.out t[k] (List.getElem_mem hkt))
      obtain ⟨x, hx⟩ : ∃ x, x = t[k]'hkt := ⟨_, rfl⟩
      rw [← hx] at hsn hsi hrn hri hsh
      obtain ⟨wt, hwt, hbt, hct⟩ := tstBox wr sa ra sn sc rn rc
      have hbw := chain hbk hbt
      obtain ⟨D, hD⟩ : ∃ D, D = decide (R x.shown = x.read) := ⟨_, rfl⟩
      have HR1 := hid (fun (W : World) (hb : Below wt.heap.size wt W) => HRd.out W (chain hbw hb) sa sn sc x.shown hsn (hsi.below (chain hbt hb)) hsh)
      have HS1 := hid (fun (W : World) (hb : Below wt.heap.size wt W) (va : Option Addr) (vc : Nat) (hv : IntsAt W va (R x.shown)) => HSI.out W x.shown va ra vc rn rc x.read D hv hrn hrm (hri.below (chain hbt hb)) hD)
      have HS := hid (fun (W : World) (hb : Below wt.heap.size wt W) => show (W.cell? ⟨w.heap.size, 0, none⟩ = some (.int .i64 kind) ∧ W.cell? ⟨w.heap.size, 1, none⟩ = some (.int .i64 row) ∧ W.cell? ⟨w.heap.size, 2, none⟩ = some (.int .i64 pixel)) ∧ W.cell? ⟨wr.heap.size, 0, none⟩ = some (.slice sa sn sc) ∧ W.cell? ⟨wr.heap.size, 1, none⟩ = some (.slice ra rn rc) from ⟨(HC.out W (chain hbw hb)).2, (hct W hb).2⟩)
      have HD := hid (show decide (R (t[k]'hkt).shown = (t[k]'hkt).read) = D by rw [hD, hx])
      have HBW := hid hbw
      have HWT := hid hwt
      have HKT := hid hkt
      clear hsn hsi hrn hri hsh hrd hx hwt hbt hct hbw hD hbk
      go_wp2
      rw [← HWT.out]
      refine plain_region (fun j' X => wAll j' = true → ((X.cell? ⟨w.heap.size, 0, none⟩ = some (.int .i64 kind) ∧ X.cell? ⟨w.heap.size, 1, none⟩ = some (.int .i64 row) ∧ X.cell? ⟨w.heap.size, 2, none⟩ = some (.int .i64 pixel)) ∧ X.cell? ⟨wr.heap.size, 0, none⟩ = some (.slice sa sn sc) ∧ X.cell? ⟨wr.heap.size, 1, none⟩ = some (.slice ra rn rc))) (by kernel_rfl) ?_
      have hbd : Below wt.heap.size wt wt.drew := (Below.refl _ _).drew
      generalize wt.drew = wd at hbd ⊢
      refine AnyT.takeD (i := 0) (v := .slice a n cap) rfl rfl (by kernel_rfl) (by kernel_rfl) (by kernel_rfl) (by first | exact (fun _ _ _ h => h) | exact (fun _ _ _ h => absurd h.1 (by simp))) (by kernel_rfl) (by rfl) (by rintro w' ⟨⟨q0, q1, q2⟩, q4, q5⟩; go_simp) (HS.out _ hbd) ?_; go_frame
      refine AnyT.takeD (i := 1) (v := .agg #[.int .i64 kind, .int .i64 row, .int .i64 pixel]) rfl rfl (by kernel_rfl) (by kernel_rfl) (by kernel_rfl) (by first | exact (fun _ _ _ h => h) | exact (fun _ _ _ h => absurd h.1 (by simp))) (by kernel_rfl) (by rfl) (by rintro w' ⟨⟨q0, q1, q2⟩, q4, q5⟩; go_simp) (HS.out _ hbd) ?_; go_frame
      refine AnyT.takeD (i := 2) (v := .pointer (some ⟨wr.heap.size, 0, none⟩)) rfl rfl (by kernel_rfl) (by kernel_rfl) (by kernel_rfl) (by first | exact (fun _ _ _ h => h) | exact (fun _ _ _ h => absurd h.1 (by simp))) (by kernel_rfl) (by rfl) (by rintro w' ⟨⟨q0, q1, q2⟩, q4, q5⟩; go_simp) (HS.out _ hbd) ?_; go_frame
      refine AnyT.takeD (i := 3) (v := .slice sa sn sc) rfl rfl (by kernel_rfl) (by kernel_rfl) (by kernel_rfl) (by first | exact (fun _ _ _ h => h) | exact (fun _ _ _ h => absurd h.1 (by simp))) (by kernel_rfl) (by rfl) (by rintro w' ⟨⟨q0, q1, q2⟩, q4, q5⟩; go_simp) (HS.out _ hbd) ?_; go_frame
      refine AnyT.takeD (i := 5) (v := .pointer (some ⟨wr.heap.size, 1, none⟩)) rfl rfl (by kernel_rfl) (by kernel_rfl) (by kernel_rfl) (by first | exact (fun _ _ _ h => h) | exact (fun _ _ _ h => absurd h.1 (by simp))) (by kernel_rfl) (by rfl) (by rintro w' ⟨⟨q0, q1, q2⟩, q4, q5⟩; go_simp) (HS.out _ hbd) ?_; go_frame
      refine AnyT.takeD (i := 6) (v := .slice ra rn rc) rfl rfl (by kernel_rfl) (by kernel_rfl) (by kernel_rfl) (by first | exact (fun _ _ _ h => h) | exact (fun _ _ _ h => absurd h.1 (by simp))) (by kernel_rfl) (by rfl) (by rintro w' ⟨⟨q0, q1, q2⟩, q4, q5⟩; go_simp) (HS.out _ hbd) ?_; go_frame
      refine AnyT.next (i := 4) (by kernel_rfl) rfl (wpOp_of_list rfl ?_)
      go_wp2_with (go_at_call 45; refine (HR1.out _ hbd).mono ?_; rintro e w4 ⟨a4, c4, rfl, hA4, hbl4⟩; refine Stop.of ?_)
      refine Stop.go ?_
      have hw4 := chain hbd hbl4
      go_wp2
      refine ⟨fun _ => HS.out _ hw4, ?_⟩
      refine AnyT.next (i := 7) (by kernel_rfl) rfl (wpOp_of_list rfl ?_)
      go_wp2_with (go_at_call 46; refine (HS1.out _ hw4 _ _ hA4).mono ?_; rintro e w5 ⟨rfl, hbl5⟩; refine Stop.of ?_)
      refine Stop.go ?_
      have hw5 := chain hw4 hbl5
      have HW5 := hid hw5
      clear hA4 hw4 hbl4 hbl5 hw5 hbd
      go_wp2
      refine ⟨fun _ => HS.out _ HW5.out, ?_⟩
      refine AnyT.next (i := 8) (by kernel_rfl) rfl (wpOp_of_list rfl ?_)
      go_wp2
      refine ⟨fun _ => HS.out _ HW5.out, ?_⟩
      refine AnyT.done (by kernel_rfl) ?_ _
      cases D
      · go_wp2
        go_ret
        refine ⟨ret_bool ?_, chain HB0.out (chain HBW.out HW5.out)⟩
        rw [HE.out, all_stop (p := fun x : Tst => decide (R x.shown = x.read)) HKT.out HD.out]
      · go_wp2
        refine ⟨⟨k + 1, by omega, by go_num, chain HBW.out HW5.out, hid (fun j hj hjk => ?_)⟩, by simp [intOf]; omega⟩
        rcases Nat.lt_or_ge j k with h | h
        · exact hno.out j hj h
        · obtain rfl : j = k := by omega
          exact HD.out
    · obtain rfl : k = n3 := by omega
      go_wp2
      go_ret
      refine ⟨ret_bool ?_, chain HB0.out hbk⟩
      rw [HE.out, all_done (p := fun x : Tst => decide (R x.shown = x.read)) (fun j hj => hno.out j hj (by rw [← HN3.out]; exact hj))]

theorem whichTo_succ (M : Mask) (t : List Tst) (A : List Flt) (k : Nat) (hk : k < A.length) : (A.take (k + 1)).filter (fun f => explainsF M f t) = (A.take k).filter (fun f => explainsF M f t) ++ (if explainsF M A[k] t then [A[k]] else []) := by
  rw [List.take_succ_eq_append_getElem hk, List.filter_append]
  congr 1
  cases h : explainsF M A[k] t <;> simp [h]

set_option maxRecDepth 100000 in
set_option maxHeartbeats 2000000 in
theorem refWhich_c (w : World) (a : Option Addr) (n cap : Nat) (M : Mask) (hn : M.length = n) (H : RowsAt w a M) (hM : okM M = true) (a3 : Option Addr) (n3 cap3 : Nat) (t : List Tst) (hn3 : t.length = n3) (hm3 : n3 ≤ maxLen) (H3 : TestsAt w a3 t) (hok : ∀ x ∈ t, okTest M x = true) :
    Calls Tryz.prog 38 #[.slice a n cap, .slice a3 n3 cap3] w fun e w' => ∃ v base, e = .returned v ∧ w.heap.size ≤ base ∧ FltsO w' base v (whichF M t) ∧ Below w.heap.size w w' := by
  have HA := hid (refAll_c w a n cap M hn H hM)
  have HX := hid (fun (W : World) (hb : Below w.heap.size w W) (f : Flt) (hf : f ∈ allF M) => refExplains_c W a n cap M hn (H.below hb) hM f (all_ok hf) a3 n3 cap3 t hn3 hm3 (H3.below hb) hok)
  have hA240 := all_240 hM
  have hwe : whichF M t = (allF M).filter (fun f => explainsF M f t) := rfl
  rw [hwe]
  obtain ⟨A, hA⟩ : ∃ A, A = allF M := ⟨_, rfl⟩
  rw [← hA] at HA HX hA240 ⊢
  have HTo := hid (whichTo_succ M t A)
  clear hn H hM hn3 H3 hok hA hwe
  go_enter Tryz.func38, Tryz.ntmps38
  go_wp2_with (go_at_call 74; refine HA.out.mono ?_; rintro e w1 ⟨v, base, rfl, hbase, hF, hb1⟩; refine Stop.of ?_)
  refine Stop.go ?_
  obtain ⟨aa, ac, rfl, hm, hE⟩ := hF.reads
  obtain ⟨N, hN⟩ : ∃ N, N = A.length := ⟨_, rfl⟩
  rw [← hN] at hA240 ⊢
  have HN := hid hN
  have HE := hid hE
  have HB1 := hid hb1
  clear hF hE hm hb1 hN hbase
  go_wp2
  go_loopw [5, 11] (fun v i wr => ∃ k : Nat, k ≤ N ∧ i = .int .i64 k ∧ (∃ l, FltsO wr w1.heap.size v l ∧ l.length ≤ k ∧ Hid (l = (A.take k).filter (fun f => explainsF M f t))) ∧ Below w1.heap.size w1 wr) (fun _ i _ => N - (intOf i).toNat)
  case atStart => exact ⟨0, Nat.zero_le _, rfl, ⟨[], FltsO.nil _ _, Nat.le_refl _, hid (by simp)⟩, Below.refl _ _⟩
  case round =>
    obtain ⟨k, hk, rfl, ⟨l, hF, hll, hl⟩, hbk⟩ := hrel
    by_cases hlt : k < N
    · have hkA : k < A.length := by rw [← HN.out]; exact hlt
      obtain ⟨b, off, rfl, hbs, h0, h1, h2⟩ := (HE.out.below hbk) k hkA
      have hmem := List.getElem_mem hkA
      have hto := HTo.out k hkA
      obtain ⟨f, hf⟩ : ∃ f, f = A[k]'hkA := ⟨_, rfl⟩
      rw [← hf] at hto h0 h1 h2 hmem
      obtain ⟨wf, hwf, hbf, hcf⟩ := fltBox wr f
      have HXf := hid (HX.out wf (chain HB1.out (chain hbk hbf)) f hmem)
      obtain ⟨D, hD⟩ : ∃ D, D = explainsF M f t := ⟨_, rfl⟩
      rw [← hD] at HXf hto
      have HTO := hid hto
      have HBK := hid (chain hbk hbf)
      have HF := hid (hF.below hbf)
      have HC := hid hcf
      have HWF := hid hwf
      obtain ⟨_, f0, f1, f2⟩ := hcf wf (Below.refl _ _)
      obtain ⟨va, vc, rfl⟩ := hF.slice
      clear hto hbk hbf hF hcf hwf hmem hf hD
      obtain ⟨q, hq⟩ : ∃ q, q = l.length := ⟨_, rfl⟩
      have HQ := hid hq
      rw [← hq] at hll ⊢
      rw [← hq] at HF
      clear hq
      obtain ⟨kind, row, pixel⟩ := f
      simp only [Flt.val] at HXf HC HWF
      simp only [] at h0 h1 h2 f0 f1 f2
      cases D
      · go_wp2_with fail
        rw [← HWF.out]
        go_wp2_with (go_at_call 36; refine HXf.out.mono ?_; rintro e w3 ⟨rfl, hb3⟩)
        refine ⟨⟨k + 1, by omega, by go_num, ⟨l, HF.out.below hb3, by have := HQ.out; omega, hid (by rw [HTO.out, hl.out]; simp)⟩, chain HBK.out hb3⟩, by simp [intOf]; omega⟩
      · go_wp2_with fail
        rw [← HWF.out]
        go_wp2_with (go_at_call 36; refine HXf.out.mono ?_; rintro e w3 ⟨rfl, hb3⟩; refine Stop.of ?_)
        refine Stop.go ?_
        obtain ⟨_, g0, g1, g2⟩ := HC.out w3 hb3
        have HO := hid (show w3.ownsRow w1.heap.size 25 3 (.slice va q vc) q (fltVals l) by have := HF.out.below hb3; unfold FltsO at this; rw [← HQ.out] at this; exact this)
        have HB3 := hid (chain HBK.out hb3)
        have M1 := hid (show q + 1 ≤ maxLen by unfold maxLen; omega)
        have M2 := hid (show (q + 1) * 24 ≤ 140737488355328 by omega)
        have M3 := hid (show w1.heap.size ≤ (w3.alloc (.cells (fltCells ⟨kind, row, pixel⟩).toArray 25)).heap.size by have := HB3.out.size; simp; omega)
        clear hb3
        go_wp2_with (at_builtin; refine wpList_app _ rfl (.tmp 19) (.tmp 21) 36 rfl w1.heap.size 25 (.agg #[.int .i64 0, .int .i64 0, .int .i64 0]) 3 24 Tryz.underlying36 info_fault rfl (by decide) (.slice va q vc) q _ rfl (HO.out.alloc _) (some ⟨w3.heap.size, 0, none⟩) 1 1 (fltCells ⟨kind, row, pixel⟩) rfl rfl no_none (flt_newsA w3 ⟨kind, row, pixel⟩ _) (flt_one _) M1.out M2.out M3.out ?_; refine Stop.of ?_)
        refine Stop.go ?_
        intro a4 c4 w4 own4 g4
        have hb4 : Below w1.heap.size w1 w4 := (HB3.out.alloc HB3.out.size _).grown g4 M3.out (fun q hq => (HO.out.lt q hq).1)
        go_wp2
        refine ⟨⟨k + 1, by omega, by go_num, ⟨l ++ [⟨kind, row, pixel⟩], FltsO.snoc HQ.out.symm own4, by rw [List.length_append, ← HQ.out]; simp; omega, hid ?_⟩, hb4⟩, by simp [intOf]; omega⟩
        rw [HTO.out, hl.out]; simp
    · obtain rfl : k = N := by omega
      have e : l = A.filter (fun f => explainsF M f t) := by rw [hl.out, HN.out, List.take_length]
      subst e
      go_wp2
      go_ret
      exact ⟨_, w1.heap.size, rfl, HB1.out.size, hF, chain HB1.out hbk⟩
end Go.Proofs.YthaampmdponhbaaGreatDoor

namespace Go.Proofs.YthaampmdponhbaaGreatDoor
open Go.RowKit Go.Maps
set_option linter.unusedVariables false

def bestJ (F : List Flt) : Option (Nat × Nat) → Nat × Nat
  | none => (0, F.length + 1)
  | some (p, l) => (p, l)
theorem bestJ_le {M : Mask} {F : List Flt} {L : List (List Int)} (k : Nat) : (bestJ F (bestTo M F L k)).2 ≤ F.length + 1 ∧ (bestJ F (bestTo M F L k)).1 ≤ k := by
  rcases bestTo_spec M F L k with ⟨_, h⟩ | ⟨a, l, h, ha, hl, _⟩
  · rw [h]; simp [bestJ]
  · rw [h]
    have := most_len M (L[a]?.getD []) F
    simp only [bestJ]; omega
theorem bestJ_new {M : Mask} {F : List Flt} {L : List (List Int)} {k : Nat} {x : List Int} (hx : L[k]?.getD [] = x) (h : mostM M x F < (bestJ F (bestTo M F L k)).2) : bestJ F (bestTo M F L (k + 1)) = (k, mostM M x F) := by
  cases hb : bestTo M F L k with
  | none => rw [bestTo_first hx hb]; rfl
  | some pl =>
    obtain ⟨p, l⟩ := pl
    rw [hb] at h
    rw [bestTo_new hx hb h]; rfl
theorem bestJ_old {M : Mask} {F : List Flt} {L : List (List Int)} {k : Nat} {x : List Int} (hx : L[k]?.getD [] = x) (h : ¬ mostM M x F < (bestJ F (bestTo M F L k)).2) : bestJ F (bestTo M F L (k + 1)) = bestJ F (bestTo M F L k) := by
  cases hb : bestTo M F L k with
  | none =>
    exfalso
    rw [hb] at h
    have := most_len M x F
    simp only [bestJ] at h; omega
  | some pl =>
    obtain ⟨p, l⟩ := pl
    rw [hb] at h
    rw [bestTo_old hx hb h]

set_option maxRecDepth 100000 in
set_option maxHeartbeats 8000000 in
theorem refBest0_c (w : World) (a : Option Addr) (n cap : Nat) (M : Mask) (hn : M.length = n) (H : RowsAt w a M) (hM : okM M = true) (fa : Option Addr) (fn fc : Nat) (F : List Flt) (hfn : F.length = fn) (hfm : fn ≤ 240) (HF : FltsAt w fa F) (hF : ∀ f ∈ F, okF M f = true)
    (a2 : Option Addr) (n2 cap2 : Nat) (L : List (List Int)) (hn2 : L.length = n2) (hm2 : n2 ≤ 12) (H2 : RowsAt w a2 L) (hx : ∀ x ∈ L, okShown M x = true) :
    Calls Tryz.prog 42 #[.slice a n cap, .slice fa fn fc, .slice a2 n2 cap2] w fun e w' => e = .returned (.tuple #[.int .i64 ((bestJ F (bestTo M F L n2)).1 : Nat), .int .i64 ((bestJ F (bestTo M F L n2)).2 : Nat)]) ∧ Below w.heap.size w w' := by
  have HRd := hid (fun (W : World) (hb : Below w.heap.size w W) (f : Flt) (hf : f ∈ F) (xa : Option Addr) (xn xc : Nat) (x : List Int) (hxL : x ∈ L) (hxn : x.length = xn) (hxi : IntsAt W xa x) => refReads_v W a n cap M hn (H.below hb) hM f (hF f hf) xa xn xc x hxn hxi (hx x hxL))
  have HSI := hid (fun (W : World) (f g : Flt) (x : List Int) (a4 a5 : Option Addr) (c4 c5 : Nat) (D : Bool) (hD : D = decide (readF M f x = readF M g x)) (h4 : IntsAt W a4 (readF M f x)) (h5 : IntsAt W a5 (readF M g x)) => sameInts_d W a4 a5 n n c4 c5 _ _ D (by rw [readF_length, hn]) (by rw [readF_length, hn]) (by have := (okM_len hM).2.1; unfold maxLen; omega) (by have := (okM_len hM).2.1; unfold maxLen; omega) h4 h5 hD)
  have HFA := hid HF
  have HR2 := hid H2
  have HN2 := hid hn2
  have HFN := hid hfn
  have HBL := hid (fun k => bestJ_le (M := M) (F := F) (L := L) k)
  have HMT := hid (fun x k (hk : k < F.length) => mostTo_succ (M := M) (x := x) (F := F) hk)
  have HMA := hid (fun x => show mostTo M x F fn = mostM M x F from by rw [← hfn, mostTo_all])
  have HML := hid (fun x k => show mostTo M x F k ≤ 240 from by have := mostTo_le M x F k; omega)
  have HCS := hid (fun x k f (hk : k < F.length) => cnt_take_succ (M := M) (x := x) (F := F) (f := f) hk)
  have HCL := hid (fun x k f => show cntM M x (F.take k) f ≤ k from by have := cnt_le M x (F.take k) f; rw [List.length_take] at this; omega)
  have HCA := hid (fun x f => show cntM M x (F.take fn) f = cntM M x F f from by rw [← hfn, List.take_length])
  have HNW := hid (fun k x hx h => bestJ_new (M := M) (F := F) (L := L) (k := k) (x := x) hx h)
  have HOL := hid (fun k x hx h => bestJ_old (M := M) (F := F) (L := L) (k := k) (x := x) hx h)
  have HJ0 := hid (show bestJ F (bestTo M F L 0) = (0, fn + 1) from by rw [← hfn]; rfl)
  clear hn H hM hn2 H2 hx HF hF hfn
  go_enter Tryz.func42, Tryz.ntmps42
  go_wp2
  go_loopw [6, 7, 21] (fun s6 s7 s21 wr => ∃ k : Nat, k ≤ n2 ∧ s21 = .int .i64 k ∧ s6 = .int .i64 ((bestJ F (bestTo M F L k)).1 : Nat) ∧ s7 = .int .i64 ((bestJ F (bestTo M F L k)).2 : Nat) ∧ Below w.heap.size w wr) (fun _ _ i _ => n2 - (intOf i).toNat)
  case atStart => exact ⟨0, Nat.zero_le _, rfl, by rw [HJ0.out]; rfl, by rw [HJ0.out]; go_num, Below.refl _ _⟩
  case round =>
    obtain ⟨k, hk, rfl, rfl, rfl, hbr⟩ := hrel
    by_cases hlt : k < n2
    · have hkl : k < L.length := by rw [HN2.out]; exact hlt
      obtain ⟨b, off, xa, xn, xc, rfl, hbs, hcx, hxn, hxm, hxi⟩ := (HR2.out.below hbr) k hkl
      have hxL := List.getElem_mem hkl
      obtain ⟨x, hxe⟩ : ∃ x, x = L[k]'hkl := ⟨_, rfl⟩
      have HXE := hid (show L[k]?.getD [] = x by rw [List.getElem?_eq_getElem hkl, hxe]; rfl)
      rw [← hxe] at hxn hxi hxL
      have hbl := HBL.out k
      obtain ⟨p, hp⟩ : ∃ p, p = (bestJ F (bestTo M F L k)).1 := ⟨_, rfl⟩
      obtain ⟨l, hl⟩ : ∃ l, l = (bestJ F (bestTo M F L k)).2 := ⟨_, rfl⟩
      rw [← hp, ← hl] at hbl
      rw [← hp, ← hl]
      have HPL := hid (And.intro hp hl)
      have HX := hid (And.intro hxn (And.intro hxL hxi))
      obtain ⟨wo, hwo⟩ : ∃ wo, wo = wr := ⟨_, rfl⟩
      subst hwo
      have HBR := hid hbr
      have hbl1 := hbl.1
      clear hxn hxi hxL hxe hp hl hbr hbl
      go_wp2
      go_loopw [10, 28] (fun s10 s28 wq => ∃ j : Nat, j ≤ fn ∧ s28 = .int .i64 j ∧ s10 = .int .i64 (mostTo M x F j : Nat) ∧ Below wo.heap.size wo wq) (fun _ i _ => fn - (intOf i).toNat)
      case atStart => exact ⟨0, Nat.zero_le _, rfl, rfl, Below.refl _ _⟩
      case round =>
        obtain ⟨j, hj, rfl, rfl, hbj⟩ := hrel
        by_cases hjlt : j < fn
        · have hjF : j < F.length := by rw [HFN.out]; exact hjlt
          obtain ⟨b2, off2, e2, hbs2, k0, k1, k2⟩ := (HFA.out.below (chain HBR.out hbj)) j hjF
          subst e2
          have hmt := HMT.out x j hjF
          have hml := HML.out x j
          have hmf := List.getElem_mem hjF
          obtain ⟨f, hf⟩ : ∃ f, f = F[j] := ⟨_, rfl⟩
          rw [← hf] at hmt hmf k0 k1 k2
          obtain ⟨P, hP⟩ : ∃ P, P = mostTo M x F j := ⟨_, rfl⟩
          rw [← hP] at hmt hml ⊢
          obtain ⟨wp, hwp⟩ : ∃ wp, wp = wr := ⟨_, rfl⟩
          subst hwp
          obtain ⟨wf, hwf⟩ : ∃ wf, wf = wp.alloc (.cells #[.int .i64 f.kind, .int .i64 f.row, .int .i64 f.pixel] 25) := ⟨_, rfl⟩
          have hbf : Below wp.heap.size wp wf := by rw [hwf]; exact (Below.refl _ _).alloc (Nat.le_refl _) _
          have hfc : FC wf wp.heap.size f.kind f.row f.pixel := by rw [hwf]; exact FC.new _ _ _ _ _
          have hsf : wf.heap.size = wp.heap.size + 1 := by rw [hwf]; simp
          have HMT1 := hid hmt
          have HMF := hid hmf
          have HFC := hid hfc
          have HSF := hid hsf
          have HWF := hid hwf
          have HBF := hid (chain hbj hbf)
          clear hmt hmf hfc hsf hwf hbf hf hP hbj hjF
          obtain ⟨kind, row, pixel⟩ := f
          simp only [] at k0 k1 k2 HFC HWF
          go_wp2
          rw [← HWF.out]
          go_loopw [13, 34] (fun s13 s34 wq => ∃ q : Nat, q ≤ fn ∧ s34 = .int .i64 q ∧ s13 = .int .i64 (cntM M x (F.take q) ⟨kind, row, pixel⟩ : Nat) ∧ Below wf.heap.size wf wq) (fun _ i _ => fn - (intOf i).toNat)
          case atStart => exact ⟨0, Nat.zero_le _, rfl, by simp [cntM], Below.refl _ _⟩
          case round =>
            obtain ⟨q, hq, rfl, rfl, hbq⟩ := hrel
            by_cases hqlt : q < fn
            · have hqF : q < F.length := by rw [HFN.out]; exact hqlt
              have hbwq := chain HBR.out (chain HBF.out hbq)
              obtain ⟨_, _, e3, hbs3, g0, g1, g2⟩ := (HFA.out.below hbwq) q hqF
              cases e3
              have hcs := HCS.out x q ⟨kind, row, pixel⟩ hqF
              have hcl := HCL.out x q ⟨kind, row, pixel⟩
              have hmg := List.getElem_mem hqF
              obtain ⟨g, hg⟩ : ∃ g, g = F[q] := ⟨_, rfl⟩
              rw [← hg] at hcs hmg g0 g1 g2
              obtain ⟨C, hC⟩ : ∃ C, C = cntM M x (F.take q) ⟨kind, row, pixel⟩ := ⟨_, rfl⟩
              rw [← hC] at hcs hcl ⊢
              obtain ⟨wg, hwg⟩ : ∃ wg, wg = wr.alloc (.cells #[.int .i64 g.kind, .int .i64 g.row, .int .i64 g.pixel] 25) := ⟨_, rfl⟩
              have hbg : Below wr.heap.size wr wg := by rw [hwg]; exact (Below.refl _ _).alloc (Nat.le_refl _) _
              have hgc : FC wg wr.heap.size g.kind g.row g.pixel := by rw [hwg]; exact FC.new _ _ _ _ _
              have hsg : wg.heap.size = wr.heap.size + 1 := by rw [hwg]; simp
              have hfw : FC wg wp.heap.size kind row pixel := (HFC.out.below (by have := HSF.out; omega) hbq).below (by have := hbq.size; have := HSF.out; omega) hbg
              have HC1 := hid (fun (W : World) (hb : Below wg.heap.size wg W) => show (W.cell? ⟨wp.heap.size, 0, none⟩ = some (.int .i64 kind) ∧ W.cell? ⟨wp.heap.size, 1, none⟩ = some (.int .i64 row) ∧ W.cell? ⟨wp.heap.size, 2, none⟩ = some (.int .i64 pixel)) ∧ W.cell? ⟨wr.heap.size, 0, none⟩ = some (.int .i64 g.kind) ∧ W.cell? ⟨wr.heap.size, 1, none⟩ = some (.int .i64 g.row) ∧ W.cell? ⟨wr.heap.size, 2, none⟩ = some (.int .i64 g.pixel) from
                ⟨hfw.below (by have := hbq.size; have := HSF.out; omega) hb, hgc.below (by omega) hb⟩)
              obtain ⟨D, hD⟩ : ∃ D, D = decide (readF M ⟨kind, row, pixel⟩ x = readF M g x) := ⟨_, rfl⟩
              have HF1 := hid (fun (W : World) (hb : Below wg.heap.size wg W) => HRd.out W (chain hbwq (chain hbg hb)) ⟨kind, row, pixel⟩ HMF.out xa xn xc x HX.out.2.1 HX.out.1 (HX.out.2.2.below (chain HBF.out (chain hbq (chain hbg hb)))))
              have HG1 := hid (fun (W : World) (hb : Below wg.heap.size wg W) => HRd.out W (chain hbwq (chain hbg hb)) g hmg xa xn xc x HX.out.2.1 HX.out.1 (HX.out.2.2.below (chain HBF.out (chain hbq (chain hbg hb)))))
              have HSM := hid (fun (W : World) (a4 a5 : Option Addr) (c4 c5 : Nat) (h4 : IntsAt W a4 (readF M ⟨kind, row, pixel⟩ x)) (h5 : IntsAt W a5 (readF M g x)) => HSI.out W ⟨kind, row, pixel⟩ g x a4 a5 c4 c5 D hD h4 h5)
              have hcs2 : cntM M x (F.take (q + 1)) ⟨kind, row, pixel⟩ = C + (if D then 1 else 0) := by
                rw [hcs, hD]
                by_cases e : readF M g x = readF M ⟨kind, row, pixel⟩ x
                · simp [e]
                · have e2 : ¬ readF M ⟨kind, row, pixel⟩ x = readF M g x := fun h => e h.symm
                  simp [e, e2]
              have HCS1 := hid hcs2
              have HWG := hid hwg
              have HBG := hid (chain hbq hbg)
              obtain ⟨R1, hR1⟩ : ∃ R, R = readF M ⟨kind, row, pixel⟩ x := ⟨_, rfl⟩
              obtain ⟨R2, hR2⟩ : ∃ R, R = readF M g x := ⟨_, rfl⟩
              rw [← hR1] at HF1 HSM
              rw [← hR2] at HG1 HSM
              clear hcs hcs2 hmg hg hC hwg hbg hgc hsg hfw hD hbwq hbq hR1 hR2 hqF
              obtain ⟨gk, gr, gp⟩ := g
              simp only [Flt.val] at g0 g1 g2 HC1 HWG HG1 HF1
              go_wp2
              rw [← HWG.out]
              refine plain_region (fun j W => wAll j = true → ((W.cell? ⟨wp.heap.size, 0, none⟩ = some (.int .i64 kind) ∧ W.cell? ⟨wp.heap.size, 1, none⟩ = some (.int .i64 row) ∧ W.cell? ⟨wp.heap.size, 2, none⟩ = some (.int .i64 pixel)) ∧ W.cell? ⟨wr.heap.size, 0, none⟩ = some (.int .i64 gk) ∧ W.cell? ⟨wr.heap.size, 1, none⟩ = some (.int .i64 gr) ∧ W.cell? ⟨wr.heap.size, 2, none⟩ = some (.int .i64 gp))) (by kernel_rfl) ?_
              have hbd : Below wg.heap.size wg wg.drew := (Below.refl _ _).drew
              generalize wg.drew = wd at hbd ⊢
              refine AnyT.takeD (i := 0) (v := .slice a n cap) rfl rfl (by kernel_rfl) (by kernel_rfl) (by kernel_rfl) (by first | exact (fun _ _ _ h => h) | exact (fun _ _ _ h => absurd h.1 (by simp))) (by kernel_rfl) (by rfl) (by rintro w' hw'; go_simp) (HC1.out _ hbd) ?_; go_frame
              refine AnyT.takeD (i := 1) (v := .agg #[.int .i64 kind, .int .i64 row, .int .i64 pixel]) rfl rfl (by kernel_rfl) (by kernel_rfl) (by kernel_rfl) (by first | exact (fun _ _ _ h => h) | exact (fun _ _ _ h => absurd h.1 (by simp))) (by kernel_rfl) (by rfl) (by rintro w' ⟨⟨q0, q1, q2⟩, q3, q4, q5⟩; go_simp) (HC1.out _ hbd) ?_; go_frame
              refine AnyT.takeD (i := 2) (v := .slice xa xn xc) rfl rfl (by kernel_rfl) (by kernel_rfl) (by kernel_rfl) (by first | exact (fun _ _ _ h => h) | exact (fun _ _ _ h => absurd h.1 (by simp))) (by kernel_rfl) (by rfl) (by rintro w' hw'; go_simp) (HC1.out _ hbd) ?_; go_frame
              refine AnyT.takeD (i := 4) (v := .slice a n cap) rfl rfl (by kernel_rfl) (by kernel_rfl) (by kernel_rfl) (by first | exact (fun _ _ _ h => h) | exact (fun _ _ _ h => absurd h.1 (by simp))) (by kernel_rfl) (by rfl) (by rintro w' hw'; go_simp) (HC1.out _ hbd) ?_; go_frame
              refine AnyT.takeD (i := 5) (v := .agg #[.int .i64 gk, .int .i64 gr, .int .i64 gp]) rfl rfl (by kernel_rfl) (by kernel_rfl) (by kernel_rfl) (by first | exact (fun _ _ _ h => h) | exact (fun _ _ _ h => absurd h.1 (by simp))) (by kernel_rfl) (by rfl) (by rintro w' ⟨⟨q0, q1, q2⟩, q3, q4, q5⟩; go_simp) (HC1.out _ hbd) ?_; go_frame
              refine AnyT.takeD (i := 6) (v := .slice xa xn xc) rfl rfl (by kernel_rfl) (by kernel_rfl) (by kernel_rfl) (by first | exact (fun _ _ _ h => h) | exact (fun _ _ _ h => absurd h.1 (by simp))) (by kernel_rfl) (by rfl) (by rintro w' hw'; go_simp) (HC1.out _ hbd) ?_; go_frame
              refine AnyT.next (i := 3) (by kernel_rfl) rfl (wpOp_of_list rfl ?_)
              go_wp2_with (go_at_call 45; refine (HF1.out _ hbd).mono ?_; rintro e w4 ⟨a4, c4, rfl, hA4, hbl4⟩; refine Stop.of ?_)
              refine Stop.go ?_
              have hw4 := chain hbd hbl4
              go_wp2
              refine ⟨fun _ => HC1.out _ hw4, ?_⟩
              refine AnyT.next (i := 7) (by kernel_rfl) rfl (wpOp_of_list rfl ?_)
              go_wp2_with (go_at_call 45; refine (HG1.out _ hw4).mono ?_; rintro e w5 ⟨a5, c5, rfl, hA5, hbl5⟩; refine Stop.of ?_)
              refine Stop.go ?_
              have hw5 := chain hw4 hbl5
              go_wp2
              refine ⟨fun _ => HC1.out _ hw5, ?_⟩
              refine AnyT.next (i := 8) (by kernel_rfl) rfl (wpOp_of_list rfl ?_)
              go_wp2_with (go_at_call 46; refine (HSM.out w5 a4 a5 c4 c5 (hA4.below hbl5) hA5).mono ?_; rintro e w6 ⟨rfl, hbl6⟩; refine Stop.of ?_)
              refine Stop.go ?_
              have hw6 := chain hw5 hbl6
              have HW6 := hid (chain HBG.out hw6)
              have HC6 := hid (HC1.out _ hw6)
              clear hA4 hA5 hw4 hw5 hw6 hbl4 hbl5 hbl6 hbd
              go_wp2
              refine ⟨fun _ => HC6.out, ?_⟩
              refine AnyT.done (by kernel_rfl) ?_ _
              cases D
              · go_wp2
                refine ⟨⟨q + 1, by omega, by go_num, ?_, HW6.out⟩, by simp [intOf]; omega⟩
                rw [HCS1.out]; simp
              · have q1 := IntWalk.i64_in ((C : Int) + 1) (by omega)
                go_wp2
                refine ⟨⟨q + 1, by omega, by go_num, ?_, HW6.out⟩, by simp [intOf]; omega⟩
                rw [HCS1.out]; simp
            · obtain rfl : q = fn := by omega
              rw [HCA.out]
              have hcq := HCL.out x q ⟨kind, row, pixel⟩
              rw [HCA.out] at hcq
              obtain ⟨C, hC⟩ : ∃ C, C = cntM M x F ⟨kind, row, pixel⟩ := ⟨_, rfl⟩
              rw [← hC] at hcq ⊢
              have HC := hid hC
              have hmxe : (max (P : Int) (C : Int)) = ((max P C : Nat) : Int) := by omega
              have HB9 := hid (chain HBF.out hbq)
              clear hC hbq
              go_wp2
              refine ⟨⟨j + 1, by omega, by go_num, ?_, HB9.out⟩, by simp [intOf]; omega⟩
              rw [HMT1.out, ← HC.out]
              try rw [hmxe]
        · obtain rfl : j = fn := by omega
          rw [HMA.out]
          have hml := HML.out x j
          rw [HMA.out] at hml
          obtain ⟨P, hP⟩ : ∃ P, P = mostM M x F := ⟨_, rfl⟩
          rw [← hP] at hml ⊢
          have HB9 := hid (chain HBR.out hbj)
          clear hbj
          by_cases hpl : P < l
          · have hnw := HNW.out k x HXE.out (by rw [← hP, ← HPL.out.2]; exact hpl)
            rw [← hP] at hnw
            have HNW1 := hid hnw
            clear hnw hP
            go_wp2
            refine ⟨⟨k + 1, by omega, by go_num, ?_, ?_, HB9.out⟩, by simp [intOf]; omega⟩
            · rw [HNW1.out]
            · rw [HNW1.out]
          · have hol := HOL.out k x HXE.out (by rw [← hP, ← HPL.out.2]; exact hpl)
            have HOL1 := hid hol
            clear hol hP
            go_wp2
            refine ⟨⟨k + 1, by omega, by go_num, ?_, ?_, HB9.out⟩, by simp [intOf]; omega⟩
            · rw [HOL1.out, ← HPL.out.1]
            · rw [HOL1.out, ← HPL.out.2]
    · obtain rfl : k = n2 := by omega
      go_wp2
      go_ret2
      exact ⟨rfl, hbr⟩
end Go.Proofs.YthaampmdponhbaaGreatDoor

namespace Go.Proofs.YthaampmdponhbaaGreatDoor
open Go.RowKit Go.Maps
set_option linter.unusedVariables false

theorem bestE_ok {M : Mask} {t : List Tst} {L : List (List Int)} (h : okTests M t = true) (h2 : picsB M L = true) (h3 : whichF M t ≠ []) (h4 : L ≠ []) : bestE M t L = 0 := by
  unfold bestE; rw [if_pos h, if_pos h2, if_neg (by rintro (h | h); exact h3 h; exact h4 h)]
theorem bestV_ok {M : Mask} {t : List Tst} {L : List (List Int)} (h : okTests M t = true) (h2 : picsB M L = true) (h3 : whichF M t ≠ []) (h4 : L ≠ []) : ∃ l, bestTo M (whichF M t) L L.length = some (bestV M t L, l) := by
  have hl : 0 < L.length := List.length_pos_iff.2 h4
  rcases bestTo_spec M (whichF M t) L L.length with ⟨h0, _⟩ | ⟨a, l, hb, _⟩
  · omega
  · refine ⟨l, ?_⟩
    unfold bestV
    rw [if_pos ⟨h, h2, h3, h4⟩, hb]; rfl
theorem bestV_no {M : Mask} {t : List Tst} {L : List (List Int)} (h : ¬ (okTests M t = true ∧ picsB M L = true ∧ whichF M t ≠ [] ∧ L ≠ [])) : bestV M t L = 0 := by
  unfold bestV; rw [if_neg h]
theorem which_240 {M : Mask} {t : List Tst} (h : okM M = true) : (whichF M t).length ≤ 240 := Nat.le_trans (List.length_filter_le _ _) (all_240 h)
theorem which_ok {M : Mask} {t : List Tst} {f : Flt} (h : f ∈ whichF M t) : okF M f = true := all_ok (List.mem_filter.1 h).1

set_option maxRecDepth 100000 in
set_option maxHeartbeats 4000000 in
theorem Best_c (w : World) (ht : Tab w) (a : Option Addr) (n cap : Nat) (M : Mask) (hn : M.length = n) (hm : n ≤ maxLen) (H : RowsAt w a M) (a3 : Option Addr) (n3 cap3 : Nat) (t : List Tst) (hn3 : t.length = n3) (hm3 : n3 ≤ maxLen) (H3 : TestsAt w a3 t)
    (a2 : Option Addr) (n2 cap2 : Nat) (L : List (List Int)) (hn2 : L.length = n2) (hm2 : n2 ≤ maxLen) (H2 : RowsAt w a2 L) :
    Calls Tryz.prog 19 #[.slice a n cap, .slice a3 n3 cap3, .slice a2 n2 cap2] w fun e w' => e = .returned (.tuple #[.int .i64 (bestV M t L : Nat), .int .i64 (bestE M t L)]) ∧ Below w.heap.size w w' := by
  have HT := hid (faultValidTests_c w a n cap M hn hm H a3 n3 cap3 t hn3 hm3 H3)
  have HP := hid (fun (W : World) (hb : Below w.heap.size w W) => pictures_c W a n cap M hn hm (H.below hb) a2 n2 cap2 L hn2 hm2 (H2.below hb))
  cases h1 : okTests M t
  · have HE := hid (show bestE M t L = 1 ∧ bestV M t L = 0 from ⟨by unfold bestE; rw [if_neg (by simp [h1])], bestV_no (by simp [h1])⟩)
    rw [h1] at HT
    clear h1 HP hn H hn3 H3 hn2 H2 ht
    go_enter Tryz.func19, Tryz.ntmps19
    go_wp2_with (go_at_call 32; refine HT.out.mono ?_; rintro e w2 ⟨rfl, hb2⟩)
    go_ret2
    exact ⟨by rw [HE.out.1, HE.out.2]; rfl, hb2⟩
  rw [h1] at HT
  cases h2 : picsB M L
  · have HE := hid (show bestE M t L = 7 ∧ bestV M t L = 0 from ⟨by unfold bestE; rw [if_pos h1, if_neg (by simp [h2])], bestV_no (by simp [h2])⟩)
    rw [h2] at HP
    clear h1 h2 hn H hn3 H3 hn2 H2 ht
    go_enter Tryz.func19, Tryz.ntmps19
    go_wp2_with (first | (go_at_call 32; refine HT.out.mono ?_; rintro e w2 ⟨rfl, hb2⟩) | (go_at_call 39; refine (HP.out _ hb2).mono ?_; rintro e w3 ⟨rfl, hb3⟩))
    go_ret2
    exact ⟨by rw [HE.out.1, HE.out.2]; rfl, chain hb2 hb3⟩
  rw [h2] at HP
  obtain ⟨hM, hl12, hok⟩ := okTests_ok h1
  obtain ⟨hp12, hsh⟩ := picsB_iff h2
  have HW := hid (fun (W : World) (hb : Below w.heap.size w W) => which_c W a n cap M hn (H.below hb) hM a3 n3 cap3 t hn3 hm3 (H3.below hb) hok)
  have HB := hid (fun (W : World) (hb : Below w.heap.size w W) (fa : Option Addr) (fc : Nat) (hF : FltsAt W fa (whichF M t)) => best_c W (ht.below hb) a n cap M hn (H.below hb) hM fa (whichF M t).length fc (whichF M t) rfl (which_240 hM) hF (fun f hf => which_ok hf) a2 n2 cap2 L hn2 (by omega) (H2.below hb) hsh)
  have hn12 : n2 ≤ 12 := by omega
  have h240 := which_240 (M := M) (t := t) hM
  by_cases h3 : whichF M t = []
  · have HE := hid (show bestE M t L = 8 ∧ bestV M t L = 0 from ⟨by unfold bestE; rw [if_pos h1, if_pos h2, if_pos (.inl h3)], bestV_no (by simp [h3])⟩)
    rw [h3] at HW
    clear h1 h2 h3 hn H hn3 H3 hn2 H2 ht HB h240
    go_enter Tryz.func19, Tryz.ntmps19
    go_wp2_with (first | (go_at_call 32; refine HT.out.mono ?_; rintro e w2 ⟨rfl, hb2⟩) | (go_at_call 39; refine (HP.out _ hb2).mono ?_; rintro e w3 ⟨rfl, hb3⟩; have hb23 := chain hb2 hb3) | (go_at_call 37; refine (HW.out _ hb23).mono ?_; rintro e w4 ⟨v4, base4, rfl, hbase4, hF4, hb4⟩; refine Stop.of ?_))
    refine Stop.go ?_
    obtain ⟨fa, fc, rfl, _, _⟩ := hF4.reads
    go_wp2
    go_ret2
    exact ⟨by rw [HE.out.1, HE.out.2]; rfl, chain hb23 hb4⟩
  have hpos : 0 < (whichF M t).length := List.length_pos_iff.2 h3
  by_cases h4 : L = []
  · have HE := hid (show bestE M t L = 8 ∧ bestV M t L = 0 from ⟨by unfold bestE; rw [if_pos h1, if_pos h2, if_pos (.inr h4)], bestV_no (by simp [h4])⟩)
    have h0 : n2 = 0 := by rw [← hn2, h4]; rfl
    subst h0
    obtain ⟨q, hq⟩ : ∃ q, q = (whichF M t).length := ⟨_, rfl⟩
    rw [← hq] at hpos h240
    have HQ := hid hq
    have hne : ((q : Int) == 0) = false := by simp; omega
    clear h1 h2 h3 h4 hn H hn3 H3 hn2 H2 ht HB hq
    go_enter Tryz.func19, Tryz.ntmps19
    go_wp2_with (first | (go_at_call 32; refine HT.out.mono ?_; rintro e w2 ⟨rfl, hb2⟩) | (go_at_call 39; refine (HP.out _ hb2).mono ?_; rintro e w3 ⟨rfl, hb3⟩; have hb23 := chain hb2 hb3) | (go_at_call 37; refine (HW.out _ hb23).mono ?_; rintro e w4 ⟨v4, base4, rfl, hbase4, hF4, hb4⟩; refine Stop.of ?_))
    refine Stop.go ?_
    obtain ⟨fa, fc, rfl, _, _⟩ := hF4.reads
    rw [← HQ.out]
    go_wp2
    go_ret2
    exact ⟨by rw [HE.out.1, HE.out.2]; rfl, chain hb23 hb4⟩
  have HE := hid (bestE_ok h1 h2 h3 h4)
  have HV := hid (bestV_ok h1 h2 h3 h4)
  have hL0 : 0 < n2 := by rw [← hn2]; exact List.length_pos_iff.2 h4
  have HN2 := hid hn2
  obtain ⟨q, hq⟩ : ∃ q, q = (whichF M t).length := ⟨_, rfl⟩
  rw [← hq] at hpos h240
  have HQ := hid hq
  have hne : ((q : Int) == 0) = false := by simp; omega
  have hne2 : ((n2 : Int) == 0) = false := by simp; omega
  clear h1 h2 h3 h4 hn H hn3 H3 hn2 H2 ht hq
  go_enter Tryz.func19, Tryz.ntmps19
  go_wp2_with (first | (go_at_call 32; refine HT.out.mono ?_; rintro e w2 ⟨rfl, hb2⟩) | (go_at_call 39; refine (HP.out _ hb2).mono ?_; rintro e w3 ⟨rfl, hb3⟩; have hb23 := chain hb2 hb3) | (go_at_call 37; refine (HW.out _ hb23).mono ?_; rintro e w4 ⟨v4, base4, rfl, hbase4, hF4, hb4⟩; refine Stop.of ?_))
  refine Stop.go ?_
  obtain ⟨fa, fc, rfl, _, hfa⟩ := hF4.reads
  have hb24 := chain hb23 hb4
  have HB1 := hid (HB.out _ hb24 fa fc hfa)
  rw [← HQ.out] at HB1 ⊢
  clear hF4 hfa
  go_wp2_with (go_at_call 40; refine HB1.out.mono ?_; rintro e w5 ⟨rfl, hb5⟩; refine Stop.of ?_)
  refine Stop.go ?_
  go_wp2
  go_ret2
  obtain ⟨l, hl⟩ := HV.out
  rw [HN2.out] at hl
  refine ⟨?_, chain hb24 hb5⟩
  rw [HE.out, hl]; rfl

set_option maxRecDepth 100000 in
set_option maxHeartbeats 4000000 in
theorem refBest_c (w : World) (ht : Tab w) (a : Option Addr) (n cap : Nat) (M : Mask) (hn : M.length = n) (hm : n ≤ maxLen) (H : RowsAt w a M) (a3 : Option Addr) (n3 cap3 : Nat) (t : List Tst) (hn3 : t.length = n3) (hm3 : n3 ≤ maxLen) (H3 : TestsAt w a3 t)
    (a2 : Option Addr) (n2 cap2 : Nat) (L : List (List Int)) (hn2 : L.length = n2) (hm2 : n2 ≤ maxLen) (H2 : RowsAt w a2 L) :
    Calls Tryz.prog 20 #[.slice a n cap, .slice a3 n3 cap3, .slice a2 n2 cap2] w fun e w' => e = .returned (.tuple #[.int .i64 (bestV M t L : Nat), .int .i64 (bestE M t L)]) ∧ Below w.heap.size w w' := by
  have HT := hid (refValidTests_c w a n cap M hn hm H a3 n3 cap3 t hn3 hm3 H3)
  have HP := hid (fun (W : World) (hb : Below w.heap.size w W) => refShown_c W a n cap M hn hm (H.below hb) a2 n2 cap2 L hn2 hm2 (H2.below hb))
  cases h1 : okTests M t
  · have HE := hid (show bestE M t L = 1 ∧ bestV M t L = 0 from ⟨by unfold bestE; rw [if_neg (by simp [h1])], bestV_no (by simp [h1])⟩)
    rw [h1] at HT
    clear h1 HP hn H hn3 H3 hn2 H2 ht
    go_enter Tryz.func20, Tryz.ntmps20
    go_wp2_with (go_at_call 35; refine HT.out.mono ?_; rintro e w2 ⟨rfl, hb2⟩)
    go_ret2
    exact ⟨by rw [HE.out.1, HE.out.2]; rfl, hb2⟩
  rw [h1] at HT
  cases h2 : picsB M L
  · have HE := hid (show bestE M t L = 7 ∧ bestV M t L = 0 from ⟨by unfold bestE; rw [if_pos h1, if_neg (by simp [h2])], bestV_no (by simp [h2])⟩)
    rw [h2] at HP
    clear h1 h2 hn H hn3 H3 hn2 H2 ht
    go_enter Tryz.func20, Tryz.ntmps20
    go_wp2_with (first | (go_at_call 35; refine HT.out.mono ?_; rintro e w2 ⟨rfl, hb2⟩) | (go_at_call 41; refine (HP.out _ hb2).mono ?_; rintro e w3 ⟨rfl, rfl⟩))
    go_ret2
    exact ⟨by rw [HE.out.1, HE.out.2]; rfl, hb2⟩
  rw [h2] at HP
  obtain ⟨hM, hl12, hok⟩ := okTests_ok h1
  obtain ⟨hp12, hsh⟩ := picsB_iff h2
  have HW := hid (fun (W : World) (hb : Below w.heap.size w W) => refWhich_c W a n cap M hn (H.below hb) hM a3 n3 cap3 t hn3 hm3 (H3.below hb) hok)
  have HB := hid (fun (W : World) (hb : Below w.heap.size w W) (fa : Option Addr) (fc : Nat) (hF : FltsAt W fa (whichF M t)) => refBest0_c W a n cap M hn (H.below hb) hM fa (whichF M t).length fc (whichF M t) rfl (which_240 hM) hF (fun f hf => which_ok hf) a2 n2 cap2 L hn2 (by omega) (H2.below hb) hsh)
  have hn12 : n2 ≤ 12 := by omega
  have h240 := which_240 (M := M) (t := t) hM
  by_cases h3 : whichF M t = []
  · have HE := hid (show bestE M t L = 8 ∧ bestV M t L = 0 from ⟨by unfold bestE; rw [if_pos h1, if_pos h2, if_pos (.inl h3)], bestV_no (by simp [h3])⟩)
    rw [h3] at HW
    clear h1 h2 h3 hn H hn3 H3 hn2 H2 ht HB h240
    go_enter Tryz.func20, Tryz.ntmps20
    go_wp2_with (first | (go_at_call 35; refine HT.out.mono ?_; rintro e w2 ⟨rfl, hb2⟩) | (go_at_call 41; refine (HP.out _ hb2).mono ?_; rintro e w3 ⟨rfl, rfl⟩; have hb23 := hb2) | (go_at_call 38; refine (HW.out _ hb23).mono ?_; rintro e w4 ⟨v4, base4, rfl, hbase4, hF4, hb4⟩; refine Stop.of ?_))
    refine Stop.go ?_
    obtain ⟨fa, fc, rfl, _, _⟩ := hF4.reads
    go_wp2
    go_ret2
    exact ⟨by rw [HE.out.1, HE.out.2]; rfl, chain hb23 hb4⟩
  have hpos : 0 < (whichF M t).length := List.length_pos_iff.2 h3
  by_cases h4 : L = []
  · have HE := hid (show bestE M t L = 8 ∧ bestV M t L = 0 from ⟨by unfold bestE; rw [if_pos h1, if_pos h2, if_pos (.inr h4)], bestV_no (by simp [h4])⟩)
    have h0 : n2 = 0 := by rw [← hn2, h4]; rfl
    subst h0
    obtain ⟨q, hq⟩ : ∃ q, q = (whichF M t).length := ⟨_, rfl⟩
    rw [← hq] at hpos h240
    have HQ := hid hq
    have hne : ((q : Int) == 0) = false := by simp; omega
    clear h1 h2 h3 h4 hn H hn3 H3 hn2 H2 ht HB hq
    go_enter Tryz.func20, Tryz.ntmps20
    go_wp2_with (first | (go_at_call 35; refine HT.out.mono ?_; rintro e w2 ⟨rfl, hb2⟩) | (go_at_call 41; refine (HP.out _ hb2).mono ?_; rintro e w3 ⟨rfl, rfl⟩; have hb23 := hb2) | (go_at_call 38; refine (HW.out _ hb23).mono ?_; rintro e w4 ⟨v4, base4, rfl, hbase4, hF4, hb4⟩; refine Stop.of ?_))
    refine Stop.go ?_
    obtain ⟨fa, fc, rfl, _, _⟩ := hF4.reads
    rw [← HQ.out]
    go_wp2
    go_ret2
    exact ⟨by rw [HE.out.1, HE.out.2]; rfl, chain hb23 hb4⟩
  have HE := hid (bestE_ok h1 h2 h3 h4)
  have HV := hid (bestV_ok h1 h2 h3 h4)
  have hL0 : 0 < n2 := by rw [← hn2]; exact List.length_pos_iff.2 h4
  have HN2 := hid hn2
  obtain ⟨q, hq⟩ : ∃ q, q = (whichF M t).length := ⟨_, rfl⟩
  rw [← hq] at hpos h240
  have HQ := hid hq
  have hne : ((q : Int) == 0) = false := by simp; omega
  have hne2 : ((n2 : Int) == 0) = false := by simp; omega
  clear h1 h2 h3 h4 hn H hn3 H3 hn2 H2 ht hq
  go_enter Tryz.func20, Tryz.ntmps20
  go_wp2_with (first | (go_at_call 35; refine HT.out.mono ?_; rintro e w2 ⟨rfl, hb2⟩) | (go_at_call 41; refine (HP.out _ hb2).mono ?_; rintro e w3 ⟨rfl, rfl⟩; have hb23 := hb2) | (go_at_call 38; refine (HW.out _ hb23).mono ?_; rintro e w4 ⟨v4, base4, rfl, hbase4, hF4, hb4⟩; refine Stop.of ?_))
  refine Stop.go ?_
  obtain ⟨fa, fc, rfl, _, hfa⟩ := hF4.reads
  have hb24 := chain hb23 hb4
  have HB1 := hid (HB.out _ hb24 fa fc hfa)
  rw [← HQ.out] at HB1 ⊢
  clear hF4 hfa
  go_wp2_with (go_at_call 42; refine HB1.out.mono ?_; rintro e w5 ⟨rfl, hb5⟩; refine Stop.of ?_)
  refine Stop.go ?_
  go_wp2
  go_ret2
  obtain ⟨l, hl⟩ := HV.out
  rw [HN2.out] at hl
  refine ⟨?_, chain hb24 hb5⟩
  rw [HE.out, hl]; rfl

end Go.Proofs.YthaampmdponhbaaGreatDoor

namespace Go.Proofs.YthaampmdponhbaaGreatDoor
open Go.RowKit
set_option linter.unusedVariables false

def HeadT (W : World) (xs : List Value) (L : List Tst) : Prop :=
  xs.length = L.length * 2 ∧ ∀ j (hj : j < L.length), ∃ sa sn sc ra rn rc, xs[j * 2]? = some (.slice sa sn sc) ∧ xs[j * 2 + 1]? = some (.slice ra rn rc) ∧ L[j].shown.length = sn ∧ sn ≤ maxLen ∧ IntsAt W sa L[j].shown ∧ L[j].read.length = rn ∧ rn ≤ maxLen ∧ IntsAt W ra L[j].read
theorem HeadT.below {W W' : World} {xs : List Value} {L : List Tst} (h : HeadT W xs L) (hb : Below W.heap.size W W') : HeadT W' xs L :=
  ⟨h.1, fun j hj => by
    obtain ⟨sa, sn, sc, ra, rn, rc, h1, h2, h3, h4, h5, h6, h7, h8⟩ := h.2 j hj
    exact ⟨sa, sn, sc, ra, rn, rc, h1, h2, h3, h4, h5.below hb, h6, h7, h8.below hb⟩⟩
theorem HeadT.append {W : World} {xs ys : List Value} {L K : List Tst} (h : HeadT W xs L) (k : HeadT W ys K) : HeadT W (xs ++ ys) (L ++ K) := by
  refine ⟨by rw [List.length_append, List.length_append, h.1, k.1]; omega, fun j hj => ?_⟩
  by_cases e : j < L.length
  · obtain ⟨sa, sn, sc, ra, rn, rc, h1, h2, h3⟩ := h.2 j e
    refine ⟨sa, sn, sc, ra, rn, rc, by rw [List.getElem?_append_left (by rw [h.1]; omega)]; exact h1, by rw [List.getElem?_append_left (by rw [h.1]; omega)]; exact h2, ?_⟩
    rw [List.getElem_append_left e]; exact h3
  · have hj2 : j - L.length < K.length := by simp at hj; omega
    obtain ⟨sa, sn, sc, ra, rn, rc, h1, h2, h3⟩ := k.2 (j - L.length) hj2
    refine ⟨sa, sn, sc, ra, rn, rc, by rw [List.getElem?_append_right (by rw [h.1]; omega), h.1, show j * 2 - L.length * 2 = (j - L.length) * 2 by omega]; exact h1, by rw [List.getElem?_append_right (by rw [h.1]; omega), h.1, show j * 2 + 1 - L.length * 2 = (j - L.length) * 2 + 1 by omega]; exact h2, ?_⟩
    rw [List.getElem_append_right (by omega)]; exact h3
end Go.Proofs.YthaampmdponhbaaGreatDoor

namespace Go.Proofs.YthaampmdponhbaaGreatDoor
open Go.RowKit Go.Maps
set_option linter.unusedVariables false

def playE (M : Mask) (f : Flt) (L : List (List Int)) : Int := if validF M f = true then (if picsB M L = true then 0 else 7) else 1
def playL (M : Mask) (f : Flt) (L : List (List Int)) : List Tst := if playE M f L = 0 then playF M f L else []
theorem playE_ok {M : Mask} {f : Flt} {L : List (List Int)} (h : playE M f L = 0) : validF M f = true ∧ picsB M L = true := by
  unfold playE at h
  by_cases h1 : validF M f = true
  · rw [if_pos h1] at h
    by_cases h2 : picsB M L = true
    · exact ⟨h1, h2⟩
    · rw [if_neg h2] at h; simp at h
  · rw [if_neg h1] at h; simp at h
theorem play_tests {M : Mask} {f : Flt} {L : List (List Int)} (hsh : ∀ x ∈ L, okShown M x = true) (k : Nat) : ∀ t ∈ playTo M f L k, okTest M t = true := by
  obtain ⟨X, h1, h2⟩ := play_form M f L k
  intro t ht
  rw [h2] at ht
  obtain ⟨x, hx, rfl⟩ := List.mem_map.1 ht
  unfold okTest
  simp [hsh x (h1 x hx), readF_length]
theorem step_few {M : Mask} {f : Flt} {L : List (List Int)} {out : List Tst} (h : (whichF M out).length < 2) : stepF M f L out = none := by unfold stepF; rw [if_pos h]
theorem step_nil {M : Mask} {f : Flt} {out : List Tst} : stepF M f [] out = none := by
  unfold stepF
  split
  · rfl
  · rfl
theorem step_all {M : Mask} {f : Flt} {L : List (List Int)} {out : List Tst} {p l : Nat} (hb : bestTo M (whichF M out) L L.length = some (p, l)) (h : l = (whichF M out).length) : stepF M f L out = none := by
  unfold stepF
  split
  · rfl
  · rw [hb]; simp only []; rw [if_pos h]
theorem step_one {M : Mask} {f : Flt} {L : List (List Int)} {out : List Tst} {p l : Nat} (h2 : ¬ (whichF M out).length < 2) (hb : bestTo M (whichF M out) L L.length = some (p, l)) (h : l ≠ (whichF M out).length) : stepF M f L out = some ⟨L[p]?.getD [], readF M f (L[p]?.getD [])⟩ := by
  unfold stepF
  rw [if_neg h2, hb]; simp only []; rw [if_neg h]
theorem best_some {M : Mask} {F : List Flt} {L : List (List Int)} (h : 0 < L.length) : ∃ p l, bestTo M F L L.length = some (p, l) ∧ p < L.length ∧ l ≤ F.length := by
  rcases bestTo_spec M F L L.length with ⟨h0, _⟩ | ⟨a, l, hb, ha, hl, _⟩
  · omega
  · have := most_len M (L[a]?.getD []) F
    exact ⟨a, l, hb, ha, by omega⟩
theorem news2 (w : World) (x0 x1 : Value) (T : TypeId) : ∀ ad, (some ⟨w.heap.size, 0, none⟩ : Option Addr) = some ad → ∀ j u, [x0, x1][j]? = some u → (w.alloc (.cells #[x0, x1] T)).cell? (ad.add j) = some u := by
  intro ad e j u hu
  cases e
  match j, hu with
  | 0, hu => rw [Addr.add_lit, World.cell?_alloc_at _ _ _ _ rfl]; simpa using hu
  | 1, hu => rw [Addr.add_lit, World.cell?_alloc_at _ _ _ _ rfl]; simpa using hu
def lenV : Value → Nat
  | .slice _ n _ => n
  | _ => 0

set_option maxRecDepth 100000 in
set_option maxHeartbeats 8000000 in
theorem Play_c (w : World) (ht : Tab w) (a : Option Addr) (n cap : Nat) (M : Mask) (hn : M.length = n) (hm : n ≤ maxLen) (H : RowsAt w a M) (f : Flt) (a2 : Option Addr) (n2 cap2 : Nat) (L : List (List Int)) (hn2 : L.length = n2) (hm2 : n2 ≤ maxLen) (H2 : RowsAt w a2 L) :
    Calls Tryz.prog 21 #[.slice a n cap, f.val, .slice a2 n2 cap2] w fun e w' => ∃ v base, e = .returned (.tuple #[v, .int .i64 (playE M f L)]) ∧ w.heap.size ≤ base ∧ TestsO w' base v (playL M f L) ∧ Below w.heap.size w w' := by
  obtain ⟨wf, hwf, hb0, hcells⟩ := fltBox w f
  have HV := hid (faultValid_c wf a n cap M hn hm (H.below hb0) f)
  have HP := hid (fun (W : World) (hb : Below wf.heap.size wf W) => pictures_c W a n cap M hn hm (H.below (chain hb0 hb)) a2 n2 cap2 L hn2 hm2 (H2.below (chain hb0 hb)))
  have HC := hid hcells
  have HB0 := hid hb0
  have HWF := hid hwf
  cases h1 : validF M f
  · have HE := hid (show playE M f L = 1 ∧ playL M f L = [] by unfold playL playE; rw [h1]; simp)
    rw [h1] at HV
    obtain ⟨_, f0, f1, f2⟩ := hcells wf (Below.refl _ _)
    clear h1 HP hn H hn2 H2 ht hcells hb0 hwf
    obtain ⟨kind, row, pixel⟩ := f
    simp only [Flt.val] at HV HWF f0 f1 f2 ⊢
    have hw := HWF.out
    clear HWF
    subst hw
    go_enter Tryz.func21, Tryz.ntmps21
    go_wp2_with (go_at_call 31; refine HV.out.mono ?_; rintro e w2 ⟨rfl, hb2⟩)
    go_ret2
    refine ⟨.slice none 0 0, w2.heap.size, by rw [HE.out.1]; rfl, (chain HB0.out hb2).size, ?_, chain HB0.out hb2⟩
    rw [HE.out.2]; exact TestsO.nil _ _
  rw [h1] at HV
  cases h2 : picsB M L
  · have HE := hid (show playE M f L = 7 ∧ playL M f L = [] by unfold playL playE; rw [h1, h2]; simp)
    rw [h2] at HP
    obtain ⟨_, f0, f1, f2⟩ := hcells wf (Below.refl _ _)
    clear h1 h2 hn H hn2 H2 ht hcells hb0 hwf
    obtain ⟨kind, row, pixel⟩ := f
    simp only [Flt.val] at HV HWF f0 f1 f2 ⊢
    have hw := HWF.out
    clear HWF
    subst hw
    go_enter Tryz.func21, Tryz.ntmps21
    go_wp2_with (first | (go_at_call 31; refine HV.out.mono ?_; rintro e w2 ⟨rfl, hb2⟩) | (go_at_call 39; refine (HP.out _ hb2).mono ?_; rintro e w3 ⟨rfl, hb3⟩))
    go_ret2
    refine ⟨.slice none 0 0, w3.heap.size, by rw [HE.out.1]; rfl, (chain HB0.out (chain hb2 hb3)).size, ?_, chain HB0.out (chain hb2 hb3)⟩
    rw [HE.out.2]; exact TestsO.nil _ _
  rw [h2] at HP
  have HE := hid (show playE M f L = 0 ∧ playL M f L = playF M f L by unfold playL playE; rw [h1, h2]; simp)
  obtain ⟨hM, hfo⟩ := validF_ok h1
  obtain ⟨hp12, hsh⟩ := picsB_iff h2
  have hn12 : n2 ≤ 12 := by omega
  have HW := hid (fun (W : World) (hb : Below wf.heap.size wf W) (a3 : Option Addr) (n3 c3 k : Nat) (h3 : (playTo M f L k).length = n3) (hm3 : n3 ≤ maxLen) (H3 : TestsAt W a3 (playTo M f L k)) => which_c W a n cap M hn (H.below (chain hb0 hb)) hM a3 n3 c3 (playTo M f L k) h3 hm3 H3 (play_tests hsh k))
  have HB := hid (fun (W : World) (hb : Below wf.heap.size wf W) (fa : Option Addr) (fc k q : Nat) (hq : (whichF M (playTo M f L k)).length = q) (hF : FltsAt W fa (whichF M (playTo M f L k))) => best_c W (ht.below (chain hb0 hb)) a n cap M hn (H.below (chain hb0 hb)) hM fa q fc (whichF M (playTo M f L k)) hq (by rw [← hq]; exact which_240 hM) hF (fun f hf => which_ok hf) a2 n2 cap2 L hn2 hn12 (H2.below (chain hb0 hb)) hsh)
  have HCn := hid (fun (W : World) (xa : Option Addr) (xn xc : Nat) (x : List Int) (hxn : x.length = xn) (hxm : xn ≤ 100) (hxi : IntsAt W xa x) => clone_c W xa xn xc x hxn (by omega) hxi)
  have HRd := hid (fun (W : World) (hb : Below wf.heap.size wf W) (xa : Option Addr) (xn xc : Nat) (x : List Int) (hxL : x ∈ L) (hxn : x.length = xn) (hxi : IntsAt W xa x) => reads_c W a n cap M hn (H.below (chain hb0 hb)) hM f hfo xa xn xc x hxn hxi (hsh x hxL))
  have H240 := hid (fun k => show (whichF M (playTo M f L k)).length ≤ 240 from which_240 hM)
  have HX10 := hid (fun (x : List Int) (hx : x ∈ L) => show x.length ≤ 100 from by
    have h := hsh x hx
    unfold okShown at h
    simp only [Bool.and_eq_true, decide_eq_true_eq] at h
    have := okM10 hM
    omega)
  have HRL := hid (fun x => show (readF M f x).length = n from by rw [readF_length, hn])
  have hn6 : n ≤ 6 := by have := (okM_len hM).2.1; omega
  have HR2 := hid (fun (W : World) (hb : Below wf.heap.size wf W) => H2.below (chain hb0 hb))
  have HN2 := hid hn2
  have HST := hid (fun k hk h => play_stop (M := M) (f := f) (L := L) (k := k) hk h)
  have HMO := hid (fun k t h => play_more (M := M) (f := f) (L := L) (k := k) (t := t) h)
  obtain ⟨_, f0, f1, f2⟩ := hcells wf (Below.refl _ _)
  have HS1 := hid (fun out (h : (whichF M out).length < 2) => step_few (f := f) (L := L) h)
  have HS2 := hid (fun out (h : L = []) => show stepF M f L out = none from by rw [h]; exact step_nil)
  have HS3 := hid (fun out p l h h3 => step_all (M := M) (f := f) (L := L) (out := out) (p := p) (l := l) h h3)
  have HS4 := hid (fun out p l h2 h h3 => step_one (M := M) (f := f) (L := L) (out := out) (p := p) (l := l) h2 h h3)
  clear h1 h2 hn H hn2 H2 ht hcells hb0 hwf hsh hM hfo hp12
  obtain ⟨PF, hPF⟩ : ∃ PF : Nat → List Tst, PF = playTo M f L := ⟨_, rfl⟩
  have HP0 := hid (show PF 0 = [] from by rw [hPF]; rfl)
  have HP12 := hid (show PF 12 = playF M f L from by rw [hPF]; rfl)
  rw [← hPF] at HW HB H240 HST HMO
  obtain ⟨SF, hSF⟩ : ∃ SF : List Tst → Option Tst, SF = stepF M f L := ⟨_, rfl⟩
  rw [← hSF] at HST HMO HS1 HS2 HS3 HS4
  obtain ⟨RF, hRF⟩ : ∃ RF : List Int → List Int, RF = readF M f := ⟨_, rfl⟩
  rw [← hRF] at HRd HRL HS4
  obtain ⟨PY, hPY⟩ : ∃ PY, PY = playF M f L := ⟨_, rfl⟩
  rw [← hPY] at HST HP12 HE
  obtain ⟨PE, hPE⟩ : ∃ PE, PE = playE M f L := ⟨_, rfl⟩
  obtain ⟨PL, hPL⟩ : ∃ PE, PE = playL M f L := ⟨_, rfl⟩
  rw [← hPE, ← hPL] at HE ⊢
  clear hPF hSF hRF hPY hPE hPL
  obtain ⟨kind, row, pixel⟩ := f
  simp only [Flt.val] at HV HWF HC HRd f0 f1 f2 ⊢
  have hw := HWF.out
  clear HWF
  go_enter Tryz.func21, Tryz.ntmps21
  go_wp2_with fail
  rw [← hw]
  clear hw
  go_wp2_with (first | (go_at_call 31; refine HV.out.mono ?_; rintro e w2 ⟨rfl, hb2⟩) | (go_at_call 39; refine (HP.out _ hb2).mono ?_; rintro e w3 ⟨rfl, hb3⟩; refine Stop.of ?_))
  refine Stop.go ?_
  have hb23 := chain hb2 hb3
  have HB23 := hid hb23
  clear hb2 hb3 hb23 f0 f1 f2
  go_wp2
  go_loopw [8] (fun s8 wr => ∃ (k : Nat) (va : Option Addr) (vc : Nat), k ≤ 12 ∧ s8 = .slice va k vc ∧ (PF k).length = k ∧ TestsO wr w3.heap.size (.slice va k vc) (PF k) ∧ Below w3.heap.size w3 wr) (fun v _ => 12 - lenV v)
  case atStart => exact ⟨0, none, 0, Nat.zero_le _, rfl, by rw [HP0.out]; rfl, by rw [HP0.out]; exact TestsO.nil _ _, Below.refl _ _⟩
  case round =>
    obtain ⟨k, va, vc, hk, rfl, hkl, hto, hbr⟩ := hrel
    have HTO := hid hto
    have HKL := hid hkl
    have HBR := hid hbr
    have HFI := hid (fun (h : PY = PF k) (W : World) (hb : Below wr.heap.size wr W) => show w.heap.size ≤ w3.heap.size ∧ TestsO W w3.heap.size (.slice va k vc) PL ∧ Below w.heap.size w W from by
      refine ⟨(chain HB0.out HB23.out).size, ?_, chain HB0.out (chain HB23.out (chain HBR.out hb))⟩
      rw [HE.out.2, h]
      exact HTO.out.below hb)
    by_cases hlt : k < 12
    · obtain ⟨ra, rc, e9, hrm, hra⟩ := hto.reads
      rw [HKL.out] at e9
      cases e9
      have HW1 := hid (HW.out wr (chain HB23.out hbr) va k vc k hkl (by unfold maxLen; omega) hra)
      clear hto hra hrm hkl hbr
      go_wp2_with (go_at_call 37; refine HW1.out.mono ?_; rintro e w4 ⟨v4, base4, rfl, hbase4, hF4, hb4⟩; refine Stop.of ?_)
      refine Stop.go ?_
      obtain ⟨fa, fc, rfl, _, hfa⟩ := hF4.reads
      have h240 := H240.out k
      obtain ⟨q, hq⟩ : ∃ q, q = (whichF M (PF k)).length := ⟨_, rfl⟩
      rw [← hq] at h240 ⊢
      have HQ := hid hq
      have HFA := hid hfa
      have HB4 := hid hb4
      clear hF4 hfa hbase4 hq hb4
      by_cases hq2 : q < 2
      · have HPY := hid (HST.out k hk (HS1.out _ (by rw [← HQ.out]; exact hq2)))
        go_wp2
        go_ret2
        first | exact ⟨.slice va _ vc, by rw [HE.out.1]; rfl, w3.heap.size, HFI.out HPY.out _ HB4.out⟩ | exact ⟨.slice va _ vc, w3.heap.size, by rw [HE.out.1]; rfl, HFI.out HPY.out _ HB4.out⟩
      · by_cases hL0 : n2 = 0
        · have HPY := hid (HST.out k hk (HS2.out _ (List.eq_nil_of_length_eq_zero (by rw [HN2.out]; exact hL0))))
          subst hL0
          go_wp2
          go_ret2
          first | exact ⟨.slice va _ vc, by rw [HE.out.1]; rfl, w3.heap.size, HFI.out HPY.out _ HB4.out⟩ | exact ⟨.slice va _ vc, w3.heap.size, by rw [HE.out.1]; rfl, HFI.out HPY.out _ HB4.out⟩
        · have hne2 : ((n2 : Int) == 0) = false := by simp; omega
          obtain ⟨p, l, hbt, hp, hl⟩ := best_some (M := M) (F := whichF M (PF k)) (L := L) (by rw [HN2.out]; omega)
          have HBE := hid (HB.out w4 (chain HB23.out (chain HBR.out HB4.out)) fa fc k q HQ.out.symm HFA.out)
          have hbt2 := hbt
          rw [HN2.out] at hbt2
          rw [hbt2] at HBE
          simp only [bestI] at HBE
          have HBT := hid hbt
          rw [← HQ.out] at hl
          rw [HN2.out] at hp
          clear hbt hbt2
          go_wp2_with (go_at_call 40; refine HBE.out.mono ?_; rintro e w5 ⟨rfl, hb5⟩; refine Stop.of ?_)
          refine Stop.go ?_
          have HB5 := hid (chain HB4.out hb5)
          clear hb5
          by_cases hlq : l = q
          · have HPY := hid (HST.out k hk (HS3.out _ p l HBT.out (by rw [← HQ.out]; exact hlq)))
            subst hlq
            go_wp2
            go_ret2
            first | exact ⟨.slice va _ vc, by rw [HE.out.1]; rfl, w3.heap.size, HFI.out HPY.out _ HB5.out⟩ | exact ⟨.slice va _ vc, w3.heap.size, by rw [HE.out.1]; rfl, HFI.out HPY.out _ HB5.out⟩
          · have hne : ((l : Int) == (q : Int)) = false := by simp; omega
            have hso := HMO.out k _ (HS4.out _ p l (by rw [← HQ.out]; exact hq2) HBT.out (by rw [← HQ.out]; exact hlq))
            have hpL : p < L.length := by rw [HN2.out]; exact hp
            have hb35 := chain HB23.out (chain HBR.out HB5.out)
            obtain ⟨b, off, xa, xn, xc, e2, hbs, hcx, hxn, hxm, hxi⟩ := (HR2.out wf (Below.refl _ _)) p hpL
            subst e2
            have hxL := List.getElem_mem hpL
            rw [List.getElem?_eq_getElem hpL] at hso
            simp only [Option.getD_some] at hso
            obtain ⟨x, hxe⟩ : ∃ x, x = L[p]'hpL := ⟨_, rfl⟩
            rw [← hxe] at hxn hxi hxL hso
            have hx100 : xn ≤ 100 := by have := HX10.out x hxL; omega
            have HSO := hid hso
            have HXI := hid (And.intro hxn (And.intro hxL hxi))
            have HB35 := hid hb35
            have HS := hid (fun (W : World) (hb : Below wf.heap.size wf W) => show (W.cell? ⟨w.heap.size, 0, none⟩ = some (.int .i64 kind) ∧ W.cell? ⟨w.heap.size, 1, none⟩ = some (.int .i64 row) ∧ W.cell? ⟨w.heap.size, 2, none⟩ = some (.int .i64 pixel)) ∧ W.cell? ⟨b, off + p, none⟩ = some (.slice xa xn xc) from
              ⟨(HC.out W hb).2, (hb.cell (p := ⟨b, off + p, none⟩) hbs).trans hcx⟩)
            clear hso hxn hxL hxi hxe hb35 hpL
            go_wp2
            refine plain_region (fun j' X => wAll j' = true → ((X.cell? ⟨w.heap.size, 0, none⟩ = some (.int .i64 kind) ∧ X.cell? ⟨w.heap.size, 1, none⟩ = some (.int .i64 row) ∧ X.cell? ⟨w.heap.size, 2, none⟩ = some (.int .i64 pixel)) ∧ X.cell? ⟨b, off + p, none⟩ = some (.slice xa xn xc))) (by kernel_rfl) ?_
            have hbd : Below w5.heap.size w5 w5.drew := (Below.refl _ _).drew
            generalize w5.drew = wd at hbd ⊢
            refine AnyT.takeD (i := 0) (v := .slice va k vc) rfl rfl (by kernel_rfl) (by kernel_rfl) (by kernel_rfl) (by first | exact (fun _ _ _ h => h) | exact (fun _ _ _ h => absurd h.1 (by simp))) (by kernel_rfl) (by rfl) (by rintro w' hw'; go_simp) (HS.out _ (chain HB35.out hbd)) ?_; go_frame
            refine AnyT.takeD (i := 1) (v := .slice (some ⟨b, off, none⟩) n2 cap2) rfl rfl (by kernel_rfl) (by kernel_rfl) (by kernel_rfl) (by first | exact (fun _ _ _ h => h) | exact (fun _ _ _ h => absurd h.1 (by simp))) (by kernel_rfl) (by rfl) (by rintro w' hw'; go_simp) (HS.out _ (chain HB35.out hbd)) ?_; go_frame
            refine AnyT.takeD (i := 2) (v := .int .i64 p) rfl rfl (by kernel_rfl) (by kernel_rfl) (by kernel_rfl) (by first | exact (fun _ _ _ h => h) | exact (fun _ _ _ h => absurd h.1 (by simp))) (by kernel_rfl) (by rfl) (by rintro w' hw'; go_simp) (HS.out _ (chain HB35.out hbd)) ?_; go_frame
            refine AnyT.takeD (i := 3) (v := .pointer (some ⟨b, off + p, none⟩)) rfl rfl (by kernel_rfl) (by kernel_rfl) (by kernel_rfl) (by first | exact (fun _ _ _ h => h) | exact (fun _ _ _ h => absurd h.1 (by simp))) (by kernel_rfl) (by rfl) (by rintro w' hw'; go_simp) (HS.out _ (chain HB35.out hbd)) ?_; go_frame
            refine AnyT.takeD (i := 4) (v := .slice xa xn xc) rfl rfl (by kernel_rfl) (by kernel_rfl) (by kernel_rfl) (by first | exact (fun _ _ _ h => h) | exact (fun _ _ _ h => absurd h.1 (by simp))) (by kernel_rfl) (by rfl) (by rintro w' ⟨⟨q0, q1, q2⟩, q3⟩; go_simp) (HS.out _ (chain HB35.out hbd)) ?_; go_frame
            refine AnyT.takeD (i := 6) (v := .slice a n cap) rfl rfl (by kernel_rfl) (by kernel_rfl) (by kernel_rfl) (by first | exact (fun _ _ _ h => h) | exact (fun _ _ _ h => absurd h.1 (by simp))) (by kernel_rfl) (by rfl) (by rintro w' hw'; go_simp) (HS.out _ (chain HB35.out hbd)) ?_; go_frame
            refine AnyT.takeD (i := 7) (v := .agg #[.int .i64 kind, .int .i64 row, .int .i64 pixel]) rfl rfl (by kernel_rfl) (by kernel_rfl) (by kernel_rfl) (by first | exact (fun _ _ _ h => h) | exact (fun _ _ _ h => absurd h.1 (by simp))) (by kernel_rfl) (by rfl) (by rintro w' ⟨⟨q0, q1, q2⟩, q3⟩; go_simp) (HS.out _ (chain HB35.out hbd)) ?_; go_frame
            refine AnyT.takeD (i := 8) (v := .slice (some ⟨b, off, none⟩) n2 cap2) rfl rfl (by kernel_rfl) (by kernel_rfl) (by kernel_rfl) (by first | exact (fun _ _ _ h => h) | exact (fun _ _ _ h => absurd h.1 (by simp))) (by kernel_rfl) (by rfl) (by rintro w' hw'; go_simp) (HS.out _ (chain HB35.out hbd)) ?_; go_frame
            refine AnyT.takeD (i := 9) (v := .int .i64 p) rfl rfl (by kernel_rfl) (by kernel_rfl) (by kernel_rfl) (by first | exact (fun _ _ _ h => h) | exact (fun _ _ _ h => absurd h.1 (by simp))) (by kernel_rfl) (by rfl) (by rintro w' hw'; go_simp) (HS.out _ (chain HB35.out hbd)) ?_; go_frame
            refine AnyT.takeD (i := 10) (v := .pointer (some ⟨b, off + p, none⟩)) rfl rfl (by kernel_rfl) (by kernel_rfl) (by kernel_rfl) (by first | exact (fun _ _ _ h => h) | exact (fun _ _ _ h => absurd h.1 (by simp))) (by kernel_rfl) (by rfl) (by rintro w' hw'; go_simp) (HS.out _ (chain HB35.out hbd)) ?_; go_frame
            refine AnyT.takeD (i := 11) (v := .slice xa xn xc) rfl rfl (by kernel_rfl) (by kernel_rfl) (by kernel_rfl) (by first | exact (fun _ _ _ h => h) | exact (fun _ _ _ h => absurd h.1 (by simp))) (by kernel_rfl) (by rfl) (by rintro w' ⟨⟨q0, q1, q2⟩, q3⟩; go_simp) (HS.out _ (chain HB35.out hbd)) ?_; go_frame
            refine AnyT.next (i := 5) (by kernel_rfl) rfl (wpOp_of_list rfl ?_)
            go_wp2_with (go_at_call 43; refine (HCn.out wd xa xn xc x HXI.out.1 hx100 (HXI.out.2.2.below (chain HB35.out hbd))).mono ?_; rintro e w6 ⟨v6, rfl, ho6, hb6⟩; refine Stop.of ?_)
            refine Stop.go ?_
            obtain ⟨va6, vc6, rfl⟩ := ownsRow_slice ho6
            have hw6 := chain hbd hb6
            go_wp2
            refine ⟨fun _ => HS.out _ (chain HB35.out hw6), ?_⟩
            refine AnyT.next (i := 12) (by kernel_rfl) rfl (wpOp_of_list rfl ?_)
            go_wp2_with (go_at_call 44; refine (HRd.out w6 (chain HB35.out hw6) xa xn xc x HXI.out.2.1 HXI.out.1 (HXI.out.2.2.below (chain HB35.out hw6))).mono ?_; rintro e w7 ⟨v7, base7, rfl, hbase7, ho7, hb7⟩; refine Stop.of ?_)
            refine Stop.go ?_
            obtain ⟨va7, vc7, rfl⟩ := ownsRow_slice ho7
            have hw7 := chain hw6 hb7
            go_wp2
            refine ⟨fun _ => HS.out _ (chain HB35.out hw7), ?_⟩
            obtain ⟨xs, ho, he⟩ := HTO.out.below (chain HB5.out hw7)
            rw [HKL.out] at ho
            have h1 : ElemI 3 w7 w3.heap.size (fun _ => True) (.slice va6 xn vc6) x := ElemI.own' (own_below ho6 hb7) rfl HXI.out.1 (by unfold maxLen; omega) (fun _ _ => trivial)
            have h2 : ElemI 3 w7 w3.heap.size (fun _ => True) (.slice va7 n vc7) (RF x) := ElemI.own' ho7 rfl (HRL.out x) (by unfold maxLen; omega) (fun _ _ => trivial)
            have HH := hid (And.intro he (And.intro h1 h2))
            have HO := hid ho
            have HN7 := hid (news2 w7 (.slice va6 xn vc6) (.slice va7 n vc7) 29)
            have HO2 := hid (show ∀ u ∈ [Value.slice va6 xn vc6, .slice va7 n vc7], u.oneCell' = true from by intro u hu; simp at hu; rcases hu with rfl | rfl <;> rfl)
            have M1 := hid (show k + 1 ≤ maxLen by unfold maxLen; omega)
            have M2 := hid (show (k + 1) * 48 ≤ 140737488355328 by omega)
            have hz7 : w3.heap.size ≤ w7.heap.size := (chain HBR.out (chain HB5.out hw7)).size
            have M3 := hid (Nat.le_trans hz7 (le_alloc w7 (.cells #[.slice va6 xn vc6, .slice va7 n vc7] 29)))
            have hbP := hw7.alloc hw7.size (.cells #[.slice va6 xn vc6, .slice va7 n vc7] 29)
            clear he h1 h2 ho ho6 ho7 hbase7
            refine AnyT.takeD (i := 13) (v := .agg #[.slice va6 xn vc6, .slice va7 n vc7]) rfl rfl (by kernel_rfl) (by kernel_rfl) (by kernel_rfl) (by first | exact (fun _ _ _ h => h) | exact (fun _ _ _ h => absurd h.1 (by simp))) (by kernel_rfl) (by rfl) (by rintro w' hw'; go_simp) (HS.out _ (chain HB35.out hw7)) ?_; go_frame
            refine AnyT.next (i := 14) (by kernel_rfl) rfl (wpOp_of_list rfl ?_)
            go_wp2
            refine ⟨fun _ => HS.out _ (chain HB35.out hbP), ?_⟩
            refine AnyT.next (i := 15) (by kernel_rfl) rfl (wpOp_of_list rfl ?_)
            refine wpList_app _ rfl (.tmp 47) (.tmp 61) 26 rfl w3.heap.size 29 (.agg #[.slice none 0 0, .slice none 0 0]) 2 48 Tryz.underlying26 info_test rfl (by decide) (.slice va k vc) k xs rfl (HO.out.alloc _) (some ⟨w7.heap.size, 0, none⟩) 1 1 [.slice va6 xn vc6, .slice va7 n vc7] rfl rfl no_none HN7.out HO2.out M1.out M2.out M3.out ?_
            intro a8 c8 w8 own8 g8
            have hT8 : TestsO w8 w3.heap.size (.slice a8 (k + 1) c8) (PF k ++ [⟨x, RF x⟩]) := TestsO.snoc (us := .slice va6 xn vc6) (ur := .slice va7 n vc7) (W := w7) (w1 := w7.alloc (.cells #[.slice va6 xn vc6, .slice va7 n vc7] 29)) (v := .slice va k vc) (by rw [HKL.out]; exact HO.out) HH.out.1 HH.out.2.1 HH.out.2.2 ((Below.refl _ w7).alloc (Nat.le_refl _) _) g8 (by rw [HKL.out]; exact own8)
            have hb8 : Below w3.heap.size w3 w8 := (chain HBR.out (chain HB5.out hbP)).grown g8 (chain HBR.out (chain HB5.out hbP)).size (fun q hq => (HO.out.lt q hq).1)
            change _ ∧ AnyT _ _ _ _ _ _ _ (Act.put _ (some 62) _) _
            refine ⟨fun _ => HS.out _ (chain HB23.out hb8), ?_⟩
            have HT8 := hid hT8
            have HB8 := hid hb8
            clear own8 g8 hT8 hbP hw6 hw7 hbd hb6 hb7 hb8 hz7
            refine AnyT.takeD (i := 16) (v := .slice a8 (k + 1) c8) rfl rfl (by kernel_rfl) (by kernel_rfl) (by kernel_rfl) (by first | exact (fun _ _ _ h => h) | exact (fun _ _ _ h => absurd h.1 (by simp))) (by kernel_rfl) (by rfl) (by rintro w' hw'; go_simp) (HS.out _ (chain HB23.out HB8.out)) ?_; go_frame
            refine AnyT.done (by kernel_rfl) ?_ _
            go_wp2
            refine ⟨⟨k + 1, a8, c8, by omega, rfl, ?_, ?_, HB8.out⟩, ?_⟩
            · rw [HSO.out, List.length_append, HKL.out]; rfl
            · rw [HSO.out]; exact HT8.out
            · simp [lenV]; omega
    · obtain rfl : k = 12 := by omega
      have HPY := hid HP12.out.symm
      clear hto hkl hbr
      go_wp2
      go_ret2
      first | exact ⟨.slice va _ vc, by rw [HE.out.1]; rfl, w3.heap.size, HFI.out HPY.out _ (Below.refl _ _)⟩ | exact ⟨.slice va _ vc, w3.heap.size, by rw [HE.out.1]; rfl, HFI.out HPY.out _ (Below.refl _ _)⟩
end Go.Proofs.YthaampmdponhbaaGreatDoor
