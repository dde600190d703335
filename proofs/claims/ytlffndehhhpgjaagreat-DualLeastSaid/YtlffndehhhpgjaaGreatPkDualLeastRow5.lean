/- Walks and plain laws for DualLeastRow, part 5. -/
import Derived.Maps.AppendAt
import Derived.Deep.CutRange
import Derived.Test.YtlffndehhhpgjaaGreatPkDualLeastRow4
namespace Go.Proofs.YtlffndehhhpgjaaGreat
set_option linter.unusedVariables false
set_option linter.unusedSimpArgs false
set_option maxRecDepth 100000
set_option maxHeartbeats 4000000
section
section
open Go.RowKit
def RowS (W : World) (v : Value) (l : List Int) : Prop :=
 (∃ g c, v = .slice (some ⟨g, 0, none⟩) l.length c ∧ zBO W g l) ∨ (l = [] ∧ ∃ a c, v = .slice a 0 c)
theorem RowS.sl {W : World} {v : Value} {l : List Int} (h : RowS W v l) (hm : l.length <= maxLen) : SlV W v l := by
 rcases h with ⟨g, c, rfl, hs⟩ | ⟨rfl, a, c, rfl⟩
 ·exact ⟨_, _, _, rfl, rfl, hm, hs.ints⟩
 ·exact ⟨_, _, _, rfl, rfl, Nat.zero_le _, fun j hj => by simp at hj⟩
theorem RowS.below {W W' : World} {v : Value} {l : List Int} (h : RowS W v l) (hb : Below W.heap.size W W') : RowS W' v l := by
 rcases h with ⟨g, c, rfl, hs⟩ | h
 ·exact .inl ⟨g, c, rfl, hs.keep (hb.block g hs.lt)⟩
 ·exact .inr h
def TabS (W : World) (base : Nat) (v : Value) (L : List (List Int)) : Prop :=
 ∃ vs, W.ownsRow base 24 1 v L.length vs ∧ ∀ j (hj : j < L.length), ∃ u, vs[j]? = some u ∧ RowS W u L[j]
theorem TabS.nil (W : World) (base : Nat) : TabS W base (.slice none 0 0) [] := ⟨[], World.ownsRow_nil _ _ _ _, fun j hj => by simp at hj⟩
theorem TabS.below {W W' : World} {base : Nat} {v : Value} {L : List (List Int)} (h : TabS W base v L) (hb : Below W.heap.size W W') : TabS W' base v L := by
 obtain ⟨vs, h1, h2⟩ := h
 refine ⟨vs, zBI h1 hb, fun j hj => ?_⟩
 obtain ⟨u, hu, hr⟩ := h2 j hj
 exact ⟨u, hu, hr.below hb⟩
theorem TabS.rows {W : World} {base n c : Nat} {a : Option Addr} {L : List (List Int)} (h : TabS W base (.slice a n c) L) (hl : L.length = n) (hm : ∀ r ∈ L, r.length <= maxLen) : zAO W a L := by
 obtain ⟨vs, h1, h2⟩ := h
 rw [hl] at h1
 refine rows_of_own (xs := vs) h1 ⟨by have := h1.1; omega, fun j hj => ?_⟩ hl
 obtain ⟨u, hu, hr⟩ := h2 j hj
 obtain ⟨ra, rn, rc, rfl, e1, e2, e3⟩ := hr.sl (hm _ (List.getElem_mem hj))
 exact ⟨ra, rn, rc, hu, e1, e2, e3⟩
theorem TabS.snoc {W w1 w3 : World} {base : Nat} {v v' u : Value} {L : List (List Int)} {r : List Int} {vs : List Value} (h1 : W.ownsRow base 24 1 v L.length vs)
 (h2 : ∀ j (hj : j < L.length), ∃ u, vs[j]? = some u ∧ RowS W u L[j]) (hb : Below W.heap.size W w1) (hr : RowS w1 u r) (hg : w1.grownBy w3 v.ownBlock)
 (ho' : w3.ownsRow base 24 1 v' (L.length + 1) (vs ++ [u])) : TabS w3 base v' (L ++ [r]) := by
 have hlen : vs.length = L.length := by have := h1.1; omega
 have hown : ∀ b, v.ownBlock = some b -> ∃ c f, w1.heap[b]? = some (.cells c 24 f) := by
  intro b hb'
  rcases h1.2 with ⟨rfl, _⟩ | ⟨g, cap, cur, rfl, hbg, hgg, _⟩
  ·simp [Value.ownBlock] at hb'
  ·obtain rfl : g = b := by simpa [Value.ownBlock] using hb'
   exact ⟨cur, _, (hb.block g (Array.getElem?_eq_some_iff.1 hgg).1).trans hgg⟩
 have hold : ∀ b l, zBO w1 b l -> zBO w3 b l := by
  intro b l hs
  refine hs.keep (hg.block b hs.lt ?_)
  intro e
  obtain ⟨c, f, hc⟩ := hown b e.symm
  obtain ⟨sp, hs⟩ := hs
  rw [hs] at hc
  simp at hc
 have hup : ∀ u l, RowS w1 u l -> RowS w3 u l := by
  rintro u l (⟨g, c, rfl, hs⟩ | h)
  ·exact .inl ⟨g, c, rfl, hold _ _ hs⟩
  ·exact .inr h
 refine ⟨vs ++ [u], by simpa using ho', fun j hj => ?_⟩
 simp only [List.length_append, List.length_cons, List.length_nil, Nat.zero_add] at hj
 by_cases hjl : j < L.length
 ·obtain ⟨u', hu', hr'⟩ := h2 j hjl
  rw [List.getElem_append_left hjl]
  exact ⟨u', by rw [List.getElem?_append_left (by omega)]; exact hu', hup _ _ (hr'.below hb)⟩
 ·obtain rfl : j = L.length := by omega
  rw [List.getElem_append_right (Nat.le_refl _)]
  simp only [Nat.sub_self, List.getElem_cons_zero]
  exact ⟨u, by rw [List.getElem?_append_right (by omega), hlen]; simp, hup _ _ hr⟩
theorem TabS.at {W : World} {base n : Nat} {v : Value} {L : List (List Int)} (h : TabS W base v L) (hl : L.length = n) {i : Nat} (hi : i < n) :
 ∃ g0 cap u, v = .slice (some ⟨g0, 0, none⟩) n cap ∧ base <= g0 ∧ g0 < W.heap.size ∧ W.cell? ⟨g0, i, none⟩ = some u ∧ RowS W u (L[i]?.getD []) ∧ W.frozen? ⟨g0, i, none⟩ = false ∧
   ∀ u' r, RowS W u' r -> TabS (W.setCell ⟨g0, i, none⟩ u') base v (L.set i r) ∧ ∀ k, k ≠ g0 -> (W.setCell ⟨g0, i, none⟩ u').heap[k]? = W.heap[k]? := by
 subst hl
 obtain ⟨vs, h1, h2⟩ := h
 obtain ⟨u, hu, hr⟩ := h2 i hi
 rcases h1.2 with ⟨rfl, h0⟩ | ⟨g0, cap, cur, rfl, hbg, hgg, hnc, hcm, hsz, htk⟩
 ·omega
 have hcell := World.ownsRow.cellAt (w := W) (base := base) (e := 24) (size := 1) (g := g0) (n := L.length) (cap := cap) (xs := vs) h1 i (by omega)
 have hvl : vs.length = L.length := by have := h1.1; omega
 refine ⟨g0, cap, u, rfl, hbg, (Array.getElem?_eq_some_iff.1 hgg).1, by rw [hcell]; exact hu, by rw [List.getElem?_eq_getElem hi]; exact hr, by simp [World.frozen?, hgg], ?_⟩
 intro u' r hr'
 have hkeep : ∀ k, k ≠ g0 -> (W.setCell ⟨g0, i, none⟩ u').heap[k]? = W.heap[k]? := fun k hk => Below.heap_setCell _ _ _ _ hk
 have hup : ∀ u l, RowS W u l -> RowS (W.setCell ⟨g0, i, none⟩ u') u l := by
  rintro u l (⟨g, c, rfl, hs⟩ | h)
  ·refine .inl ⟨g, c, rfl, hs.keep (hkeep g ?_)⟩
   rintro rfl
   obtain ⟨sp, hs⟩ := hs
   rw [hgg] at hs
   cases hs
  ·exact .inr h
 have hb2 : (W.setCell ⟨g0, i, none⟩ u').heap[g0]? = some (.cells (cur.setIfInBounds i u') 24 (0, 0)) := zAR hgg i u'
 refine ⟨⟨vs.set i u', ⟨by simpa using h1.1, .inr ⟨g0, cap, cur.setIfInBounds i u', by simp, hbg, hb2, by simpa using hnc, hcm, by simpa using hsz, ?_⟩⟩, fun j hj => ?_⟩, hkeep⟩
 ·rw [<- htk]
  simp only [Array.toList_setIfInBounds, List.length_set, Nat.mul_one]
  rw [List.take_set]
 ·have hj' : j < L.length := by simpa using hj
  by_cases e : i = j
  ·subst e
   exact ⟨u', by simp [hvl, hj'], by simpa using hup _ _ hr'⟩
  ·obtain ⟨u2, hu2, hr2⟩ := h2 j hj'
   exact ⟨u2, by rw [List.getElem?_set_ne e]; exact hu2, by rw [List.getElem_set_ne e]; exact hup _ _ hr2⟩
end
section
open Go.RowKit
theorem zOG {W : World} {b0 : Nat} {v : Value} {l : List Int} {n : Nat} (h : W.ownsRow b0 3 1 v n (l.map (Value.int .i64))) (hn : l.length = n) : RowS W v l := by
 rcases Nat.eq_zero_or_pos n with h0 | h0
 ·obtain ⟨a, c, rfl⟩ := zAC h
  subst h0
  exact .inr ⟨List.length_eq_zero_iff.1 hn, a, c, rfl⟩
 ·obtain ⟨g, cap, rfl, _, hs⟩ := zIB h hn h0
  exact .inl ⟨g, cap, by rw [hn], hs⟩
theorem RowS.slice {W : World} {v : Value} {l : List Int} (h : RowS W v l) : ∃ a c, v = .slice a l.length c := by
 rcases h with ⟨g, c, rfl, _⟩ | ⟨rfl, a, c, rfl⟩
 ·exact ⟨_, _, rfl⟩
 ·exact ⟨_, _, rfl⟩
theorem colsF_take {M : List (List Int)} {S : List Int} {k : Nat} (hk : k < M.length) : (zAQ M S).take (k + 1) = (zAQ M S).take k ++ [S.map (fun j => vec M[k] j.toNat)] := by
 have hc : k < (zAQ M S).length := by rw [zBG]; exact hk
 rw [List.take_succ_eq_append_getElem hc]
 congr 2
 simp [zAQ]
end
section
open Go.RowKit
def RowN (N : Option Nat) (W : World) (v : Value) (l : List Int) : Prop :=
 (∃ g c, v = .slice (some ⟨g, 0, none⟩) l.length c ∧ zBO W g l ∧ N ≠ some g) ∨ (l = [] ∧ ∃ a c, v = .slice a 0 c)
theorem RowN.row {N : Option Nat} {W : World} {v : Value} {l : List Int} (h : RowN N W v l) : RowS W v l := by
 rcases h with ⟨g, c, e, hs, _⟩ | h
 ·exact .inl ⟨g, c, e, hs⟩
 ·exact .inr h
theorem zKP {N : Option Nat} {W : World} {b0 : Nat} {v : Value} {l : List Int} {n : Nat} (h : W.ownsRow b0 3 1 v n (l.map (Value.int .i64))) (hn : l.length = n) (hN : ∀ k, N = some k -> k < b0) : RowN N W v l := by
 rcases Nat.eq_zero_or_pos n with h0 | h0
 ·obtain ⟨a, c, rfl⟩ := zAC h
  subst h0
  exact .inr ⟨List.length_eq_zero_iff.1 hn, a, c, rfl⟩
 ·obtain ⟨g, cap, rfl, hg, hs⟩ := zIB h hn h0
  exact .inl ⟨g, cap, by rw [hn], hs, fun e => by have := hN g e; omega⟩
def zMT (N : Option Nat) (W W' : World) : Prop := ∀ k c, W.heap[k]? = some (.cells c 3 (0, 0)) -> N ≠ some k -> W'.heap[k]? = W.heap[k]?
theorem RowN.keep {N : Option Nat} {W W' : World} {v : Value} {l : List Int} (h : RowN N W v l) (hk : zMT N W W') : RowN N W' v l := by
 rcases h with ⟨g, c, e, hs, hne⟩ | h
 ·refine .inl ⟨g, c, e, ?_, hne⟩
  obtain ⟨sp, hs'⟩ := id hs
  exact hs.keep (hk g _ hs' hne)
 ·exact .inr h
theorem zMT.below {N : Option Nat} {W W' : World} (hb : Below W.heap.size W W') : zMT N W W' := fun k c h _ => hb.block k (Array.getElem?_eq_some_iff.1 h).1
def TabN (N : Option Nat) (W : World) (base : Nat) (v : Value) (L : List (List Int)) : Prop :=
 ∃ vs, W.ownsRow base 24 1 v L.length vs ∧ ∀ j (hj : j < L.length), ∃ u, vs[j]? = some u ∧ RowN N W u L[j]
theorem TabN.tab {N : Option Nat} {W : World} {base : Nat} {v : Value} {L : List (List Int)} (h : TabN N W base v L) : TabS W base v L := by
 obtain ⟨vs, h1, h2⟩ := h
 refine ⟨vs, h1, fun j hj => ?_⟩
 obtain ⟨u, hu, hr⟩ := h2 j hj
 exact ⟨u, hu, hr.row⟩
theorem TabN.nil (N : Option Nat) (W : World) (base : Nat) : TabN N W base (.slice none 0 0) [] := ⟨[], World.ownsRow_nil _ _ _ _, fun j hj => by simp at hj⟩
theorem zIN {W W' : World} {base size n : Nat} {T : TypeId} {v : Value} {xs : List Value} (h : W.ownsRow base T size v n xs) (hk : ∀ k, v.ownBlock = some k -> k < W.heap.size -> W'.heap[k]? = W.heap[k]?) : W'.ownsRow base T size v n xs := by
 refine ⟨h.1, ?_⟩
 rcases h.2 with hn | ⟨g, cap, cur, rfl, hbg, hgg, rest⟩
 ·exact .inl hn
 ·exact .inr ⟨g, cap, cur, rfl, hbg, (hk g rfl (Array.getElem?_eq_some_iff.1 hgg).1).trans hgg, rest⟩
theorem own_low {W : World} {base b0 size n : Nat} {T : TypeId} {v : Value} {xs : List Value} (h : W.ownsRow base T size v n xs) (hb : b0 <= base) : W.ownsRow b0 T size v n xs := by
 refine ⟨h.1, ?_⟩
 rcases h.2 with hn | ⟨g, cap, cur, rfl, hbg, rest⟩
 ·exact .inl hn
 ·exact .inr ⟨g, cap, cur, rfl, Nat.le_trans hb hbg, rest⟩
theorem zBX {W : World} {base size n k : Nat} {T : TypeId} {v : Value} {xs : List Value} (h : W.ownsRow base T size v n xs) (hk : v.ownBlock = some k) : base <= k ∧ ∃ c, W.heap[k]? = some (.cells c T (0, 0)) := by
 rcases h.2 with ⟨rfl, _⟩ | ⟨g, cap, cur, rfl, hbg, hgg, _⟩
 ·simp [Value.ownBlock] at hk
 ·obtain rfl : g = k := by simpa [Value.ownBlock] using hk
  exact ⟨hbg, cur, hgg⟩
theorem TabN.type {N : Option Nat} {W : World} {base k : Nat} {v : Value} {L : List (List Int)} (h : TabN N W base v L) (hk : v.ownBlock = some k) : base <= k ∧ k < W.heap.size ∧ ∃ c, W.heap[k]? = some (.cells c 24 (0, 0)) := by
 obtain ⟨vs, h1, _⟩ := h
 obtain ⟨h2, c, h3⟩ := zBX h1 hk
 exact ⟨h2, (Array.getElem?_eq_some_iff.1 h3).1, c, h3⟩
theorem TabN.low {N : Option Nat} {W : World} {base b0 : Nat} {v : Value} {L : List (List Int)} (h : TabN N W base v L) (hb : b0 <= base) : TabN N W b0 v L := by
 obtain ⟨vs, h1, h2⟩ := h
 exact ⟨vs, own_low h1 hb, h2⟩
theorem TabN.keep {N : Option Nat} {W W' : World} {base : Nat} {v : Value} {L : List (List Int)} (h : TabN N W base v L) (hk : zMT N W W') (ho : ∀ k, v.ownBlock = some k -> k < W.heap.size -> W'.heap[k]? = W.heap[k]?) : TabN N W' base v L := by
 obtain ⟨vs, h1, h2⟩ := h
 refine ⟨vs, zIN h1 ho, fun j hj => ?_⟩
 obtain ⟨u, hu, hr⟩ := h2 j hj
 exact ⟨u, hu, hr.keep hk⟩
theorem TabN.below {N : Option Nat} {W W' : World} {base : Nat} {v : Value} {L : List (List Int)} (h : TabN N W base v L) (hb : Below W.heap.size W W') : TabN N W' base v L :=
 h.keep (zMT.below hb) fun k _ hk => hb.block k hk
theorem TabN.piv {W W' : World} {base b2 n : Nat} {v p p' : Value} {xs : List Value} {L : List (List Int)} (h : TabN p.ownBlock W base v L) (hg : W.grownBy W' p.ownBlock) (hat : p'.ownBlock = p.ownBlock ∨ p'.ownBlock = some W.heap.size)
 (hP : W.ownsRow b2 3 1 p n xs) : TabN p'.ownBlock W' base v L := by
 have h1 : TabN p.ownBlock W' base v L := by
  refine h.keep (fun k c hk hne => hg.block k (Array.getElem?_eq_some_iff.1 hk).1 (fun e => hne e.symm)) fun k hk hlt => hg.block k hlt fun e => ?_
  obtain ⟨_, _, c, hc⟩ := h.type hk
  obtain ⟨_, c2, hc2⟩ := zBX hP e.symm
  rw [hc] at hc2
  cases hc2
 have hlt : ∀ u l, RowN p.ownBlock W u l -> RowN p'.ownBlock W' u l := by
  intro u l hr
  rcases hr with ⟨g, c, e, hs, hne⟩ | hr
  ·refine .inl ⟨g, c, e, ?_, ?_⟩
   ·obtain ⟨sp, hs'⟩ := id hs
    exact hs.keep (hg.block g hs.lt (fun e => hne e.symm))
   ·rcases hat with hat | hat
    ·rw [hat]; exact hne
    ·rw [hat]; intro e
     have h1 : W.heap.size = g := by simpa using e
     have := hs.lt
     omega
  ·exact .inr hr
 obtain ⟨vs, h2, h3⟩ := h
 obtain ⟨vs', h4, _⟩ := h1
 refine ⟨vs, zIN h2 fun k hk hlt' => hg.block k hlt' fun e => ?_, fun j hj => ?_⟩
 ·obtain ⟨_, c, hc⟩ := zBX h2 hk
  obtain ⟨_, c2, hc2⟩ := zBX hP e.symm
  rw [hc] at hc2
  cases hc2
 ·obtain ⟨u, hu, hr⟩ := h3 j hj
  exact ⟨u, hu, hlt _ _ hr⟩
theorem TabN.beside {N : Option Nat} {W W' : World} {base : Nat} {v : Value} {L : List (List Int)} (h : TabN N W base v L) {g0 : Option Nat} (hk : ∀ k, k < W.heap.size -> g0 ≠ some k -> W'.heap[k]? = W.heap[k]?)
 (hg : ∀ k, g0 = some k -> ∃ c, W.heap[k]? = some (.cells c 24 (0, 0))) (hne : ∀ k, g0 = some k -> v.ownBlock ≠ some k) : TabN N W' base v L := by
 refine h.keep (fun k c hc hn => hk k (Array.getElem?_eq_some_iff.1 hc).1 fun e => ?_) fun k hv hlt => hk k hlt fun e => hne k e hv
 obtain ⟨c2, h2⟩ := hg k e
 rw [h2] at hc
 cases hc
theorem TabN.snoc {N : Option Nat} {w1 w3 : World} {base : Nat} {v v' u : Value} {L : List (List Int)} {r : List Int} {vs : List Value} (h1 : w1.ownsRow base 24 1 v L.length vs)
 (h2 : ∀ j (hj : j < L.length), ∃ u, vs[j]? = some u ∧ RowN N w1 u L[j]) (hr : RowN N w1 u r) (hg : w1.grownBy w3 v.ownBlock)
 (ho' : w3.ownsRow base 24 1 v' (L.length + 1) (vs ++ [u])) : TabN N w3 base v' (L ++ [r]) := by
 have hlen : vs.length = L.length := by have := h1.1; omega
 have hK : zMT N w1 w3 := fun k c hc hn => hg.block k (Array.getElem?_eq_some_iff.1 hc).1 fun e => by
  obtain ⟨_, c2, h2⟩ := zBX h1 e.symm
  rw [h2] at hc
  cases hc
 refine ⟨vs ++ [u], by simpa using ho', fun j hj => ?_⟩
 simp only [List.length_append, List.length_cons, List.length_nil, Nat.zero_add] at hj
 by_cases hjl : j < L.length
 ·obtain ⟨u', hu', hr'⟩ := h2 j hjl
  rw [List.getElem_append_left hjl]
  exact ⟨u', by rw [List.getElem?_append_left (by omega)]; exact hu', hr'.keep hK⟩
 ·obtain rfl : j = L.length := by omega
  rw [List.getElem_append_right (Nat.le_refl _)]
  simp only [Nat.sub_self, List.getElem_cons_zero]
  exact ⟨u, by rw [List.getElem?_append_right (by omega), hlen]; simp, hr.keep hK⟩
theorem TabN.at {N : Option Nat} {W : World} {base n : Nat} {v : Value} {L : List (List Int)} (h : TabN N W base v L) (hl : L.length = n) {i : Nat} (hi : i < n) :
 ∃ g0 cap u, v = .slice (some ⟨g0, 0, none⟩) n cap ∧ base <= g0 ∧ g0 < W.heap.size ∧ (∃ c, W.heap[g0]? = some (.cells c 24 (0, 0))) ∧ W.cell? ⟨g0, i, none⟩ = some u ∧ RowN N W u (L[i]?.getD []) ∧ W.frozen? ⟨g0, i, none⟩ = false ∧
   ∀ u' r, RowN N W u' r -> TabN N (W.setCell ⟨g0, i, none⟩ u') base v (L.set i r) ∧ ∀ k, k ≠ g0 -> (W.setCell ⟨g0, i, none⟩ u').heap[k]? = W.heap[k]? := by
 subst hl
 obtain ⟨vs, h1, h2⟩ := h
 obtain ⟨u, hu, hr⟩ := h2 i hi
 rcases h1.2 with ⟨rfl, h0⟩ | ⟨g0, cap, cur, rfl, hbg, hgg, hnc, hcm, hsz, htk⟩
 ·omega
 have hcell := World.ownsRow.cellAt (w := W) (base := base) (e := 24) (size := 1) (g := g0) (n := L.length) (cap := cap) (xs := vs) h1 i (by omega)
 have hvl : vs.length = L.length := by have := h1.1; omega
 refine ⟨g0, cap, u, rfl, hbg, (Array.getElem?_eq_some_iff.1 hgg).1, ⟨cur, hgg⟩, by rw [hcell]; exact hu, by rw [List.getElem?_eq_getElem hi]; exact hr, by simp [World.frozen?, hgg], ?_⟩
 intro u' r hr'
 have hkeep : ∀ k, k ≠ g0 -> (W.setCell ⟨g0, i, none⟩ u').heap[k]? = W.heap[k]? := fun k hk => Below.heap_setCell _ _ _ _ hk
 have hK : zMT N W (W.setCell ⟨g0, i, none⟩ u') := fun k c hc hn => hkeep k fun e => by
  subst e
  rw [hgg] at hc
  cases hc
 have hb2 : (W.setCell ⟨g0, i, none⟩ u').heap[g0]? = some (.cells (cur.setIfInBounds i u') 24 (0, 0)) := zAR hgg i u'
 refine ⟨⟨vs.set i u', ⟨by simpa using h1.1, .inr ⟨g0, cap, cur.setIfInBounds i u', by simp, hbg, hb2, by simpa using hnc, hcm, by simpa using hsz, ?_⟩⟩, fun j hj => ?_⟩, hkeep⟩
 ·rw [<- htk]
  simp only [Array.toList_setIfInBounds, List.length_set, Nat.mul_one]
  rw [List.take_set]
 ·have hj' : j < L.length := by simpa using hj
  by_cases e : i = j
  ·subst e
   exact ⟨u', by simp [hvl, hj'], by simpa using hr'.keep hK⟩
  ·obtain ⟨u2, hu2, hr2⟩ := h2 j hj'
   exact ⟨u2, by rw [List.getElem?_set_ne e]; exact hu2, by rw [List.getElem_set_ne e]; exact hr2.keep hK⟩
end
section
open Go.RowKit
def zKK {α : Type} (p : α -> Bool) (l : List α) : Int := match zEH p l with | none => -1 | some a => (a : Int)
theorem lastI_snoc {α : Type} (p : α -> Bool) (l : List α) (y : α) : zKK p (l ++ [y]) = if p y = true then (l.length : Int) else zKK p l := by
 unfold zKK
 rw [zLY]
 by_cases h : p y = true
 ·rw [if_pos h, if_pos h]
 ·rw [if_neg h, if_neg h]
theorem lastI_take {α : Type} (p : α -> Bool) {l : List α} {k : Nat} (hk : k < l.length) : zKK p (l.take (k + 1)) = if p l[k] = true then (k : Int) else zKK p (l.take k) := by
 rw [List.take_succ_eq_append_getElem hk, lastI_snoc, List.length_take, Nat.min_eq_left (by omega)]
theorem rStep_nil {s : RS} (h : s.left = []) (j : Nat) : zLL s j = s := by unfold zLL; rw [h]; rfl
theorem rStep_none {s : RS} {j : Nat} (h : zEH (nz j) s.left = none) : zLL s j = s := by unfold zLL; rw [h]
theorem rStep_some {s : RS} {j a : Nat} (h : zEH (nz j) s.left = some a) : zLL s j = ⟨(s.left.eraseIdx a).map (zBA (posF (s.left[a]?.getD []) j) j), s.done.map (zBA (posF (s.left[a]?.getD []) j) j) ++ [posF (s.left[a]?.getD []) j], s.piv ++ [j]⟩ := by unfold zLL; rw [h]
theorem rRed_stop {L : List (List Int)} {j : Nat} (h : (rRed L j).left = []) : ∀ d, rRed L (j + d) = rRed L j
 | 0 => rfl
 | d + 1 => by rw [<- Nat.add_assoc, zIG, rRed_stop h d, rStep_nil h]
def zID (f : List Int -> List Int) (l : List (List Int)) (a k : Nat) : List (List Int) := ((l.take k).eraseIdx a).map f
theorem restT_ne {f : List Int -> List Int} {l : List (List Int)} {a k : Nat} (hk : k < l.length) (h : k ≠ a) : zID f l a (k + 1) = zID f l a k ++ [f l[k]] := by
 unfold zID
 rw [List.take_succ_eq_append_getElem hk]
 have hlk : (l.take k).length = k := by rw [List.length_take]; omega
 rcases Nat.lt_or_ge a k with h1 | h1
 ·rw [List.eraseIdx_append_of_lt_length (by omega), List.map_append]; rfl
 ·rw [List.eraseIdx_append_of_length_le (by omega), hlk, List.eraseIdx_of_length_le (l := l.take k) (by omega), List.map_append]
  have : a - k = (a - k - 1) + 1 := by omega
  rw [this]; rfl
theorem restT_eq {f : List Int -> List Int} {l : List (List Int)} {a : Nat} (hk : a < l.length) : zID f l a (a + 1) = zID f l a a := by
 unfold zID
 rw [List.take_succ_eq_append_getElem hk]
 have hlk : (l.take a).length = a := by rw [List.length_take]; omega
 rw [List.eraseIdx_append_of_length_le (by omega), hlk, Nat.sub_self, List.eraseIdx_of_length_le (l := l.take a) (by omega)]
 simp
theorem restT_len (f : List Int -> List Int) (l : List (List Int)) (a k : Nat) : (zID f l a k).length <= k := by
 unfold zID
 have h1 := List.length_eraseIdx_le (l.take k) a
 rw [List.length_map]
 have h2 := List.length_take_le k l
 omega
theorem restT_zero (f : List Int -> List Int) (l : List (List Int)) (a : Nat) : zID f l a 0 = [] := by simp [zID]
theorem restT_all {f : List Int -> List Int} {l : List (List Int)} {a k : Nat} (h : l.length = k) : zID f l a k = (l.eraseIdx a).map f := by
 unfold zID; rw [List.take_of_length_le (by omega)]
def zKM (f : List Int -> List Int) (l : List (List Int)) (k : Nat) : List (List Int) := (l.take k).map f ++ l.drop k
theorem doneT_len (f : List Int -> List Int) (l : List (List Int)) (k : Nat) : (zKM f l k).length = l.length := by
 unfold zKM; simp; omega
theorem doneT_at {f : List Int -> List Int} {l : List (List Int)} {k : Nat} (hk : k < l.length) : (zKM f l k)[k]?.getD [] = l[k] := by
 unfold zKM
 rw [List.getElem?_append_right (by simp; omega)]
 simp [hk, Nat.min_eq_left (Nat.le_of_lt hk)]
theorem doneT_succ {f : List Int -> List Int} {l : List (List Int)} {k : Nat} (hk : k < l.length) : zKM f l (k + 1) = (zKM f l k).set k (f l[k]) := by
 unfold zKM
 rw [List.set_append_right _ _ (by simp; omega), List.take_succ_eq_append_getElem hk, List.map_append]
 have : k - ((l.take k).map f).length = 0 := by simp; omega
 have e : l.drop k = l[k] :: l.drop (k + 1) := List.drop_eq_getElem_cons hk
 rw [this, e, List.set_cons_zero, List.append_assoc]
 rfl
theorem doneT_zero (f : List Int -> List Int) (l : List (List Int)) : zKM f l 0 = l := by simp [zKM]
theorem doneT_all {f : List Int -> List Int} {l : List (List Int)} {k : Nat} (h : l.length = k) : zKM f l k = l.map f := by
 unfold zKM; rw [List.take_of_length_le (by omega), List.drop_eq_nil_of_le (by omega), List.append_nil]
def zKN (l : List Nat) : List Int := l.map (fun j : Nat => (j : Int))
def RedI (w wr : World) (L : List (List Int)) (j : Nat) (l d p : Value) : Prop :=
 TabN p.ownBlock wr w.heap.size l (rRed L j).left ∧ TabN p.ownBlock wr w.heap.size d (rRed L j).done ∧ wr.ownsRow w.heap.size 3 1 p (rRed L j).piv.length ((zKN (rRed L j).piv).map (Value.int .i64)) ∧ Below w.heap.size w wr
structure RedS (w : World) (R0 : Nat) (wr : World) (l d r q p : Value) (left done rest : List (List Int)) (P : List Int) (J : List Nat) : Prop where
 hl : TabN p.ownBlock wr w.heap.size l left
 hd : TabN p.ownBlock wr w.heap.size d done
 hr : TabN p.ownBlock wr R0 r rest
 hq : RowN p.ownBlock wr q P
 hp : wr.ownsRow w.heap.size 3 1 p J.length ((zKN J).map (Value.int .i64))
 hb : Below w.heap.size w wr
 hR : R0 <= wr.heap.size
 hw : w.heap.size <= R0
 lR : ∀ k, l.ownBlock = some k -> k < R0
 dR : ∀ k, d.ownBlock = some k -> k < R0
 pR : ∀ k, p.ownBlock = some k -> k < R0
theorem RedS.below {w : World} {R0 : Nat} {A B : World} {l d r q p : Value} {left done rest : List (List Int)} {P : List Int} {J : List Nat} (h : RedS w R0 A l d r q p left done rest P J) (hb : Below A.heap.size A B) : RedS w R0 B l d r q p left done rest P J :=
 ⟨h.hl.below hb, h.hd.below hb, h.hr.below hb, h.hq.keep (zMT.below hb), zBI h.hp hb, zAA h.hb hb, Nat.le_trans h.hR hb.size, h.hw, h.lR, h.dR, h.pR⟩
theorem TabN.lt {N : Option Nat} {W : World} {base : Nat} {v : Value} {L : List (List Int)} (h : TabN N W base v L) {k : Nat} (hk : v.ownBlock = some k) : k < W.heap.size := (h.type hk).2.1
theorem RedS.start {w wr : World} {L : List (List Int)} {j : Nat} {l d p q : Value} {P : List Int} (h : RedI w wr L j l d p) (hq : RowN p.ownBlock wr q P) : RedS w wr.heap.size wr l d (.slice none 0 0) q p (rRed L j).left (rRed L j).done [] P (rRed L j).piv :=
 ⟨h.1, h.2.1, TabN.nil _ _ _, hq, h.2.2.1, h.2.2.2, Nat.le_refl _, h.2.2.2.size, fun k hk => h.1.lt hk, fun k hk => h.2.1.lt hk, fun k hk => by
   obtain ⟨_, c, hc⟩ := zBX h.2.2.1 hk
   exact (Array.getElem?_eq_some_iff.1 hc).1⟩
theorem RedS.push {w : World} {R0 : Nat} {A B : World} {l d r q p u r' : Value} {left done rest : List (List Int)} {P x : List Int} {J : List Nat} {vs : List Value} (h : RedS w R0 A l d r q p left done rest P J)
 (h1 : A.ownsRow R0 24 1 r rest.length vs) (h2 : ∀ j (hj : j < rest.length), ∃ u, vs[j]? = some u ∧ RowN p.ownBlock A u rest[j]) (hu : RowN p.ownBlock A u x) (hg : A.grownBy B r.ownBlock)
 (ho : B.ownsRow R0 24 1 r' (rest.length + 1) (vs ++ [u])) : RedS w R0 B l d r' q p left done (rest ++ [x]) P J := by
 have hge : ∀ k, r.ownBlock = some k -> R0 <= k := fun k hk => (zBX h1 hk).1
 have hgt : ∀ k, r.ownBlock = some k -> ∃ c, A.heap[k]? = some (.cells c 24 (0, 0)) := fun k hk => (zBX h1 hk).2
 have hk : ∀ k, k < A.heap.size -> r.ownBlock ≠ some k -> B.heap[k]? = A.heap[k]? := fun k hlt hne => hg.block k hlt fun e => hne e.symm
 have hK : zMT p.ownBlock A B := fun k c hc _ => hk k (Array.getElem?_eq_some_iff.1 hc).1 fun e => by
  obtain ⟨c2, h2⟩ := hgt k e
  rw [h2] at hc; cases hc
 refine ⟨h.hl.beside hk hgt fun k e e2 => ?_, h.hd.beside hk hgt fun k e e2 => ?_, TabN.snoc h1 h2 hu hg ho, h.hq.keep hK, zIN h.hp fun k e hlt => hk k hlt fun e2 => ?_, ?_, Nat.le_trans h.hR hg.size, h.hw, h.lR, h.dR, h.pR⟩
 ·have := h.lR k e2; have := hge k e; omega
 ·have := h.dR k e2; have := hge k e; omega
 ·have := h.pR k e; have := hge k e2; omega
 ·exact h.hb.grown hg (Nat.le_trans h.hw h.hR) fun k e => Nat.le_trans h.hw (hge k e)
theorem RedS.store {w : World} {R0 : Nat} {A : World} {l d r q p u : Value} {left done rest : List (List Int)} {P x : List Int} {J : List Nat} {i n : Nat} (h : RedS w R0 A l d r q p left done rest P J) (hn : done.length = n) (hi : i < n) (hu : RowN p.ownBlock A u x) :
 ∃ g0 cap v, d = .slice (some ⟨g0, 0, none⟩) n cap ∧ A.cell? ⟨g0, i, none⟩ = some v ∧ A.frozen? ⟨g0, i, none⟩ = false ∧ RedS w R0 (A.setCell ⟨g0, i, none⟩ u) (.slice none 0 0) d r q p [] (done.set i x) rest P J := by
 obtain ⟨g0, cap, v, rfl, hb0, hlt, hty, hc, hrow, hf, hset⟩ := h.hd.at hn hi
 refine ⟨g0, cap, v, rfl, hc, hf, ?_⟩
 obtain ⟨hT, hk⟩ := hset u x hu
 have hk' : ∀ k, k < A.heap.size -> some g0 ≠ some k -> (A.setCell ⟨g0, i, none⟩ u).heap[k]? = A.heap[k]? := fun k _ hne => hk k fun e => hne (by rw [e])
 have hgt : ∀ k, some g0 = some k -> ∃ c, A.heap[k]? = some (.cells c 24 (0, 0)) := fun k e => by cases e; exact hty
 have hlt0 : g0 < R0 := h.dR g0 rfl
 refine ⟨TabN.nil _ _ _, hT, h.hr.beside hk' hgt fun k e e2 => ?_, h.hq.keep fun k c hc _ => hk' k (Array.getElem?_eq_some_iff.1 hc).1 fun e => ?_, zIN h.hp fun k e hlt2 => hk' k hlt2 fun e2 => ?_, ?_, by simpa using h.hR, h.hw, fun k hk => by simp [Value.ownBlock] at hk, h.dR, h.pR⟩
 ·cases e
  have := (h.hr.type e2).1
  omega
 ·obtain ⟨c2, h2⟩ := hgt k e
  rw [h2] at hc; cases hc
 ·cases e2
  obtain ⟨c, hc⟩ := hty
  obtain ⟨_, c2, h2⟩ := zBX h.hp e
  rw [h2] at hc; cases hc
 ·exact (Keep.set A g0 i u).below h.hb (Nat.le_trans h.hw h.hR) fun k hk e => by omega
theorem RedS.onto {w : World} {R0 : Nat} {A B : World} {l d r q p d' : Value} {left done rest : List (List Int)} {P : List Int} {J : List Nat} {vs : List Value} (h : RedS w R0 A l d r q p left done rest P J)
 (h1 : A.ownsRow w.heap.size 24 1 d done.length vs) (h2 : ∀ j (hj : j < done.length), ∃ u, vs[j]? = some u ∧ RowN p.ownBlock A u done[j]) (hg : A.grownBy B d.ownBlock)
 (ho : B.ownsRow w.heap.size 24 1 d' (done.length + 1) (vs ++ [q])) : TabN p.ownBlock B w.heap.size r rest ∧ TabN p.ownBlock B w.heap.size d' (done ++ [P]) ∧ B.ownsRow w.heap.size 3 1 p J.length ((zKN J).map (Value.int .i64)) ∧ Below w.heap.size w B := by
 have hge : ∀ k, d.ownBlock = some k -> w.heap.size <= k := fun k hk => (zBX h1 hk).1
 have hgt : ∀ k, d.ownBlock = some k -> ∃ c, A.heap[k]? = some (.cells c 24 (0, 0)) := fun k hk => (zBX h1 hk).2
 have hk : ∀ k, k < A.heap.size -> d.ownBlock ≠ some k -> B.heap[k]? = A.heap[k]? := fun k hlt hne => hg.block k hlt fun e => hne e.symm
 refine ⟨(h.hr.beside hk hgt fun k e e2 => ?_).low h.hw, TabN.snoc h1 h2 h.hq hg ho, zIN h.hp fun k e hlt => hk k hlt fun e2 => ?_, h.hb.grown hg (Nat.le_trans h.hw h.hR) hge⟩
 ·have := h.dR k e; have := (h.hr.type e2).1; omega
 ·obtain ⟨c, hc⟩ := hgt k e2
  obtain ⟨_, c2, h2⟩ := zBX h.hp e
  rw [h2] at hc; cases hc
theorem red_end {w A B : World} {r d p p' : Value} {left done : List (List Int)} {J : List Nat} {j : Nat} (h1 : TabN p.ownBlock A w.heap.size r left) (h2 : TabN p.ownBlock A w.heap.size d done) (h3 : A.ownsRow w.heap.size 3 1 p J.length ((zKN J).map (Value.int .i64)))
 (h4 : Below w.heap.size w A) (hg : A.grownBy B p.ownBlock) (hat : p'.ownBlock = p.ownBlock ∨ p'.ownBlock = some A.heap.size) (ho : B.ownsRow w.heap.size 3 1 p' (J.length + 1) ((zKN J).map (Value.int .i64) ++ [.int .i64 j])) :
 TabN p'.ownBlock B w.heap.size r left ∧ TabN p'.ownBlock B w.heap.size d done ∧ B.ownsRow w.heap.size 3 1 p' (J ++ [j]).length ((zKN (J ++ [j])).map (Value.int .i64)) ∧ Below w.heap.size w B := by
 refine ⟨h1.piv hg hat h3, h2.piv hg hat h3, ?_, h4.grown hg h4.size fun k hk => (zBX h3 hk).1⟩
 simpa [zKN] using ho
theorem zHZ {P : Program} (w : World) {ops : Array Oper} {rest : List Oper} {o : Oper} {a : Act} {Q : Exit -> Act -> World -> Prop} (hgd : o.guard = none) (s x : Operand) (t : TypeId)
 (ho : o.op = .call { callee := .builtin .append, args := #[s, x], argTypes := #[t, t] })
 (base : Nat) (e : TypeId) (z : Value) (size bytes : Nat) (ht : P.underlying t = some (.slice e)) (hinfo : (P.info? e).map (fun i => (i.zero, i.size, i.bytes)) = some (some z, size, bytes))
 (hzs : z.cells.size = size) (hsz : 0 < size)
 (v : Value) (n : Nat) (xs : List Value) (hs : a.eval s = v) (hown : w.ownsRow base e size v n xs)
 (ad : Addr) (m c : Nat) (news : List Value) (hx : a.eval x = .slice (some ad) m c) (hl : news.length = m * size)
 (hnews : ∀ j u, news[j]? = some u -> w.cell? (ad.add j) = some u) (h1 : ∀ u ∈ news, u.oneCell' = true)
 (h63 : n + m <= maxLen) (hbytes : (n + m) * bytes <= 140737488355328) (hbase : base <= w.heap.size)
 (h : ∀ a' c' w', w'.ownsRow base e size (.slice a' (n + m) c') (n + m) (xs ++ news) -> w.grownBy w' v.ownBlock -> ((Value.slice a' (n + m) c').ownBlock = v.ownBlock ∨ (Value.slice a' (n + m) c').ownBlock = some w.heap.size) -> wpList P ops Q rest (a.put o.dst (.slice a' (n + m) c')) w') : wpList P ops Q (o :: rest) a w := by
 obtain ⟨i, hi, hz, h2, h3⟩ := info_parts hinfo
 refine wpList_append_own_at w hgd s x t ho base e i z size bytes ht hi hz h2 h3 hzs hsz v n xs hs hown ad m c news hx hl hnews h1 h63 hbytes hbase ?_
 intro v' w' ho' hg _ hat
 obtain ⟨a', c', rfl⟩ := zAC ho'
 exact h a' c' w' ho' hg hat
end
end
section
open Go.RowKit
theorem RowN.sp {N : Option Nat} {X : World} {g n c : Nat} {P : List Int} (h : RowN N X (.slice (some ⟨g, 0, none⟩) n c) P) (h0 : 0 < P.length) : zBO X g P := by
 rcases h with ⟨g', c', e, hs, _⟩ | ⟨rfl, _⟩
 ·cases e; exact hs
 ·simp at h0
theorem RowN.form {N : Option Nat} {X : World} {v : Value} {P : List Int} (h : RowN N X v P) (h0 : 0 < P.length) : ∃ g c, v = .slice (some ⟨g, 0, none⟩) P.length c ∧ zBO X g P := by
 rcases h with ⟨g', c', e, hs, _⟩ | ⟨rfl, _⟩
 ·exact ⟨_, _, e, hs⟩
 ·simp at h0
theorem posF_bnd {B : Nat} {l : List Int} (h : BndL B l) (j : Nat) : BndL B (posF l j) := by
 unfold posF
 split
 ·intro x hx
  obtain ⟨y, hy, rfl⟩ := List.mem_map.1 hx
  have := h y hy
  omega
 ·exact h
theorem RedS.drop {w : World} {R0 : Nat} {A : World} {l d r q p : Value} {left done rest : List (List Int)} {P : List Int} {J : List Nat} (h : RedS w R0 A l d r q p left done rest P J) : RedS w R0 A (.slice none 0 0) d r q p [] done rest P J :=
 ⟨TabN.nil _ _ _, h.hd, h.hr, h.hq, h.hp, h.hb, h.hR, h.hw, fun k hk => by simp [Value.ownBlock] at hk, h.dR, h.pR⟩
theorem r3reduced_c (w : World) (a : Option Addr) (n cap : Nat) (L : List (List Int)) (W : Nat) (hn : L.length = n) (hn6 : n <= 1000) (H : zAO w a L) (hw : ∀ r ∈ L, r.length = W) (hW : W <= 1000) (hB0 : ∀ r ∈ L, BndL 4611686018427387904 r)
 (hB : ∀ t, t <= W -> ∀ r ∈ (rRed L t).done ++ (rRed L t).left, r.length = W ∧ BndL 1073741824 r) (hlen : ∀ t, (rRed L t).done.length + (rRed L t).left.length = n) (hpl : ∀ t, (rRed L t).piv.length = (rRed L t).done.length) :
 Calls Tryz.prog 225 #[.slice a n cap] w fun e w' => ∃ vD vP, e = .returned (.tuple #[vD, vP]) ∧ TabS w' w.heap.size vD (rRed L W).done ∧ w'.ownsRow w.heap.size 3 1 vP (rRed L W).piv.length ((zKN (rRed L W).piv).map (Value.int .i64)) ∧ Below w.heap.size w w' := by
 have HN := hid hn
 have HH := hid H
 have HW := hid hw
 have HB0 := hid hB0
 have HBB := hid hB
 have HLEN := hid hlen
 have HPL := hid hpl
 clear hn H hw hB0 hB hlen hpl
 go_enter Tryz.func225, Tryz.ntmps225
 go_wp2
 go_loopw [4, 21] (fun v i wr => ∃ k : Nat, k <= n ∧ i = .int .i64 k ∧ TabN none wr w.heap.size v ((L.take k).map zDB) ∧ Below w.heap.size w wr) (fun _ i _ => n - (intOf i).toNat)
 case atStart => exact ⟨0, Nat.zero_le _, rfl, TabN.nil _ _ _, Below.refl _ _⟩
 case round =>
  obtain ⟨k, hk, rfl, ho, hbk⟩ := hrel
  obtain ⟨wo, hwo⟩ := exq (wr)
  subst hwo
  by_cases hlt : k < n
  ·have hkL : k < L.length := by rw [HN.out]; exact hlt
   obtain ⟨b, off, ra, rn, rc, rfl, hbs, hq0, hrn, hrm, hri⟩ := (HH.out.below hbk) k hkL
   have htk : (L.take (k + 1)).map zDB = (L.take k).map zDB ++ [zDB L[k]] := by rw [List.take_succ_eq_append_getElem hkL, List.map_append]; rfl
   obtain rfl : rn = W := by rw [<- hrn]; exact HW.out _ (List.getElem_mem hkL)
   obtain ⟨C, hC⟩ := exq ((L.take k).map zDB)
   have hlenC : C.length = k := by rw [hC, List.length_map, List.length_take, HN.out]; omega
   rw [<- hC] at htk ho
   have HPR := hid (zIH wo ra rn rc L[k] hrn hW hri (HB0.out _ (List.getElem_mem hkL)))
   obtain ⟨r, hr⟩ := exq (L[k])
   rw [<- hr] at htk HPR hrn
   have hpl : (zDB r).length = rn := by unfold zDB; rw [List.length_map]; exact hrn
   obtain ⟨P, hP⟩ := exq (zDB r)
   rw [<- hP] at HPR htk hpl
   have HTK := hid htk
   have HLC := hid hlenC
   have HPLN := hid hpl
   have HBK := hid hbk
   have HO := hid ho
   obtain ⟨va, vc, rfl⟩ : ∃ va vc, u4 = .slice va k vc := by
    obtain ⟨_, ho1, _⟩ := ho
    obtain ⟨a', c', e⟩ := zAC ho1
    exact ⟨a', c', by rw [e, hlenC]⟩
   clear hC hr hP htk hlenC hpl ho hri hrn hkL hbk
   go_wp2_with (go_at_call 226; refine HPR.out.mono ?_; rintro e w4 ⟨v4, rfl, ho4, hb4⟩; refine Stop.of ?_)
   refine Stop.go ?_
   obtain ⟨la, lc, rfl⟩ := zAC ho4
   have hb4a : Below wo.heap.size wo (w4.alloc (.cells #[.slice la rn lc] 24)) := hb4.alloc hb4.size _
   have hT := HO.out.below hb4a
   obtain ⟨vs, ho1, he1⟩ := hT
   have hRow : RowN none (w4.alloc (.cells #[.slice la rn lc] 24)) (.slice la rn lc) P := (zKP ho4 HPLN.out (fun _ h => by cases h)).keep (zMT.below ((Below.refl _ _).alloc (Nat.le_refl _) _))
   have ho1' := ho1
   rw [HLC.out] at ho1'
   have M1 := hid (show k + 1 <= maxLen by unfold maxLen; omega)
   have M2 := hid (show (k + 1) * 24 <= 140737488355328 by omega)
   have M3 := hid (Nat.le_trans HBK.out.size hb4a.size)
   have HO1 := hid ho1
   have HO1' := hid ho1'
   have HE1 := hid he1
   have HRW := hid hRow
   have HB4 := hid hb4a
   clear ho1 ho1' he1 hRow hb4a ho4 hb4
   go_wp2_with (at_builtin; refine zAN _ rfl (.tmp 25) (.tmp 28) 22 rfl w.heap.size 24 (.slice none 0 0) 1 24 Tryz.underlying22 zHV rfl Nat.one_pos (.slice va k vc) k vs rfl HO1'.out (some ⟨w4.heap.size, 0, none⟩) 1 1 [.slice la rn lc] rfl rfl zBR (zBL w4 _ _) (zCH _ _ _) M1.out M2.out M3.out ?_; refine Stop.of ?_)
   refine Stop.go ?_
   intro a5 c5 w5 own5 g5
   have hsn : TabN none w5 w.heap.size (.slice a5 (k + 1) c5) (C ++ [P]) := TabN.snoc HO1.out HE1.out HRW.out g5 (by rw [HLC.out]; exact own5)
   have hB5 : Below w.heap.size w w5 := (HBK.out.trans (HB4.out.mono HBK.out.size)).grown g5 M3.out (fun q hq => (HO1'.out.lt q hq).1)
   rw [<- HTK.out] at hsn
   go_wp2
   exact ⟨⟨k + 1, by omega, by go_num, hsn, hB5⟩, by simp [intOf]; omega⟩
  ·obtain rfl : k = n := by omega
   rw [List.take_of_length_le (by rw [HN.out]; exact Nat.le_refl _)] at ho
   have hI : RedI w wo L 0 u4 (.slice none 0 0) (.slice none 0 0) := ⟨ho, TabN.nil _ _ _, World.ownsRow_nil _ _ _ _, hbk⟩
   clear ho hbk
   go_wp2
   go_loopw [4, 5, 8, 9] (fun l d p i wr => ∃ j : Nat, j <= W ∧ i = .int .i64 j ∧ RedI w wr L j l d p) (fun _ _ _ i _ => W - (intOf i).toNat)
   case atStart => exact ⟨0, Nat.zero_le _, rfl, hI⟩
   case round =>
    clear hI
    obtain ⟨w0, hw0⟩ := exq (wo)
    subst hw0
    obtain ⟨wo, hwo⟩ := exq (wr)
    subst hwo
    obtain ⟨j, hj, rfl, hI⟩ := hrel
    have HI := hid hI
    have hls := HLEN.out j
    have hpl := HPL.out j
    have hbb := HBB.out j hj
    have hsucc := zIG L j
    have hend : j = W ∨ (rRed L j).left = [] -> rRed L W = rRed L j := by
     rintro (rfl | h)
     ·rfl
     ·have := rRed_stop h (W - j)
      rwa [show j + (W - j) = W by omega] at this
    obtain ⟨hl, hd, hp, hbw⟩ := hI
    obtain ⟨s, hs⟩ := exq (rRed L j)
    rw [<- hs] at hls hpl hbb hsucc hend hl hd hp
    obtain ⟨ln, hln⟩ := exq (s.left.length)
    obtain ⟨dn, hdn⟩ := exq (s.done.length)
    obtain ⟨la, lc, rfl⟩ : ∃ la lc, u4 = .slice la ln lc := by
     obtain ⟨_, ho1, _⟩ := hl
     obtain ⟨a', c', e⟩ := zAC ho1
     exact ⟨a', c', by rw [e, hln]⟩
    obtain ⟨da, dc, rfl⟩ : ∃ la lc, u5 = .slice la dn lc := by
     obtain ⟨_, ho1, _⟩ := hd
     obtain ⟨a', c', e⟩ := zAC ho1
     exact ⟨a', c', by rw [e, hdn]⟩
    obtain ⟨pa, pc, rfl⟩ : ∃ la lc, u8 = .slice la dn lc := by
     obtain ⟨a', c', e⟩ := zAC hp
     exact ⟨a', c', by rw [e, hpl, hdn]⟩
    have HS := hid hs
    have HEND := hid hend
    have HSUCC := hid hsucc
    have HBBS := hid hbb
    have HPLS := hid hpl
    have HL := hid hl
    have HD := hid hd
    have HP := hid hp
    have HBW := hid hbw
    have HLN := hid hln
    have HDN := hid hdn
    have hln6 : ln <= 1000 := by omega
    have hdn6 : dn <= 1000 := by omega
    clear hs hend hsucc hbb hpl hl hd hp hbw hls
    by_cases h0 : ln = 0
    ·subst h0
     have he : rRed L W = s := HEND.out (.inr (List.length_eq_zero_iff.1 hln.symm))
     have HE := hid he
     clear he hln hdn
     go_wp2
     go_ret2
     exact ⟨_, _, rfl, by rw [HE.out]; exact HD.out.tab, by rw [HE.out]; exact HP.out, HBW.out⟩
    ·have hz : (0 : Int) < (ln : Int) := by omega
     obtain ⟨g0, lcap, u0, e0, hg0, hg0s, _, hc0, hr0, _, _⟩ := HL.out.at hln.symm (i := 0) (by omega)
     cases e0
     have hw0 := (HBBS.out (s.left[0]?.getD []) (by
      rw [List.getElem?_eq_getElem (by omega)]; exact List.mem_append_right _ (List.getElem_mem _))).1
     obtain ⟨ra0, rc0, hu0⟩ := hr0.row.slice
     rw [hw0] at hu0
     subst hu0
     clear hw0 hr0 hln hdn
     by_cases hjW : j = W
     ·subst hjW
      have he := HEND.out (.inl rfl)
      have HE := hid he
      clear he
      go_wp2
      go_ret2
      exact ⟨_, _, rfl, by rw [HE.out]; exact HD.out.tab, by rw [HE.out]; exact HP.out, HBW.out⟩
     ·have hjlt : j < W := by omega
      have hji : (j : Int) < (W : Int) := by omega
      have hat : ∀ k, k < ln -> ∃ g c x, wo.cell? ⟨g0, k, none⟩ = some (.slice (some ⟨g, 0, none⟩) W c) ∧ zBO wo g (s.left[k]?.getD []) ∧ wo.cell? ⟨g, j, none⟩ = some (.int .i64 x) ∧ x = vec (s.left[k]?.getD []) j ∧ (s.left[k]?.getD []).length = W ∧
       RowN (Value.slice pa dn pc).ownBlock wo (.slice (some ⟨g, 0, none⟩) W c) (s.left[k]?.getD []) ∧ zKK (nz j) (s.left.take (k + 1)) = if x = 0 then zKK (nz j) (s.left.take k) else (k : Int) := by
       intro k hk
       obtain ⟨g1, c1, u, e1, _, _, _, hc, hr, _, _⟩ := HL.out.at HLN.out.symm hk
       cases e1
       have hkl : k < s.left.length := by rw [<- HLN.out]; exact hk
       have hlw := (HBBS.out (s.left[k]?.getD []) (by rw [List.getElem?_eq_getElem hkl]; exact List.mem_append_right _ (List.getElem_mem _))).1
       have hsp : ∃ g c, u = .slice (some ⟨g, 0, none⟩) W c ∧ zBO wo g (s.left[k]?.getD []) := by
        rcases hr with ⟨g, c, e, hs, _⟩ | ⟨e, _⟩
        ·rw [hlw] at e; exact ⟨g, c, e, hs⟩
        ·rw [e] at hlw; simp at hlw; omega
       obtain ⟨g, c, rfl, hsp⟩ := hsp
       refine ⟨g, c, _, hc, hsp, hsp.cell (by omega), rfl, hlw, hr, ?_⟩
       rw [lastI_take _ hkl]
       have : s.left[k]?.getD [] = s.left[k] := by rw [List.getElem?_eq_getElem hkl]; rfl
       rw [this]
       unfold nz
       by_cases hx : vec s.left[k] j = 0
       ·rw [if_neg (by simpa using hx)]
        exact (if_pos hx).symm
       ·rw [if_pos (by simpa using hx)]
        exact (if_neg hx).symm
      have HAT := hid hat
      clear hat
      go_wp2
      go_loopw [10, 46] (fun z i wr => ∃ k : Nat, k <= ln ∧ i = .int .i64 k ∧ z = .int .i64 (zKK (nz j) (s.left.take k)) ∧ wr = wo) (fun _ i _ => ln - (intOf i).toNat)
      case atStart => exact ⟨0, Nat.zero_le _, rfl, rfl, rfl⟩
      case round =>
       obtain ⟨k, hk, rfl, rfl, rfl⟩ := hrel
       by_cases hkl : k < ln
       ·obtain ⟨g, c, x, hc1, _, hc2, _, _, _, hla⟩ := HAT.out k hkl
        have HLA := hid hla
        clear hla
        have hki : (k : Int) < (ln : Int) := by omega
        by_cases hx : x = 0
        ·subst hx
         go_wp2
         exact ⟨⟨k + 1, by omega, by go_num, by rw [HLA.out]; rfl, by first | trivial | rfl⟩, by simp [intOf]; omega⟩
        ·go_wp2
         exact ⟨⟨k + 1, by omega, by go_num, by rw [HLA.out, if_neg hx], by first | trivial | rfl⟩, by simp [intOf]; omega⟩
       ·obtain rfl : ln = k := by omega
        have htake : s.left.take ln = s.left := List.take_of_length_le (by rw [<- HLN.out]; exact Nat.le_refl _)
        rw [htake]
        clear htake hkl
        cases hla : zEH (nz j) s.left with
        | none =>
          have hz1 : zKK (nz j) s.left = -1 := by unfold zKK; rw [hla]
          have hst := rStep_none hla
          rw [hz1]
          have HST := hid hst
          clear hla hz1 hst
          go_wp2
          refine ⟨⟨j + 1, by omega, by go_num, ?_⟩, by simp [intOf]; omega⟩
          unfold RedI
          rw [HSUCC.out, HST.out]
          exact ⟨HL.out, HD.out, HP.out, HBW.out⟩
        | some q =>
          have hz1 : zKK (nz j) s.left = (q : Int) := by unfold zKK; rw [hla]
          have hst := rStep_some hla
          obtain ⟨hq1, hq2⟩ := zFS hla
          rw [<- HLN.out] at hq1
          rw [hz1]
          obtain ⟨g, c, x, hc1, hsp, hc2, hxv, hlw, hrn, _⟩ := HAT.out q hq1
          have hbr := (HBBS.out (s.left[q]?.getD []) (by rw [List.getElem?_eq_getElem (by rw [<- HLN.out]; exact hq1)]; exact List.mem_append_right _ (List.getElem_mem _))).2
          obtain ⟨r, hr⟩ := exq (s.left[q]?.getD [])
          rw [<- hr] at hst hsp hxv hlw hrn hbr
          have hbp := posF_bnd hbr j
          have hlp : (posF r j).length = W := by rw [zIL]; exact hlw
          have HSC := hid (r3scaled_c wr (some ⟨g, 0, none⟩) W c r hlw hW hsp.ints (fun y hy => by have := hbr y hy; omega))
          have hpf1 : x < 0 -> posF r j = negF r := fun h => by unfold posF; rw [if_pos (by rw [<- hxv]; exact h)]
          have hpf2 : ¬ x < 0 -> posF r j = r := fun h => by unfold posF; rw [if_neg (by rw [<- hxv]; exact h)]
          obtain ⟨P, hP⟩ := exq (posF r j)
          rw [<- hP] at hst hbp hlp hpf1 hpf2
          have hpn : ∀ k, (Value.slice pa dn pc).ownBlock = some k -> k < wr.heap.size := fun k hk => by
           obtain ⟨_, c, hc⟩ := zBX HP.out hk
           exact (Array.getElem?_eq_some_iff.1 hc).1
          have hnl : (negF r).length = W := by unfold negF; rw [List.length_map]; exact hlw
          have HST := hid hst
          have HRN := hid hrn
          have HBP := hid hbp
          have HLP := hid hlp
          have HPF1 := hid hpf1
          have HPF2 := hid hpf2
          have HPN := hid hpn
          have HNL := hid hnl
          have hqi : (q : Int) < (ln : Int) := by omega
          clear hla hz1 hst hq2 hsp hxv hlw hrn hbr hr hbp hlp hpf1 hpf2 hP hpn hnl
          go_upto_if 68 with fail
          go_cut [13] from 31 to 112 (fun v wx => RowN (Value.slice pa dn pc).ownBlock wx v P ∧ Below wr.heap.size wr wx)
          case first =>
           by_cases hx0 : x < 0
           ·have HE := hid (HPF1.out hx0)
            go_wp2_with (go_at_call 185; refine HSC.out.mono ?_; rintro e w3 ⟨v3, rfl, ho3, hb3⟩)
            go_meet
            case rel =>
             refine ⟨?_, hb3⟩
             rw [HE.out]
             exact zKP ho3 HNL.out HPN.out
           ·have HE := hid (HPF2.out hx0)
            go_wp2
            go_meet
            case rel =>
             refine ⟨?_, Below.refl _ _⟩
             rw [HE.out]
             exact HRN.out
          case rest =>
           obtain ⟨hq, hbc⟩ := hcut
           obtain ⟨gp, cp, e, hsp⟩ := hq.form (by rw [HLP.out]; omega)
           rw [HLP.out] at e
           subst e
           have hS := RedS.start (w := w) (wr := wc) (L := L) (j := j) (l := .slice (some ⟨g0, 0, none⟩) ln lc) (d := .slice da dn dc) (p := .slice pa dn pc) ⟨by rw [<- HS.out]; exact HL.out.below hbc, by rw [<- HS.out]; exact HD.out.below hbc, by rw [<- HS.out]; exact zBI HP.out hbc, zAA HBW.out hbc⟩ hq
           rw [<- HS.out] at hS
           have HS0 := hid hS
           have HBC := hid hbc
           clear hS hsp hq hbc
           obtain ⟨wo, hwo⟩ := exq (wr)
           subst hwo
           obtain ⟨f, hf⟩ := exq (zBA P j)
           have HF := hid (fun (r : List Int) => show f r = zBA P j r by rw [hf])
           have hst2 := HST.out
           rw [<- hf] at hst2
           have HST2 := hid hst2
           have hjn : j < W := hjlt
           clear hf hst2 HST HSC HPF1 HPF2 hc1 hc2
           go_wp2
           go_loopw [14, 73] (fun v i wz => ∃ k : Nat, k <= ln ∧ i = .int .i64 k ∧ RedS w wc.heap.size wz (.slice (some ⟨g0, 0, none⟩) ln lc) (.slice da dn dc) v (.slice (some ⟨gp, 0, none⟩) W cp) (.slice pa dn pc) s.left s.done (zID f s.left q k) P s.piv ∧ Below wc.heap.size wc wz) (fun _ i _ => ln - (intOf i).toNat)
           case atStart => exact ⟨0, Nat.zero_le _, rfl, by rw [restT_zero]; exact HS0.out, Below.refl _ _⟩
           case round =>
            obtain ⟨k, hk, rfl, hS, hbz⟩ := hrel
            by_cases hkl : k < ln
            ·obtain ⟨gk, ck, xk, hk1, hk2, _, _, hkw, _, _⟩ := HAT.out k hkl
             have hks : k < s.left.length := by rw [<- HLN.out]; exact hkl
             have hcell : wr.cell? ⟨g0, k, none⟩ = some (.slice (some ⟨gk, 0, none⟩) W ck) := ((zAA HBC.out hbz).cell (p := ⟨g0, k, none⟩) hg0s).trans hk1
             have hgk : s.left[k]?.getD [] = s.left[k] := by rw [List.getElem?_eq_getElem hks]; rfl
             by_cases hkq : k = q
             ·subst hkq
              have hre := restT_eq (f := f) hks
              have HRE := hid hre
              have HSS := hid hS
              have HBZ := hid hbz
              clear hre hS hbz hgk hks hk1 hk2 hkw
              go_wp2
              exact ⟨⟨k + 1, by omega, by go_num, by rw [HRE.out]; exact HSS.out, HBZ.out⟩, by simp [intOf]; omega⟩
             ·have hne : ¬ (k : Int) = (q : Int) := by omega
              have hkb := (HBBS.out s.left[k] (List.mem_append_right _ (List.getElem_mem _))).2
              have hrow : zAK wr (some ⟨gk, 0, none⟩) s.left[k] := by rw [<- hgk]; exact hk2.ints.below (zAA HBC.out hbz)
              have hpp : zAK wr (some ⟨gp, 0, none⟩) P := (hS.hq.sp (by rw [HLP.out]; omega)).ints
              rw [hgk] at hkw
              have HWO := hid (zLM wr (some ⟨gk, 0, none⟩) (some ⟨gp, 0, none⟩) W ck cp s.left[k] P hkw HLP.out hW hrow hpp hkb HBP.out j hjlt)
              have hre := restT_ne (f := f) hks hkq
              have hXl : (zBA P j s.left[k]).length = W := by rw [zGD (by rw [hkw, HLP.out])]; exact hkw
              rw [HF.out s.left[k]] at hre
              obtain ⟨X, hX⟩ := exq (zBA P j s.left[k])
              rw [<- hX] at HWO hre hXl
              have hrl := restT_len f s.left q k
              obtain ⟨R, hR⟩ := exq (zID f s.left q k)
              rw [<- hR] at hre hrl hS
              obtain ⟨rn, hrn⟩ := exq (R.length)
              obtain ⟨va, vc, rfl⟩ : ∃ va vc, u14 = .slice va rn vc := by
               obtain ⟨_, ho1, _⟩ := hS.hr
               obtain ⟨a', c', e⟩ := zAC ho1
               exact ⟨a', c', by rw [e, hrn]⟩
              have hrn6 : rn <= 1000 := by omega
              have HRNL := hid hrn
              have HRE := hid hre
              have HXL := hid hXl
              have HSS := hid hS
              have HBZ := hid hbz
              clear hre hS hbz hgk hks hk1 hk2 hkw hX hR hrn hXl hrow hpp hkb hrl
              go_wp2_with (go_at_call 251; refine HWO.out.mono ?_; rintro e w4 ⟨v4, b4, rfl, hb4s, ho4, hb4⟩; refine Stop.of ?_)
              refine Stop.go ?_
              obtain ⟨xa, xc, rfl⟩ := zAC ho4
              have hba : Below wr.heap.size wr (w4.alloc (.cells #[.slice xa W xc] 24)) := hb4.alloc hb4.size _
              have h4 := HSS.out.below hba
              have hu : RowN (Value.slice pa dn pc).ownBlock (w4.alloc (.cells #[.slice xa W xc] 24)) (.slice xa W xc) X := (zKP ho4 HXL.out (fun k' hk' => by have := h4.pR k' hk'; have := HSS.out.hR; omega)).keep (zMT.below ((Below.refl _ _).alloc (Nat.le_refl _) _))
              obtain ⟨vs, hv1, hv2⟩ := h4.hr
              have hv1' := hv1
              rw [<- HRNL.out] at hv1'
              have M1 := hid (show rn + 1 <= maxLen by unfold maxLen; omega)
              have M2 := hid (show (rn + 1) * 24 <= 140737488355328 by omega)
              have M3 := hid h4.hR
              have H4 := hid h4
              have HV1 := hid hv1
              have HV1' := hid hv1'
              have HV2 := hid hv2
              have HU := hid hu
              have HBA := hid (zAA HBZ.out hba)
              clear h4 hv1 hv1' hv2 hu hba ho4 hb4 hb4s
              go_wp2_with (at_builtin; refine zAN _ rfl (.tmp 81) (.tmp 86) 22 rfl wc.heap.size 24 (.slice none 0 0) 1 24 Tryz.underlying22 zHV rfl Nat.one_pos (.slice va rn vc) rn vs rfl HV1'.out (some ⟨w4.heap.size, 0, none⟩) 1 1 [.slice xa W xc] rfl rfl zBR (zBL w4 _ _) (zCH _ _ _) M1.out M2.out M3.out ?_; refine Stop.of ?_)
              refine Stop.go ?_
              intro a5 c5 w5 own5 g5
              have h5 := H4.out.push HV1.out HV2.out HU.out g5 (r' := .slice a5 (rn + 1) c5) (by rw [<- HRNL.out]; exact own5)
              rw [<- HRE.out] at h5
              have hb5 : Below wc.heap.size wc w5 := HBA.out.grown g5 M3.out fun k' hk' => (zBX HV1'.out hk').1
              go_wp2
              exact ⟨⟨k + 1, by omega, by go_num, h5, hb5⟩, by simp [intOf]; omega⟩
            ·obtain rfl : ln = k := by omega
             have hall := restT_all (f := f) (a := q) HLN.out.symm
             rw [hall] at hS
             have hS2 := hS.drop
             have HS2 := hid hS2
             clear hS hS2 hall hbz hkl hk
             obtain ⟨wq, hwq⟩ := exq (wr)
             subst hwq
             go_wp2
             go_loopw [91] (fun i wz => ∃ k : Nat, k <= dn ∧ i = .int .i64 k ∧ RedS w wc.heap.size wz (.slice none 0 0) (.slice da dn dc) u14 (.slice (some ⟨gp, 0, none⟩) W cp) (.slice pa dn pc) [] (zKM f s.done k) ((s.left.eraseIdx q).map f) P s.piv) (fun i _ => dn - (intOf i).toNat)
             case atStart => exact ⟨0, Nat.zero_le _, rfl, by rw [doneT_zero]; exact HS2.out⟩
             case round =>
              obtain ⟨k, hk, rfl, hS⟩ := hrel
              by_cases hkl : k < dn
              ·have hks : k < s.done.length := by rw [<- HDN.out]; exact hkl
               obtain ⟨gd, cd, ud, ed, _, _, _, hcd, hrd, _, _⟩ := hS.hd.at (by rw [doneT_len]; exact HDN.out.symm) hkl
               cases ed
               rw [doneT_at hks] at hrd
               have hkw := HBBS.out s.done[k] (List.mem_append_left _ (List.getElem_mem _))
               obtain ⟨gk, ck, ek, hsk⟩ := hrd.form (by rw [hkw.1]; omega)
               rw [hkw.1] at ek
               subst ek
               have hpp : zAK wr (some ⟨gp, 0, none⟩) P := (hS.hq.sp (by rw [HLP.out]; omega)).ints
               have HWO := hid (zLM wr (some ⟨gk, 0, none⟩) (some ⟨gp, 0, none⟩) W ck cp s.done[k] P hkw.1 HLP.out hW hsk.ints hpp hkw.2 HBP.out j hjlt)
               have hre := doneT_succ (f := f) hks
               have hXl : (zBA P j s.done[k]).length = W := by rw [zGD (by rw [hkw.1, HLP.out])]; exact hkw.1
               rw [HF.out s.done[k]] at hre
               obtain ⟨X, hX⟩ := exq (zBA P j s.done[k])
               rw [<- hX] at HWO hre hXl
               have hki : (k : Int) < (dn : Int) := by omega
               have HRE := hid hre
               have HXL := hid hXl
               have HSS := hid hS
               clear hre hS hks hkw hX hXl hpp hrd hsk
               go_wp2_with (go_at_call 251; refine HWO.out.mono ?_; rintro e w4 ⟨v4, b4, rfl, hb4s, ho4, hb4⟩; refine Stop.of ?_)
               refine Stop.go ?_
               obtain ⟨xa, xc, rfl⟩ := zAC ho4
               have h4 := HSS.out.below hb4
               have hu : RowN (Value.slice pa dn pc).ownBlock w4 (.slice xa W xc) X := zKP ho4 HXL.out (fun k' hk' => by have := h4.pR k' hk'; have := HSS.out.hR; omega)
               obtain ⟨g6, c6, v6, e6, hc6, hf6, h6⟩ := h4.store (by rw [doneT_len]; exact HDN.out.symm) hkl hu
               cases e6
               rw [<- HRE.out] at h6
               have H6 := hid h6
               clear h6 h4 hu ho4 hb4 hb4s hcd
               go_wp2
               exact ⟨⟨k + 1, by omega, by go_num, H6.out⟩, by simp [intOf]; omega⟩
              ·obtain rfl : dn = k := by omega
               have hall := doneT_all (f := f) HDN.out.symm
               rw [hall] at hS
               obtain ⟨D, hD⟩ := exq (s.done.map f)
               have hDl : D.length = dn := by rw [hD, List.length_map]; exact HDN.out.symm
               have hst3 := HST2.out
               rw [<- hD] at hst3 hS
               have h4 := hS.below ((Below.refl _ wr).alloc (Nat.le_refl _) (.cells #[.slice (some ⟨gp, 0, none⟩) W cp] 24))
               obtain ⟨vs, hv1, hv2⟩ := h4.hd
               have hv1' := hv1
               rw [hDl] at hv1'
               have hpl := HPLS.out
               rw [<- HDN.out] at hpl
               have HPL2 := hid hpl
               have M1 := hid (show dn + 1 <= maxLen by unfold maxLen; omega)
               have M2 := hid (show (dn + 1) * 24 <= 140737488355328 by omega)
               have M2' := hid (show (dn + 1) * 8 <= 140737488355328 by omega)
               have M3 := hid (Nat.le_trans h4.hw h4.hR)
               have H4 := hid h4
               have HV1 := hid hv1
               have HV1' := hid hv1'
               have HV2 := hid hv2
               have HDL := hid hDl
               have HST3 := hid hst3
               clear h4 hv1 hv1' hv2 hDl hst3 hD hall hS hpl hk hkl
               go_wp2_with (at_builtin; refine zAN _ rfl (.tmp 105) (.tmp 107) 22 rfl w.heap.size 24 (.slice none 0 0) 1 24 Tryz.underlying22 zHV rfl Nat.one_pos (.slice da dn dc) dn vs rfl HV1'.out (some ⟨wr.heap.size, 0, none⟩) 1 1 [.slice (some ⟨gp, 0, none⟩) W cp] rfl rfl zBR (zBL wr _ _) (zCH _ _ _) M1.out M2.out M3.out ?_; refine Stop.of ?_)
               refine Stop.go ?_
               intro a5 c5 w5 own5 g5
               obtain ⟨e1, e2, e3, e4⟩ := H4.out.onto HV1.out HV2.out g5 (d' := .slice a5 (dn + 1) c5) (by rw [HDL.out]; exact own5)
               have hal : Below w5.heap.size w5 (w5.alloc (.cells #[.int .i64 j] 3)) := (Below.refl _ _).alloc (Nat.le_refl _) _
               have E1 := hid (e1.below hal)
               have E2 := hid (e2.below hal)
               have E3 := hid (zBI e3 hal)
               have E4 := hid (zAA e4 hal)
               have e3' := E3.out
               rw [HPL2.out] at e3'
               have E3' := hid e3'
               have M4 := hid E4.out.size
               clear e1 e2 e3 e4 e3' hal own5 g5
               go_wp2_with (at_builtin; refine zHZ _ rfl (.tmp 109) (.tmp 111) 24 rfl w.heap.size 3 (.int .i64 0) 1 8 Tryz.underlying24 zDR rfl Nat.one_pos (.slice pa dn pc) dn _ rfl E3'.out ⟨w5.heap.size, 0, none⟩ 1 1 [.int .i64 j] rfl rfl (zBL w5 _ _ _ rfl) (zDU _) M1.out M2'.out M4.out ?_; refine Stop.of ?_)
               refine Stop.go ?_
               intro a6 c6 w6 own6 g6 hat6
               have hfin := red_end E1.out E2.out E3.out E4.out g6 (by rw [World.size_alloc]; exact hat6) (by rw [HPL2.out]; exact own6)
               have HFIN := hid hfin
               clear hfin own6 g6 hat6
               go_wp2
               refine ⟨⟨j + 1, by omega, by go_num, ?_⟩, by simp [intOf]; omega⟩
               unfold RedI
               rw [HSUCC.out, HST3.out]
               exact HFIN.out
end
section
theorem zKQ {C : List (List Int)} {n : Nat} (h : ∀ r ∈ C, r.length = n) (t : Nat) : (rRed C t).done.length + (rRed C t).left.length = C.length ∧ (rRed C t).piv.length = (rRed C t).done.length :=
 ⟨rRed_len C h t, (zDX C h t).2.symm⟩
end
section
open Go.RowKit
theorem zGK (n lo hi : Int) (w : World) : Calls Tryz.prog 88 #[.int .i64 n, .int .i64 lo, .int .i64 hi] w fun e w' => e = .returned (.bool (inB n lo hi)) ∧ w = w' := by
 by_cases h1 : lo <= n <;> by_cases h2 : n <= hi
 all_goals
  go_enter Tryz.func88, Tryz.ntmps88
  go_wp2
  go_ret
  exact ⟨zAV (by simp [inB, h1, h2]), rfl⟩
theorem beyond1 (w : World) (b : Nat) (m : Int) (hm : 0 <= m ∧ m <= 1000000000) (hc : w.cell? ⟨b, 0, none⟩ = some (.int .i64 m)) (hb : b < w.heap.size) :
 PredI Tryz.prog 167 #[.pointer (some ⟨b, 0, none⟩)] w (fun n => !(inB n (-m) m)) := by
 intro x W hW
 have hc' : W.cell? ⟨b, 0, none⟩ = some (.int .i64 m) := (hW.cell (p := ⟨b, 0, none⟩) hb).trans hc
 obtain ⟨z, hz⟩ := exq (-m)
 have hw : IntKind.i64.wrap (-m) = z := by rw [hz]; exact IntWalk.i64_in _ (by omega)
 rw [<- hz]
 obtain ⟨B, hB⟩ := exq (inB x z m)
 have HP := hid (zGK x z m W)
 rw [<- hB] at HP
 simp only [<- hB]
 clear hB hc hz
 show Calls Tryz.prog 167 #[.int .i64 x, .pointer (some ⟨b, 0, none⟩)] W _
 go_enter Tryz.func167, Tryz.ntmps167
 go_wp2_with (go_at_call 88; refine HP.out.mono ?_; rintro e w1 ⟨rfl, rfl⟩)
 go_ret
 exact ⟨rfl, Below.refl _ _⟩
def milB (l : List Int) : Bool := l.all (fun n => inB n (-1000000) 1000000)
end
section
open Go.RowKit
theorem any_mil (h : List Int) : h.any (fun n => !(inB n (-1000000) 1000000)) = !milB h := by unfold milB; rw [List.not_all_eq_any_not]
theorem beyond_c (w : World) (m : Int) : Calls Tryz.prog 106 #[.int .i64 m] w fun e w' => ∃ b, e = .returned (.func (.func 167) #[] #[.pointer (some ⟨b, 0, none⟩)]) ∧ w'.cell? ⟨b, 0, none⟩ = some (.int .i64 m) ∧ b < w'.heap.size ∧ Below w.heap.size w w' := by
 go_enter Tryz.func106, Tryz.ntmps106
 go_wp2
 go_ret
 exact ⟨w.heap.size, rfl, by rw [World.cell?_alloc_at _ _ _ _ rfl]; rfl, by simp, (Below.refl _ _).alloc (Nat.le_refl _) _⟩
end
section
open Go.RowKit
theorem mil_le {h : List Int} (e : milB h = true) : ∀ x ∈ h, -1000000 <= x ∧ x <= 1000000 := by
 intro x hx
 have := List.all_eq_true.1 e x hx
 unfold inB at this
 simp only [Bool.and_eq_true, decide_eq_true_eq] at this
 omega
end
section
open Go.RowKit
attribute [local go_sem] Oper.semAt_some
theorem zFK : ∀ (m k : Nat) (a : Int), (comb m k a).length <= 2 ^ m
 | 0, 0, a => Nat.le_refl _
 | m + 1, 0, a => Nat.one_le_two_pow
 | 0, k + 1, a => by simp [comb]
 | m + 1, k + 1, a => by
   simp only [comb, List.length_append, List.length_map]
   have h1 := zFK m k (a + 1)
   have h2 := zFK m (k + 1) (a + 1)
   rw [Nat.pow_succ]; omega
theorem ints_row {W : World} {it : Nat} {x : List Int} {sp : List Value} {E : TypeId} (h : W.heap[it]? = some (.cells (x.map (Value.int .i64) ++ sp).toArray E (0, 0))) : zAK W (some ⟨it, 0, none⟩) x := by
 intro j hj
 refine ⟨it, 0, rfl, (Array.getElem?_eq_some_iff.1 h).1, ?_⟩
 rw [Nat.zero_add]
 simp [World.cell?, h, List.getElem?_append_left, hj]
end
section
open Go.RowKit
def twoM : Mask := [[1, 1, 0], [0, 1, 1]]
theorem two_rows (w : World) : zAO (((w.alloc (.cells #[.int .i64 1, .int .i64 1, .int .i64 0] 3)).alloc (.cells #[.int .i64 0, .int .i64 1, .int .i64 1] 3)).alloc (.cells #[.slice (some ⟨w.heap.size, 0, none⟩) 3 3, .slice (some ⟨w.heap.size + 1, 0, none⟩) 3 3] 24)) (some ⟨w.heap.size + 2, 0, none⟩) twoM := by
 obtain ⟨w1, h1⟩ := exq (w.alloc (.cells #[.int .i64 1, .int .i64 1, .int .i64 0] 3))
 obtain ⟨w2, h2⟩ := exq (w1.alloc (.cells #[.int .i64 0, .int .i64 1, .int .i64 1] 3))
 rw [<- h1, <- h2]
 have s1 : w1.heap.size = w.heap.size + 1 := by rw [h1]; simp
 have s2 : w2.heap.size = w.heap.size + 2 := by rw [h2]; simp [s1]
 have i1 : zAK w1 (some ⟨w.heap.size, 0, none⟩) [1, 1, 0] := fun j hj => ⟨w.heap.size, 0, rfl, by omega, by
  rw [h1, World.cell?_alloc_at _ _ _ _ (by simp)]
  match j, hj with
  | 0, _ => rfl
  | 1, _ => rfl
  | 2, _ => rfl⟩
 have i2 : zAK w2 (some ⟨w1.heap.size, 0, none⟩) [0, 1, 1] := fun j hj => ⟨w1.heap.size, 0, rfl, by omega, by
  rw [h2, World.cell?_alloc_at _ _ _ _ (by simp)]
  match j, hj with
  | 0, _ => rfl
  | 1, _ => rfl
  | 2, _ => rfl⟩
 rw [s1] at i2
 have b2 : Below w1.heap.size w1 w2 := by rw [h2]; exact (Below.refl _ _).alloc (Nat.le_refl _) _
 obtain ⟨o, ho⟩ := exq (Obj.cells #[.slice (some ⟨w.heap.size, 0, none⟩) 3 3, .slice (some ⟨w.heap.size + 1, 0, none⟩) 3 3] 24)
 rw [<- ho]
 have b3 : Below w2.heap.size w2 (w2.alloc o) := (Below.refl _ _).alloc (Nat.le_refl _) _
 have hc : ∀ j, (w2.alloc o).cell? ⟨w.heap.size + 2, j, none⟩ = #[Value.slice (some ⟨w.heap.size, 0, none⟩) 3 3, .slice (some ⟨w.heap.size + 1, 0, none⟩) 3 3][j]? := fun j => by
  rw [ho, World.cell?_alloc_at _ _ _ _ (by rw [s2])]
 intro j hj
 match j, hj with
 | 0, _ => exact ⟨_, 0, some ⟨w.heap.size, 0, none⟩, 3, 3, rfl, by simp [s2], hc 0, rfl, by decide, (i1.below b2).below b3⟩
 | 1, _ => exact ⟨_, 0, some ⟨w.heap.size + 1, 0, none⟩, 3, 3, rfl, by simp [s2], hc 1, rfl, by decide, i2.below b3⟩
end
section
open Go.RowKit
def SomeB (e : Ending) : Prop := ∃ b, e = .returned (.bool b)
theorem rows_one {W : World} {a2 : Option Addr} {n2 cap2 : Nat} {h : List Int} (hn2 : h.length = n2) (hm2 : n2 <= maxLen) (H2 : zAK W a2 h) :
 zAO (W.alloc (.cells #[.slice a2 n2 cap2] 24)) (some ⟨W.heap.size, 0, none⟩) [h] := by
 have hb : Below W.heap.size W (W.alloc (.cells #[.slice a2 n2 cap2] 24)) := (Below.refl _ _).alloc (Nat.le_refl _) _
 intro j hj
 match j, hj with
 | 0, _ => exact ⟨_, 0, a2, n2, cap2, rfl, by simp, by rw [World.cell?_alloc_at _ _ _ _ rfl]; rfl, hn2, hm2, H2.below hb⟩
end
section
section
open Go.RowKit
theorem chosenT_c (w : World) (a : Option Addr) (n cap : Nat) (M : List (List Int)) (hn : M.length = n) (hn6 : n <= 1000) (H : zAO w a M) (a2 : Option Addr) (k2 cap2 : Nat) (S : List Int) (hk2 : S.length = k2) (hk21 : k2 <= 1000) (H2 : zAK w a2 S)
 (hS : ∀ r ∈ M, ∀ j ∈ S, 0 <= j ∧ j < r.length) (g : Nat) (lb : Array Value) (eg : ∀ args w, (callFunc g args).run Tryz.prog w = .ok (.enter g args) w) (mo : Nat -> List Int) (hmo : MoreP Tryz.prog g lb w n mo) (hml : ∀ i, i < n -> (mo i).length <= 1000) :
 Calls Tryz.prog 220 #[.slice a n cap, .slice a2 k2 cap2, .func (.func g) #[] lb] w fun e w' => ∃ v, e = .returned v ∧ TabS w' w.heap.size v (zEM M S mo) ∧ Below w.heap.size w w' := by
 have HN := hid hn
 have HH := hid H
 have HK2 := hid hk2
 have HH2 := hid H2
 have HS := hid hS
 have HMO := hid hmo
 have HML := hid hml
 have HCT := hid (fun (k : Nat) (hk : k < M.length) => zKI (M := M) (S := S) (mo := mo) hk)
 have HCL := hid (zHX M S mo)
 obtain ⟨C, hC⟩ := exq (zEM M S mo)
 rw [<- hC] at HCT HCL ⊢
 clear hn H hk2 H2 hS hmo hml hC
 go_enter Tryz.func220, Tryz.ntmps220
 go_wp2
 go_loopw [7, 15] (fun v i wr => ∃ k : Nat, k <= n ∧ i = .int .i64 k ∧ TabS wr w.heap.size v (C.take k) ∧ Below w.heap.size w wr) (fun _ i _ => n - (intOf i).toNat)
 case atStart => exact ⟨0, Nat.zero_le _, rfl, TabS.nil _ _, Below.refl _ _⟩
 case round =>
  obtain ⟨k, hk, rfl, ho, hbk⟩ := hrel
  obtain ⟨wo, hwo⟩ := exq (wr)
  subst hwo
  by_cases hlt : k < n
  ·have hkM : k < M.length := by rw [HN.out]; exact hlt
   obtain ⟨b, off, ra, rn, rc, rfl, hbs, hq0, hrn, hrm, hri⟩ := (HH.out.below hbk) k hkM
   have htk := HCT.out k hkM
   have hsr := HS.out M[k] (List.getElem_mem hkM)
   obtain ⟨r, hr⟩ := exq (M[k])
   rw [<- hr] at htk hsr hrn hri
   have hlen : (C.take k).length = k := by rw [List.length_take, HCL.out]; omega
   have HL := hid hlen
   have HTK := hid htk
   have HSR := hid hsr
   have HRN := hid hrn
   have HRI := hid hri
   have HO := hid ho
   have HBK := hid hbk
   obtain ⟨va, vc, hv⟩ : ∃ va vc, u7 = .slice va k vc := by
    obtain ⟨_, ho1, _⟩ := ho
    obtain ⟨a', c', e⟩ := zAC ho1
    exact ⟨a', c', by rw [e, hlen]⟩
   subst hv
   clear hr htk hsr hrn hri hkM ho hlen
   go_wp2
   go_loopw [10, 22] (fun v i wr => ∃ t : Nat, t <= k2 ∧ i = .int .i64 t ∧ wr.ownsRow wo.heap.size 3 1 v t (((S.take t).map (fun j => vec r j.toNat)).map (Value.int .i64)) ∧ Below wo.heap.size wo wr) (fun _ i _ => k2 - (intOf i).toNat)
   case atStart => exact ⟨0, Nat.zero_le _, rfl, World.ownsRow_nil _ _ _ _, Below.refl _ _⟩
   case round =>
    obtain ⟨t, ht, rfl, hown, hbt⟩ := hrel
    by_cases hlt2 : t < k2
    ·have htS : t < S.length := by rw [HK2.out]; exact hlt2
     obtain ⟨b2, off2, rfl, hbs2, hc2⟩ := (HH2.out.below (zAA HBK.out hbt)) t htS
     have hpp := HSR.out S[t] (List.getElem_mem htS)
     have hg2 : S[t]?.getD 0 = S[t] := by rw [List.getElem?_eq_getElem htS]; rfl
     rw [hg2] at hc2
     have htk2 : (S.take (t + 1)).map (fun j => vec r j.toNat) = (S.take t).map (fun j => vec r j.toNat) ++ [vec r (S[t]).toNat] := by
      rw [List.take_succ_eq_append_getElem htS, List.map_append]; rfl
     obtain ⟨q, hq⟩ : ∃ q : Nat, S[t] = q := ⟨(S[t]).toNat, by omega⟩
     rw [hq] at hc2 hpp htk2
     rw [show ((q : Int)).toNat = q by omega] at htk2
     have hqr : q < r.length := by omega
     obtain ⟨b3, off3, rfl, hbs3, hc3⟩ := (HRI.out.below hbt) q hqr
     have hqn : (q : Int) < (rn : Int) := by have := HRN.out; omega
     have hq0' : (0 : Int) <= (q : Int) := by omega
     obtain ⟨x, hx⟩ := exq (r[q]?.getD 0)
     have hxv : vec r q = x := hx.symm
     rw [<- hx] at hc3
     rw [hxv] at htk2
     obtain ⟨la, lc, rfl⟩ := zAC hown
     have HTK2 := hid htk2
     have HOW := hid hown
     have M1 := hid (show t + 1 <= maxLen by unfold maxLen; omega)
     have M2 := hid (show (t + 1) * 8 <= 140737488355328 by omega)
     have M3 := hid (Nat.le_trans hbt.size (zBY wr (.cells #[.int .i64 x] 3)))
     clear hpp hg2 htk2 hq hx hxv hown htS hqr
     go_wp2_with (at_builtin; refine zAN _ rfl (.tmp 26) (.tmp 31) 24 rfl wo.heap.size 3 (.int .i64 0) 1 8 Tryz.underlying24 zDR rfl Nat.one_pos (.slice la t lc) t _ rfl (HOW.out.alloc _) (some ⟨wr.heap.size, 0, none⟩) 1 1 [.int .i64 x] rfl rfl zBR (zBL wr _ _) (zDU _) M1.out M2.out M3.out ?_; refine Stop.of ?_)
     refine Stop.go ?_
     intro a3 c3 w3 own3 g3
     have hB3 : Below wo.heap.size wo w3 := (hbt.alloc hbt.size _).grown g3 M3.out (fun k hk => (HOW.out.lt k hk).1)
     go_wp2
     refine ⟨⟨t + 1, by omega, by go_num, ?_, hB3⟩, by simp [intOf]; omega⟩
     rw [HTK2.out]
     simpa using own3
    ·obtain rfl : t = k2 := by omega
     rw [List.take_of_length_le (by rw [HK2.out]; exact Nat.le_refl _)] at hown
     obtain ⟨la, lc, rfl⟩ := zAC hown
     have HMK := hid (HMO.out k wr hlt (zAA HBK.out hbt))
     have HOW := hid hown
     have hml := HML.out k hlt
     obtain ⟨m, hm⟩ := exq (mo k)
     rw [<- hm] at hml HMK HTK
     obtain ⟨ml, hmle⟩ := exq (m.length)
     rw [<- hmle] at hml HMK
     have HME := hid hmle
     clear hown hm hmle
     go_wp2_with (refine HMK.out.mono ?_; rintro e w2 ⟨ma, mc, rfl, hmi, hb2⟩; refine Stop.of ?_)
     refine Stop.go ?_
     have HO2 := hid (zBI HOW.out hb2)
     have HMI := hid hmi
     have HB2 := hid (zAA hbt hb2)
     have N1 := hid (show t + ml <= maxLen by unfold maxLen; omega)
     have N2 := hid (show (t + ml) * 8 <= 140737488355328 by omega)
     have N3 := hid (show wo.heap.size <= w2.heap.size from HB2.out.size)
     have N4 := hid (show (m.map (Value.int .i64)).length = ml * 1 by rw [List.length_map, HME.out]; omega)
     have N5 := hid (show ma = none -> ml = 0 from fun h => by rw [HME.out]; exact zMC hmi h)
     have N6 := hid (zMD hmi)
     clear hmi hb2 hbt
     go_wp2_with (at_builtin; refine zAN _ rfl (.tmp 35) (.tmp 38) 24 rfl wo.heap.size 3 (.int .i64 0) 1 8 Tryz.underlying24 zDR rfl Nat.one_pos (.slice la t lc) t _ rfl HO2.out ma ml mc (m.map (Value.int .i64)) rfl N4.out N5.out N6.out (zKV _) N1.out N2.out N3.out ?_; refine Stop.of ?_)
     refine Stop.go ?_
     intro a3 c3 w3 own3 g3
     have hB3 : Below wo.heap.size wo w3 := HB2.out.grown g3 N3.out (fun k hk => (HO2.out.lt k hk).1)
     rw [<- List.map_map, <- List.map_append] at own3
     obtain ⟨X, hX⟩ := exq (S.map (fun j => vec r j.toNat) ++ m)
     rw [<- hX] at own3 HTK
     have hXl : X.length = t + ml := by rw [hX, List.length_append, List.length_map, HK2.out, HME.out]
     have hsr := zOG own3 hXl
     have HXL := hid hXl
     obtain ⟨vs, ho0, he⟩ := HO.out
     have HO0 := hid ho0
     have ho := ho0
     rw [HL.out] at ho
     have hb2a : Below wo.heap.size wo (w3.alloc (.cells #[.slice a3 (t + ml) c3] 24)) := hB3.alloc hB3.size _
     have M1 := hid (show k + 1 <= maxLen by unfold maxLen; omega)
     have M2 := hid (show (k + 1) * 24 <= 140737488355328 by omega)
     have M3 := hid (Nat.le_trans HBK.out.size hb2a.size)
     have HO2' := hid (zBI ho hb2a)
     have HE := hid he
     have HSR2 := hid (hsr.below ((Below.refl _ w3).alloc (Nat.le_refl _) (.cells #[.slice a3 (t + ml) c3] 24)))
     have HB2' := hid hb2a
     have HOO := hid ho
     clear he hsr hb2a ho ho0 own3 hX hXl hml hB3 g3
     go_wp2_with (at_builtin; refine zAN _ rfl (.tmp 34) (.tmp 40) 22 rfl w.heap.size 24 (.slice none 0 0) 1 24 Tryz.underlying22 zHV rfl Nat.one_pos (.slice va k vc) k vs rfl HO2'.out (some ⟨w3.heap.size, 0, none⟩) 1 1 [.slice a3 (t + ml) c3] rfl rfl zBR (zBL w3 _ _) (zCH _ _ _) M1.out M2.out M3.out ?_; refine Stop.of ?_)
     refine Stop.go ?_
     intro a5 c5 w5 own5 g5
     have hsn : TabS w5 w.heap.size (.slice a5 (k + 1) c5) (C.take k ++ [X]) := TabS.snoc HO0.out HE.out HB2'.out HSR2.out g5 (by rw [HL.out]; exact own5)
     have hB5 : Below w.heap.size w w5 := (HBK.out.trans (HB2'.out.mono HBK.out.size)).grown g5 M3.out (fun q hq => (HO2'.out.lt q hq).1)
     rw [<- HTK.out] at hsn
     go_wp2
     exact ⟨⟨k + 1, by omega, by go_num, hsn, hB5⟩, by simp [intOf]; omega⟩
  ·obtain rfl : k = n := by omega
   rw [List.take_of_length_le (by rw [HCL.out, HN.out]; exact Nat.le_refl _)] at ho
   go_wp2
   go_ret
   exact ⟨_, rfl, ho, hbk⟩
end
section
open Go.RowKit
def ascB (l : List Int) : Bool := decide (∀ i, i < l.length - 1 -> l[i]?.getD 0 < l[i + 1]?.getD 0)
def zDQ (W : Nat) (l : List Int) : Int := if ascB l = true then (if l.all (fun p => inB p 0 ((W : Int) - 1)) = true then 0 else 5) else 7
def pixE (M : Mask) (l : List Int) : Int := if okM M = true then zDQ (zAF M) l else 1
theorem asc_pair {l : List Int} (h : ascB l = true) : l.Pairwise (· < ·) := by
 have h1 : ∀ i, i < l.length - 1 -> l[i]?.getD 0 < l[i + 1]?.getD 0 := of_decide_eq_true h
 have h2 : ∀ d i, i + d + 1 < l.length -> l[i]?.getD 0 < l[i + d + 1]?.getD 0 := by
  intro d
  induction d with
  | zero => intro i hi; exact h1 i (by omega)
  | succ d ih => intro i hi; exact Int.lt_trans (ih i (by omega)) (h1 (i + d + 1) (by omega))
 rw [List.pairwise_iff_getElem]
 intro i j hi hj hij
 have := h2 (j - i - 1) i (by omega)
 rw [show i + (j - i - 1) + 1 = j by omega, List.getElem?_eq_getElem hi, List.getElem?_eq_getElem hj] at this
 exact this
theorem pair_asc {l : List Int} (h : l.Pairwise (· < ·)) : ascB l = true := by
 refine decide_eq_true fun i hi => ?_
 rw [List.getElem?_eq_getElem (by omega), List.getElem?_eq_getElem (by omega)]
 exact List.pairwise_iff_getElem.1 h i (i + 1) (by omega) (by omega) (by omega)
theorem asc_no {l : List Int} {k : Nat} (hk : k + 1 < l.length) (h : ¬ l[k]?.getD 0 < l[k + 1]?.getD 0) : ascB l = false := decide_eq_false fun h1 => h (h1 k (by omega))
theorem asc_yes {l : List Int} (h : ∀ i, i + 1 < l.length -> l[i]?.getD 0 < l[i + 1]?.getD 0) : ascB l = true := decide_eq_true fun i hi => h i (by omega)
theorem named_ok {W : Nat} {l : List Int} (h : zDQ W l = 0) : zCP W l := by
 unfold zDQ at h
 split at h
 ·rename_i h1
  split at h
  ·rename_i h2
   refine ⟨asc_pair h1, fun y hy => ?_⟩
   have := List.all_eq_true.1 h2 y hy
   unfold inB at this
   simp only [Bool.and_eq_true, decide_eq_true_eq] at this
   omega
  ·omega
 ·omega
theorem named1 (w : World) (b : Nat) (m : Int) (hm : 0 <= m ∧ m <= 1000000000) (hc : w.cell? ⟨b, 0, none⟩ = some (.int .i64 m)) (hb : b < w.heap.size) :
 PredI Tryz.prog 248 #[.pointer (some ⟨b, 0, none⟩)] w (fun n => !(inB n 0 (m - 1))) := by
 intro x W hW
 have hc' : W.cell? ⟨b, 0, none⟩ = some (.int .i64 m) := (hW.cell (p := ⟨b, 0, none⟩) hb).trans hc
 obtain ⟨z, hz⟩ := exq (m - 1)
 have hw : IntKind.i64.wrap (m - 1) = z := by rw [hz]; exact IntWalk.i64_in _ (by omega)
 rw [<- hz]
 obtain ⟨B, hB⟩ := exq (inB x 0 z)
 have HP := hid (zGK x 0 z W)
 rw [<- hB] at HP
 simp only [<- hB]
 clear hB hc hz
 show Calls Tryz.prog 248 #[.int .i64 x, .pointer (some ⟨b, 0, none⟩)] W _
 go_enter Tryz.func248, Tryz.ntmps248
 go_wp2_with (go_at_call 88; refine HP.out.mono ?_; rintro e w1 ⟨rfl, rfl⟩)
 go_ret
 exact ⟨rfl, Below.refl _ _⟩
theorem named_c (w : World) (W : Nat) (hW : W <= 1000) (a : Option Addr) (n cap : Nat) (l : List Int) (hn : l.length = n) (hm : n <= maxLen) (H : zAK w a l) :
 Calls Tryz.prog 213 #[.int .i64 W, .slice a n cap] w fun e w' => e = .returned (.int .i64 (zDQ W l)) ∧ Below w.heap.size w w' := by
 have HN := hid hn
 have HH := hid (fun (X : World) (hX : Below w.heap.size w X) => H.below hX)
 obtain ⟨E, hE⟩ := exq (zDQ W l)
 rw [<- hE]
 have HE := hid hE
 clear hn H hE
 have hm' : n <= 9223372036854775807 := by unfold maxLen at hm; omega
 go_enter Tryz.func213, Tryz.ntmps213
 obtain ⟨w1, hw1⟩ := exq (w.alloc (.cells #[.int .i64 W] 3))
 have hb1 : Below w.heap.size w w1 := by rw [hw1]; exact (Below.refl _ _).alloc (Nat.le_refl _) _
 have hc1 : w1.cell? ⟨w.heap.size, 0, none⟩ = some (.int .i64 W) := by rw [hw1, World.cell?_alloc_at _ _ _ _ rfl]; rfl
 have hs1 : w.heap.size < w1.heap.size := by rw [hw1]; simp
 have HB1 := hid hb1
 have HC1 := hid hc1
 have HW1 := hid hw1
 clear hb1 hc1 hw1
 go_wp2
 try rw [<- HW1.out]
 go_loopw [9] (fun i wr => ∃ k : Nat, k <= n ∧ i = .int .i64 k ∧ wr = w1 ∧ Hid (∀ i, i + 1 < k -> l[i]?.getD 0 < l[i + 1]?.getD 0)) (fun i _ => n - (intOf i).toNat)
 case atStart => exact ⟨0, Nat.zero_le _, rfl, by first | exact HW1.out.symm | rfl, hid (fun i h => by omega)⟩
 case round =>
  obtain ⟨k, hk, rfl, rfl, HNO⟩ := hrel
  by_cases hlt : k < n
  ·have hkl : k < l.length := by rw [HN.out]; exact hlt
   obtain ⟨b, off, rfl, hbs, hc⟩ := (HH.out wr HB1.out) k hkl
   rcases Nat.eq_zero_or_pos k with h0 | h0
   ·subst h0
    obtain ⟨x, hx⟩ := exq (l[0]?.getD 0)
    rw [<- hx, Nat.add_zero] at hc
    clear hx hkl
    go_wp2
    exact ⟨⟨1, by omega, by go_num, by first | trivial | rfl, hid (fun i h => by omega)⟩, by simp [intOf]; omega⟩
   ·obtain ⟨p, rfl⟩ : ∃ p, k = p + 1 := ⟨k - 1, by omega⟩
    obtain ⟨b', off', e', _, hc2⟩ := (HH.out wr HB1.out) p (by omega)
    cases e'
    have hpi : ((p + 1 : Nat) : Int) - 1 = (p : Int) := by omega
    have hpn : (p : Int) < (n : Int) := by omega
    have hpp : (0 : Int) < ((p + 1 : Nat) : Int) := by omega
    have HNO2 := hid (fun (h : ¬ l[p]?.getD 0 < l[p + 1]?.getD 0) => asc_no (by rw [HN.out]; exact hlt) h)
    have HNX := hid (fun (h : l[p]?.getD 0 < l[p + 1]?.getD 0) => (show ∀ i, i + 1 < p + 1 + 1 -> l[i]?.getD 0 < l[i + 1]?.getD 0 from fun i hi => by
     rcases Nat.lt_or_ge i p with h1 | h1
     ·exact HNO.out i (by omega)
     ·have : i = p := by omega
      subst this; exact h))
    obtain ⟨x, hx⟩ := exq (l[p + 1]?.getD 0)
    obtain ⟨y, hy⟩ := exq (l[p]?.getD 0)
    rw [<- hx] at hc HNO2 HNX
    rw [<- hy] at hc2 HNO2 HNX
    clear hx hy hkl
    by_cases hle : x <= y
    ·have HA := hid (HNO2.out (by omega))
     obtain rfl : E = 7 := by rw [HE.out]; unfold zDQ; rw [HA.out]; rfl
     go_wp2
     go_ret
     exact ⟨rfl, HB1.out⟩
    ·have HX := hid (HNX.out (by omega))
     go_wp2
     exact ⟨⟨p + 1 + 1, by omega, by go_num, by first | trivial | rfl, HX⟩, by simp [intOf]; omega⟩
  ·obtain rfl : n = k := by omega
   have HA := hid (asc_yes (l := l) (fun i hi => HNO.out i (by rw [<- HN.out]; exact hi)))
   have HCF := hid (zMK wr a n cap l HN.out hm (HH.out wr HB1.out) 248 #[.pointer (some ⟨w.heap.size, 0, none⟩)] (fun p => !(inB p 0 ((W : Int) - 1))) (enters_of Tryz.func248 (by kernel_rfl) rfl) (named1 wr w.heap.size W (by omega) HC1.out hs1))
   have hany : l.any (fun p => !(inB p 0 ((W : Int) - 1))) = !(l.all (fun p => inB p 0 ((W : Int) - 1))) := by rw [List.not_all_eq_any_not]
   rw [hany] at HCF
   have hee := HE.out
   unfold zDQ at hee
   rw [if_pos HA.out] at hee
   clear hany HNO
   cases hall : l.all (fun p => inB p 0 ((W : Int) - 1))
   ·rw [hall] at HCF hee
    obtain rfl : E = 5 := hee
    clear hall
    go_wp2_with (go_at_call 105; refine HCF.out.mono ?_; rintro e w3 ⟨rfl, hb3⟩)
    go_ret
    exact ⟨rfl, zAA HB1.out hb3⟩
   ·rw [hall] at HCF hee
    obtain rfl : E = 0 := hee
    clear hall
    go_wp2_with (go_at_call 105; refine HCF.out.mono ?_; rintro e w3 ⟨rfl, hb3⟩)
    go_ret
    exact ⟨rfl, zAA HB1.out hb3⟩
theorem pixels_c (w : World) (a a2 : Option Addr) (n cap n2 cap2 : Nat) (M : Mask) (l : List Int) (hn : M.length = n) (hn2 : l.length = n2) (hm : n <= maxLen) (hm2 : n2 <= maxLen) (H : zAO w a M) (H2 : zAK w a2 l) :
 Calls Tryz.prog 163 #[.slice a n cap, .slice a2 n2 cap2] w fun e w' => e = .returned (.int .i64 (pixE M l)) ∧ Below w.heap.size w w' := by
 have HV := hid (zHU w a n cap M hn hm H)
 cases hok : okM M
 ·rw [hok] at HV
  have he : pixE M l = 1 := by unfold pixE; rw [hok]; rfl
  rw [he]
  clear hn hn2 H H2 hok he
  go_enter Tryz.func163, Tryz.ntmps163
  go_wp2_with (go_at_call 79; refine HV.out.mono ?_; rintro e w1 ⟨rfl, hb1⟩)
  go_ret
  exact ⟨rfl, hb1⟩
 ·rw [hok] at HV
  have he : pixE M l = zDQ (zAF M) l := by unfold pixE; rw [if_pos hok]
  rw [he]
  obtain ⟨hM, h1, h6, hc1, hc10⟩ := zCR hok
  obtain ⟨b, off, ra, rc, rfl, hb, hc⟩ := zDA H (by omega)
  have hz : (0 : Int) < (n : Int) := by omega
  obtain ⟨W, hW⟩ := exq (zAF M)
  rw [<- hW] at hc hc1 hc10 ⊢
  have HS := hid (fun (X : World) (hX : Below w.heap.size w X) => (hX.cell (p := ⟨b, off, none⟩) hb).trans hc)
  have HNM := hid (fun (X : World) (hX : Below w.heap.size w X) => named_c X W (by omega) a2 n2 cap2 l hn2 hm2 (H2.below hX))
  obtain ⟨E, hE⟩ := exq (zDQ W l)
  rw [<- hE] at HNM ⊢
  clear hn hn2 H H2 hok he hM hW hE hc hb
  go_enter Tryz.func163, Tryz.ntmps163
  go_wp2_with (go_at_call 79; refine HV.out.mono ?_; rintro e w1 ⟨rfl, hb1⟩; refine Stop.of ?_)
  refine Stop.go ?_
  have hc1' := HS.out w1 hb1
  have HB1 := hid hb1
  clear hb1
  go_wp2_with (go_at_call 213; refine (HNM.out w1 HB1.out).mono ?_; rintro e w2 ⟨rfl, hb2⟩)
  go_ret
  exact ⟨rfl, zAA HB1.out hb2⟩
theorem pix_ok {M : Mask} {l : List Int} (h : pixE M l = 0) : okM M = true ∧ zCP (zAF M) l := by
 unfold pixE at h
 split at h
 ·rename_i h1; exact ⟨h1, named_ok h⟩
 ·omega
theorem set_le {W : Nat} {l : List Int} (h : zCP W l) : l.length <= W := by
 have h1 : (l.map Int.toNat).Pairwise (· < ·) := by
  rw [List.pairwise_map]
  refine h.1.imp_of_mem fun {a b} ha hb hab => ?_
  have := h.2 a ha
  have := h.2 b hb
  omega
 have := zNU (a := 0) (b := W) h1 (fun x hx => by
  obtain ⟨y, hy, rfl⟩ := List.mem_map.1 hx
  have := h.2 y hy
  omega)
 rw [List.length_map] at this
 omega
end
section
open Go.RowKit
theorem zOL (w : World) (a : Option Addr) (n cap : Nat) (l : List Int) (hn : l.length = n) (hm : n <= maxLen) (H : zAK w a l) :
 Calls Tryz.prog 173 #[.slice a n cap] w fun e w' => e = .returned (.bool (ascB l)) ∧ ∃ k, w' = w.drewN k := by
 have HN := hid hn
 have HH := hid H
 obtain ⟨E, hE⟩ := exq (ascB l)
 rw [<- hE]
 have HE := hid hE
 clear hn H hE
 have hm' : n <= 9223372036854775807 := by unfold maxLen at hm; omega
 go_enter Tryz.func173, Tryz.ntmps173
 go_wp2
 go_loopw [3] (fun i wr => ∃ k : Nat, 1 <= k ∧ (k <= n ∨ k = 1) ∧ i = .int .i64 k ∧ (∃ q, wr = w.drewN q) ∧ Hid (∀ i, i + 1 < k -> l[i]?.getD 0 < l[i + 1]?.getD 0)) (fun i _ => n - (intOf i).toNat)
 case atStart => exact ⟨1, Nat.le_refl _, .inr rfl, rfl, ⟨0, rfl⟩, hid (fun i h => by omega)⟩
 case round =>
  obtain ⟨k, hk1, hk, rfl, ⟨q, rfl⟩, HNO⟩ := hrel
  by_cases hlt : k < n
  ·obtain ⟨p, rfl⟩ : ∃ p, k = p + 1 := ⟨k - 1, by omega⟩
   obtain ⟨b, off, rfl, hbs, hc⟩ := HH.out (p + 1) (by rw [HN.out]; exact hlt)
   obtain ⟨b', off', e', _, hc2⟩ := HH.out p (by rw [HN.out]; omega)
   cases e'
   have hpi : ((p + 1 : Nat) : Int) - 1 = (p : Int) := by omega
   have hpn : (p : Int) < (n : Int) := by omega
   have HNO2 := hid (fun (h : ¬ l[p]?.getD 0 < l[p + 1]?.getD 0) => asc_no (by rw [HN.out]; exact hlt) h)
   have HNX := hid (fun (h : l[p]?.getD 0 < l[p + 1]?.getD 0) => (show ∀ i, i + 1 < p + 1 + 1 -> l[i]?.getD 0 < l[i + 1]?.getD 0 from fun i hi => by
    rcases Nat.lt_or_ge i p with h1 | h1
    ·exact HNO.out i (by omega)
    ·have : i = p := by omega
     subst this; exact h))
   obtain ⟨x, hx⟩ := exq (l[p + 1]?.getD 0)
   obtain ⟨y, hy⟩ := exq (l[p]?.getD 0)
   rw [<- hx] at hc HNO2 HNX
   rw [<- hy] at hc2 HNO2 HNX
   clear hx hy
   by_cases hle : x <= y
   ·have HA := hid (HNO2.out (by omega))
    obtain rfl : E = false := HE.out.trans HA.out
    clear HNO2 HNX
    go_wp2
    go_quiet (fail)
    go_wp2
    go_ret
    exact ⟨rfl, _, zMJ _ _ _⟩
   ·have HX := hid (HNX.out (by omega))
    clear HNO2 HNX
    go_wp2
    go_quiet (fail)
    go_wp2
    exact ⟨⟨p + 1 + 1, by omega, .inl (by omega), by go_num, ⟨_, rfl⟩, HX⟩, by simp [intOf]; omega⟩
  ·obtain rfl : E = true := HE.out.trans (asc_yes fun i hi => HNO.out i (by have := HN.out; omega))
   go_wp2
   go_ret
   exact ⟨rfl, _, rfl⟩
theorem r3Named_c (w : World) (a a2 : Option Addr) (n cap n2 cap2 : Nat) (M : Mask) (l : List Int) (hn : M.length = n) (hn2 : l.length = n2) (hm2 : n2 <= maxLen) (H : zAO w a M) (H2 : zAK w a2 l) (hok : okM M = true) :
 Calls Tryz.prog 115 #[.slice a n cap, .slice a2 n2 cap2] w fun e w' => e = .returned (.int .i64 (zDQ (zAF M) l)) ∧ ∃ k, w' = w.drewN k := by
 obtain ⟨hM, h1, h6, hc1, hc10⟩ := zCR hok
 obtain ⟨b, off, ra, rc, rfl, hb, hc⟩ := zDA H (by omega)
 have hz : (0 : Int) < (n : Int) := by omega
 have HAS := hid (zOL w a2 n2 cap2 l hn2 hm2 H2)
 obtain ⟨W, hW⟩ := exq (zAF M)
 rw [<- hW] at hc hc1 hc10 ⊢
 have hc0 : w.cell? ⟨b, off, none⟩ = some (.slice ra W rc) := hc
 obtain ⟨E, hE⟩ := exq (zDQ W l)
 rw [<- hE]
 have HE := hid hE
 have HN2 := hid hn2
 have HII := hid H2
 obtain ⟨Wm, hWm⟩ := exq ((W : Int) - 1)
 have hwm : IntKind.i64.wrap ((W : Int) - 1) = Wm := by rw [hWm]; exact IntWalk.i64_in _ (by omega)
 have HWM := hid hWm
 have hm' : n2 <= 9223372036854775807 := by unfold maxLen at hm2; omega
 clear hn hn2 H H2 hok hM hW hc hE hWm h1 h6
 go_enter Tryz.func115, Tryz.ntmps115
 cases has : ascB l
 ·rw [has] at HAS
  obtain rfl : E = 7 := by rw [HE.out]; unfold zDQ; rw [has]; rfl
  clear has
  go_wp2_with (go_at_call 173; refine HAS.out.mono ?_; rintro e w1 ⟨rfl, k1, rfl⟩)
  go_ret
  exact ⟨rfl, k1, rfl⟩
 ·rw [has] at HAS
  have HEE := hid (show E = if l.all (fun p => inB p 0 Wm) = true then 0 else 5 by rw [HE.out, HWM.out]; unfold zDQ; rw [if_pos has])
  clear has
  go_wp2_with (go_at_call 173; refine HAS.out.mono ?_; rintro e w1 ⟨rfl, k1, rfl⟩; refine Stop.of ?_)
  refine Stop.go ?_
  go_wp2
  go_loopw [12] (fun i wr => ∃ k : Nat, k <= n2 ∧ i = .int .i64 k ∧ (∃ q, wr = w.drewN q) ∧ Hid (∀ j (hj : j < l.length), j < k -> inB l[j] 0 Wm = true)) (fun i _ => n2 - (intOf i).toNat)
  case atStart => exact ⟨0, Nat.zero_le _, rfl, ⟨k1, rfl⟩, hid (fun j _ h => by omega)⟩
  case round =>
   obtain ⟨k, hk, rfl, ⟨q, rfl⟩, HNO⟩ := hrel
   by_cases hlt : k < n2
   ·have hkl : k < l.length := by rw [HN2.out]; exact hlt
    obtain ⟨b5, o5, rfl, hbs, hc5⟩ := HII.out k hkl
    have hg : l[k]?.getD 0 = l[k] := by rw [List.getElem?_eq_getElem hkl]; rfl
    rw [hg] at hc5
    have HST := hid (fun (h : inB l[k] 0 Wm = false) => (zHO (p := fun n : Int => inB n 0 Wm) hkl h))
    have HNX := hid (fun (h : inB l[k] 0 Wm = true) => (show ∀ j (hj : j < l.length), j < k + 1 -> inB l[j] 0 Wm = true from fun j hj hlt => by
     rcases Nat.lt_or_ge j k with h1 | h1
     ·exact HNO.out j hj h1
     ·have : j = k := by omega
      subst this; exact h))
    obtain ⟨x, hx⟩ := exq (l[k])
    rw [<- hx] at hc5 HST HNX
    obtain ⟨B, hB⟩ := exq (inB x 0 Wm)
    have HW := hid (fun (W : World) => zHC x 0 Wm W)
    rw [<- hB] at HW HST HNX
    clear hg hx hkl hB
    cases B
    ·obtain rfl : E = 5 := by rw [HEE.out, HST.out rfl]; rfl
     clear HST HNX
     go_wp2_with (go_at_call 174; refine (HW.out _).mono ?_; rintro e w1 ⟨rfl, rfl⟩)
     go_ret
     exact ⟨rfl, _, rfl⟩
    ·have HX := hid (HNX.out rfl)
     clear HST HNX
     go_wp2_with (go_at_call 174; refine (HW.out _).mono ?_; rintro e w1 ⟨rfl, rfl⟩)
     exact ⟨⟨k + 1, by omega, by go_num, ⟨q, rfl⟩, HX⟩, by simp [intOf]; omega⟩
   ·obtain rfl : E = 0 := by
     rw [HEE.out, zJC (p := fun n : Int => inB n 0 Wm) (fun j hj => HNO.out j hj (by have := HN2.out; omega))]; rfl
    go_wp2
    go_ret
    exact ⟨rfl, _, rfl⟩
end
end
end Go.Proofs.YtlffndehhhpgjaaGreat
