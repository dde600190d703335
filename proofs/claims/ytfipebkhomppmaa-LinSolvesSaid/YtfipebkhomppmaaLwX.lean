/- Walks of reference 03: what stands while rows are reduced. -/
import Derived.Test.YtfipebkhomppmaaLwW
import Derived.Test.YtfipebkhomppmaaLinH
namespace Go.Proofs.Ytfipebkhomppmaa
open Go.RowKit
set_option linter.unusedVariables false

/-- which of some rows is the last with ..; -1 if none -/
def lastI {α : Type} (p : α → Bool) (l : List α) : Int := match lastIx p l with | none => -1 | some a => (a : Int)
theorem lastI_snoc {α : Type} (p : α → Bool) (l : List α) (y : α) : lastI p (l ++ [y]) = if p y = true then (l.length : Int) else lastI p l := by
  unfold lastI
  rw [lastIx_snoc]
  by_cases h : p y = true
  · rw [if_pos h, if_pos h]
  · rw [if_neg h, if_neg h]
theorem lastI_take {α : Type} (p : α → Bool) {l : List α} {k : Nat} (hk : k < l.length) : lastI p (l.take (k + 1)) = if p l[k] = true then (k : Int) else lastI p (l.take k) := by
  rw [List.take_succ_eq_append_getElem hk, lastI_snoc, List.length_take, Nat.min_eq_left (by omega)]

theorem rStep_nil {s : RS} (h : s.left = []) (j : Nat) : rStep s j = s := by unfold rStep; rw [h]; rfl
theorem rStep_none {s : RS} {j : Nat} (h : lastIx (nz j) s.left = none) : rStep s j = s := by unfold rStep; rw [h]
theorem rStep_some {s : RS} {j a : Nat} (h : lastIx (nz j) s.left = some a) : rStep s j = ⟨(s.left.eraseIdx a).map (withoutF (posF (s.left[a]?.getD []) j) j), s.done.map (withoutF (posF (s.left[a]?.getD []) j) j) ++ [posF (s.left[a]?.getD []) j], s.piv ++ [j]⟩ := by unfold rStep; rw [h]
theorem rRed_stop {L : List (List Int)} {j : Nat} (h : (rRed L j).left = []) : ∀ d, rRed L (j + d) = rRed L j
  | 0 => rfl
  | d + 1 => by rw [← Nat.add_assoc, rRed_succ, rRed_stop h d, rStep_nil h]

/-- the rows but one, so far -/
def restT (f : List Int → List Int) (l : List (List Int)) (a k : Nat) : List (List Int) := ((l.take k).eraseIdx a).map f
theorem restT_ne {f : List Int → List Int} {l : List (List Int)} {a k : Nat} (hk : k < l.length) (h : k ≠ a) : restT f l a (k + 1) = restT f l a k ++ [f l[k]] := by
  unfold restT
  rw [List.take_succ_eq_append_getElem hk]
  have hlk : (l.take k).length = k := by rw [List.length_take]; omega
  rcases Nat.lt_or_ge a k with h1 | h1
  · rw [List.eraseIdx_append_of_lt_length (by omega), List.map_append]; rfl
  · rw [List.eraseIdx_append_of_length_le (by omega), hlk, List.eraseIdx_of_length_le (l := l.take k) (by omega), List.map_append]
    have : a - k = (a - k - 1) + 1 := by omega
    rw [this]; rfl
theorem restT_eq {f : List Int → List Int} {l : List (List Int)} {a : Nat} (hk : a < l.length) : restT f l a (a + 1) = restT f l a a := by
  unfold restT
  rw [List.take_succ_eq_append_getElem hk]
  have hlk : (l.take a).length = a := by rw [List.length_take]; omega
  rw [List.eraseIdx_append_of_length_le (by omega), hlk, Nat.sub_self, List.eraseIdx_of_length_le (l := l.take a) (by omega)]
  simp
theorem restT_len (f : List Int → List Int) (l : List (List Int)) (a k : Nat) : (restT f l a k).length ≤ k := by
  unfold restT
  have h1 := List.length_eraseIdx_le (l.take k) a
  rw [List.length_map]
  have h2 := List.length_take_le k l
  omega
theorem restT_zero (f : List Int → List Int) (l : List (List Int)) (a : Nat) : restT f l a 0 = [] := by simp [restT]
theorem restT_all {f : List Int → List Int} {l : List (List Int)} {a k : Nat} (h : l.length = k) : restT f l a k = (l.eraseIdx a).map f := by
  unfold restT; rw [List.take_of_length_le (by omega)]
/-- the rows done so far -/
def doneT (f : List Int → List Int) (l : List (List Int)) (k : Nat) : List (List Int) := (l.take k).map f ++ l.drop k
theorem doneT_len (f : List Int → List Int) (l : List (List Int)) (k : Nat) : (doneT f l k).length = l.length := by
  unfold doneT; simp; omega
theorem doneT_at {f : List Int → List Int} {l : List (List Int)} {k : Nat} (hk : k < l.length) : (doneT f l k)[k]?.getD [] = l[k] := by
  unfold doneT
  rw [List.getElem?_append_right (by simp; omega)]
  simp [hk, Nat.min_eq_left (Nat.le_of_lt hk)]
theorem doneT_succ {f : List Int → List Int} {l : List (List Int)} {k : Nat} (hk : k < l.length) : doneT f l (k + 1) = (doneT f l k).set k (f l[k]) := by
  unfold doneT
  rw [List.set_append_right _ _ (by simp; omega), List.take_succ_eq_append_getElem hk, List.map_append]
  have : k - ((l.take k).map f).length = 0 := by simp; omega
  have e : l.drop k = l[k] :: l.drop (k + 1) := List.drop_eq_getElem_cons hk
  rw [this, e, List.set_cons_zero, List.append_assoc]
  rfl
theorem doneT_zero (f : List Int → List Int) (l : List (List Int)) : doneT f l 0 = l := by simp [doneT]
theorem doneT_all {f : List Int → List Int} {l : List (List Int)} {k : Nat} (h : l.length = k) : doneT f l k = l.map f := by
  unfold doneT; rw [List.take_of_length_le (by omega), List.drop_eq_nil_of_le (by omega), List.append_nil]

def castL (l : List Nat) : List Int := l.map (fun j : Nat => (j : Int))
/-- what stands at the head of a column -/
def RedI (w wr : World) (L : List (List Int)) (j : Nat) (l d p : Value) : Prop :=
  TabN p.ownBlock wr w.heap.size l (rRed L j).left ∧ TabN p.ownBlock wr w.heap.size d (rRed L j).done ∧ wr.ownsRow w.heap.size 3 1 p (rRed L j).piv.length ((castL (rRed L j).piv).map (Value.int .i64)) ∧ Below w.heap.size w wr
/-- what stands once the pivot's row is chosen -/
structure RedS (w : World) (R0 : Nat) (wr : World) (l d r q p : Value) (left done rest : List (List Int)) (P : List Int) (J : List Nat) : Prop where
  hl : TabN p.ownBlock wr w.heap.size l left
  hd : TabN p.ownBlock wr w.heap.size d done
  hr : TabN p.ownBlock wr R0 r rest
  hq : RowN p.ownBlock wr q P
  hp : wr.ownsRow w.heap.size 3 1 p J.length ((castL J).map (Value.int .i64))
  hb : Below w.heap.size w wr
  hR : R0 ≤ wr.heap.size
  hw : w.heap.size ≤ R0
  lR : ∀ k, l.ownBlock = some k → k < R0
  dR : ∀ k, d.ownBlock = some k → k < R0
  pR : ∀ k, p.ownBlock = some k → k < R0
theorem RedS.below {w : World} {R0 : Nat} {A B : World} {l d r q p : Value} {left done rest : List (List Int)} {P : List Int} {J : List Nat} (h : RedS w R0 A l d r q p left done rest P J) (hb : Below A.heap.size A B) : RedS w R0 B l d r q p left done rest P J :=
  ⟨h.hl.below hb, h.hd.below hb, h.hr.below hb, h.hq.keep (KeepN.below hb), own_below h.hp hb, chain h.hb hb, Nat.le_trans h.hR hb.size, h.hw, h.lR, h.dR, h.pR⟩
theorem TabN.lt {N : Option Nat} {W : World} {base : Nat} {v : Value} {L : List (List Int)} (h : TabN N W base v L) {k : Nat} (hk : v.ownBlock = some k) : k < W.heap.size := (h.type hk).2.1
/-- the rest begins -/
theorem RedS.start {w wr : World} {L : List (List Int)} {j : Nat} {l d p q : Value} {P : List Int} (h : RedI w wr L j l d p) (hq : RowN p.ownBlock wr q P) : RedS w wr.heap.size wr l d (.slice none 0 0) q p (rRed L j).left (rRed L j).done [] P (rRed L j).piv :=
  ⟨h.1, h.2.1, TabN.nil _ _ _, hq, h.2.2.1, h.2.2.2, Nat.le_refl _, h.2.2.2.size, fun k hk => h.1.lt hk, fun k hk => h.2.1.lt hk, fun k hk => by
    obtain ⟨_, c, hc⟩ := own_type h.2.2.1 hk
    exact (Array.getElem?_eq_some_iff.1 hc).1⟩
/-- a row more in the rest -/
theorem RedS.push {w : World} {R0 : Nat} {A B : World} {l d r q p u r' : Value} {left done rest : List (List Int)} {P x : List Int} {J : List Nat} {vs : List Value} (h : RedS w R0 A l d r q p left done rest P J)
    (h1 : A.ownsRow R0 31 1 r rest.length vs) (h2 : ∀ j (hj : j < rest.length), ∃ u, vs[j]? = some u ∧ RowN p.ownBlock A u rest[j]) (hu : RowN p.ownBlock A u x) (hg : A.grownBy B r.ownBlock)
    (ho : B.ownsRow R0 31 1 r' (rest.length + 1) (vs ++ [u])) : RedS w R0 B l d r' q p left done (rest ++ [x]) P J := by
  have hge : ∀ k, r.ownBlock = some k → R0 ≤ k := fun k hk => (own_type h1 hk).1
  have hgt : ∀ k, r.ownBlock = some k → ∃ c, A.heap[k]? = some (.cells c 31 (0, 0)) := fun k hk => (own_type h1 hk).2
  have hk : ∀ k, k < A.heap.size → r.ownBlock ≠ some k → B.heap[k]? = A.heap[k]? := fun k hlt hne => hg.block k hlt fun e => hne e.symm
  have hK : KeepN p.ownBlock A B := fun k c hc _ => hk k (Array.getElem?_eq_some_iff.1 hc).1 fun e => by
    obtain ⟨c2, h2⟩ := hgt k e
    rw [h2] at hc; cases hc
  refine ⟨h.hl.beside hk hgt fun k e e2 => ?_, h.hd.beside hk hgt fun k e e2 => ?_, TabN.snoc h1 h2 hu hg ho, h.hq.keep hK, own_kept h.hp fun k e hlt => hk k hlt fun e2 => ?_, ?_, Nat.le_trans h.hR hg.size, h.hw, h.lR, h.dR, h.pR⟩
  · have := h.lR k e2; have := hge k e; omega
  · have := h.dR k e2; have := hge k e; omega
  · have := h.pR k e; have := hge k e2; omega
  · exact h.hb.grown hg (Nat.le_trans h.hw h.hR) fun k e => Nat.le_trans h.hw (hge k e)
/-- a header of the rows done is stored -/
theorem RedS.store {w : World} {R0 : Nat} {A : World} {l d r q p u : Value} {left done rest : List (List Int)} {P x : List Int} {J : List Nat} {i n : Nat} (h : RedS w R0 A l d r q p left done rest P J) (hn : done.length = n) (hi : i < n) (hu : RowN p.ownBlock A u x) :
    ∃ g0 cap v, d = .slice (some ⟨g0, 0, none⟩) n cap ∧ A.cell? ⟨g0, i, none⟩ = some v ∧ A.frozen? ⟨g0, i, none⟩ = false ∧ RedS w R0 (A.setCell ⟨g0, i, none⟩ u) (.slice none 0 0) d r q p [] (done.set i x) rest P J := by
  obtain ⟨g0, cap, v, rfl, hb0, hlt, hty, hc, hrow, hf, hset⟩ := h.hd.at hn hi
  refine ⟨g0, cap, v, rfl, hc, hf, ?_⟩
  obtain ⟨hT, hk⟩ := hset u x hu
  have hk' : ∀ k, k < A.heap.size → some g0 ≠ some k → (A.setCell ⟨g0, i, none⟩ u).heap[k]? = A.heap[k]? := fun k _ hne => hk k fun e => hne (by rw [e])
  have hgt : ∀ k, some g0 = some k → ∃ c, A.heap[k]? = some (.cells c 31 (0, 0)) := fun k e => by cases e; exact hty
  have hlt0 : g0 < R0 := h.dR g0 rfl
  refine ⟨TabN.nil _ _ _, hT, h.hr.beside hk' hgt fun k e e2 => ?_, h.hq.keep fun k c hc _ => hk' k (Array.getElem?_eq_some_iff.1 hc).1 fun e => ?_, own_kept h.hp fun k e hlt2 => hk' k hlt2 fun e2 => ?_, ?_, by simpa using h.hR, h.hw, fun k hk => by simp [Value.ownBlock] at hk, h.dR, h.pR⟩
  · cases e
    have := (h.hr.type e2).1
    omega
  · obtain ⟨c2, h2⟩ := hgt k e
    rw [h2] at hc; cases hc
  · cases e2
    obtain ⟨c, hc⟩ := hty
    obtain ⟨_, c2, h2⟩ := own_type h.hp e
    rw [h2] at hc; cases hc
  · exact (Keep.set A g0 i u).below h.hb (Nat.le_trans h.hw h.hR) fun k hk e => by omega
/-- the round's end: the pivot's row onto the rows done -/
theorem RedS.onto {w : World} {R0 : Nat} {A B : World} {l d r q p d' : Value} {left done rest : List (List Int)} {P : List Int} {J : List Nat} {vs : List Value} (h : RedS w R0 A l d r q p left done rest P J)
    (h1 : A.ownsRow w.heap.size 31 1 d done.length vs) (h2 : ∀ j (hj : j < done.length), ∃ u, vs[j]? = some u ∧ RowN p.ownBlock A u done[j]) (hg : A.grownBy B d.ownBlock)
    (ho : B.ownsRow w.heap.size 31 1 d' (done.length + 1) (vs ++ [q])) : TabN p.ownBlock B w.heap.size r rest ∧ TabN p.ownBlock B w.heap.size d' (done ++ [P]) ∧ B.ownsRow w.heap.size 3 1 p J.length ((castL J).map (Value.int .i64)) ∧ Below w.heap.size w B := by
  have hge : ∀ k, d.ownBlock = some k → w.heap.size ≤ k := fun k hk => (own_type h1 hk).1
  have hgt : ∀ k, d.ownBlock = some k → ∃ c, A.heap[k]? = some (.cells c 31 (0, 0)) := fun k hk => (own_type h1 hk).2
  have hk : ∀ k, k < A.heap.size → d.ownBlock ≠ some k → B.heap[k]? = A.heap[k]? := fun k hlt hne => hg.block k hlt fun e => hne e.symm
  refine ⟨(h.hr.beside hk hgt fun k e e2 => ?_).low h.hw, TabN.snoc h1 h2 h.hq hg ho, own_kept h.hp fun k e hlt => hk k hlt fun e2 => ?_, h.hb.grown hg (Nat.le_trans h.hw h.hR) hge⟩
  · have := h.dR k e; have := (h.hr.type e2).1; omega
  · obtain ⟨c, hc⟩ := hgt k e2
    obtain ⟨_, c2, h2⟩ := own_type h.hp e
    rw [h2] at hc; cases hc
/-- .. and the column onto the pivots -/
theorem red_end {w A B : World} {r d p p' : Value} {left done : List (List Int)} {J : List Nat} {j : Nat} (h1 : TabN p.ownBlock A w.heap.size r left) (h2 : TabN p.ownBlock A w.heap.size d done) (h3 : A.ownsRow w.heap.size 3 1 p J.length ((castL J).map (Value.int .i64)))
    (h4 : Below w.heap.size w A) (hg : A.grownBy B p.ownBlock) (hat : p'.ownBlock = p.ownBlock ∨ p'.ownBlock = some A.heap.size) (ho : B.ownsRow w.heap.size 3 1 p' (J.length + 1) ((castL J).map (Value.int .i64) ++ [.int .i64 j])) :
    TabN p'.ownBlock B w.heap.size r left ∧ TabN p'.ownBlock B w.heap.size d done ∧ B.ownsRow w.heap.size 3 1 p' (J ++ [j]).length ((castL (J ++ [j])).map (Value.int .i64)) ∧ Below w.heap.size w B := by
  refine ⟨h1.piv hg hat h3, h2.piv hg hat h3, ?_, h4.grown hg h4.size fun k hk => (own_type h3 hk).1⟩
  simpa [castL] using ho

/-- append, and where the new slice lies -/
theorem wpList_app_at {P : Program} (w : World) {ops : Array Oper} {rest : List Oper} {o : Oper} {a : Act} {Q : Exit → Act → World → Prop} (hgd : o.guard = none) (s x : Operand) (t : TypeId)
    (ho : o.op = .call { callee := .builtin .append, args := #[s, x], argTypes := #[t, t] })
    (base : Nat) (e : TypeId) (z : Value) (size bytes : Nat) (ht : P.underlying t = some (.slice e)) (hinfo : (P.info? e).map (fun i => (i.zero, i.size, i.bytes)) = some (some z, size, bytes))
    (hzs : z.cells.size = size) (hsz : 0 < size)
    (v : Value) (n : Nat) (xs : List Value) (hs : a.eval s = v) (hown : w.ownsRow base e size v n xs)
    (ad : Addr) (m c : Nat) (news : List Value) (hx : a.eval x = .slice (some ad) m c) (hl : news.length = m * size)
    (hnews : ∀ j u, news[j]? = some u → w.cell? (ad.add j) = some u) (h1 : ∀ u ∈ news, u.oneCell' = true)
    (h63 : n + m ≤ maxLen) (hbytes : (n + m) * bytes ≤ 140737488355328) (hbase : base ≤ w.heap.size)
    (h : ∀ a' c' w', w'.ownsRow base e size (.slice a' (n + m) c') (n + m) (xs ++ news) → w.grownBy w' v.ownBlock → ((Value.slice a' (n + m) c').ownBlock = v.ownBlock ∨ (Value.slice a' (n + m) c').ownBlock = some w.heap.size) → wpList P ops Q rest (a.put o.dst (.slice a' (n + m) c')) w') : wpList P ops Q (o :: rest) a w := by
  obtain ⟨i, hi, hz, h2, h3⟩ := info_parts hinfo
  refine wpList_append_own_at w hgd s x t ho base e i z size bytes ht hi hz h2 h3 hzs hsz v n xs hs hown ad m c news hx hl hnews h1 h63 hbytes hbase ?_
  intro v' w' ho' hg _ hat
  obtain ⟨a', c', rfl⟩ := ownsRow_slice ho'
  exact h a' c' w' ho' hg hat
end Go.Proofs.Ytfipebkhomppmaa
