/- Walks: slices.DeleteFunc at rows of ints; slices of cells that a call makes and appends to. -/
import Derived.Test.YtdcflpfaaeijoaaBitAE
import Derived.Lib.SliceRun
import Derived.Deep.AppendLies
namespace Go.Proofs.Ytdcflpfaaeijoaa
open Go.RowKit Go.Maps
set_option linter.unusedVariables false

/-- a slice of cells that the call itself has made since base; the rows lie in other blocks, that S takes -/
def SepA (S : Nat → Prop) (r : Option Nat) (l : List Int) (ra : Option Addr) : Prop := l = [] ∨ ∀ ad, ra = some ad → some ad.block ≠ r ∧ S ad.block
def CelsO (T : TypeId) (S : Nat → Prop) (W : World) (base : Nat) (v : Value) (l : List Cel) : Prop :=
  ∃ xs, W.ownsRow base T 3 v l.length xs ∧ CelVals W xs l ∧ ∀ j (hj : j < l.length) ra n cap, xs[j * 3]? = some (.slice ra n cap) → SepA S v.ownBlock l[j].row ra

theorem CelsO.nil (T : TypeId) (S : Nat → Prop) (W : World) (base : Nat) : CelsO T S W base (.slice none 0 0) [] :=
  ⟨[], World.ownsRow_nil _ _ _ _, CelVals.nil W, fun j hj => by simp at hj⟩

theorem CelsO.keep {T : TypeId} {S S' : Nat → Prop} {W W' : World} {base : Nat} {v : Value} {l : List Cel} (h : CelsO T S W base v l) (hk : Keep S' W W') (h1 : ∀ k, base ≤ k → S' k) (h2 : ∀ k, S k → S' k) : CelsO T S W' base v l := by
  obtain ⟨xs, ho, hv, hs⟩ := h
  refine ⟨xs, ⟨ho.1, ?_⟩, ⟨hv.1, fun j hj => ?_⟩, hs⟩
  · rcases ho.2 with hn | ⟨g, cap, cur, rfl, hbg, hgg, rest⟩
    · exact .inl hn
    · exact .inr ⟨g, cap, cur, rfl, hbg, (hk.block g (Array.getElem?_eq_some_iff.1 hgg).1 (h1 g hbg)).trans hgg, rest⟩
  · obtain ⟨ra, n, cap, e0, e1, e2, e3, e4, e5⟩ := hv.2 j hj
    refine ⟨ra, n, cap, e0, e1, e2, e3, e4, fun i hi => ?_⟩
    obtain ⟨b, off, e, hb, hc⟩ := e5 i hi
    rcases hs j hj ra n cap e0 with h | h
    · rw [h] at hi; simp at hi
    · exact ⟨b, off, e, Nat.lt_of_lt_of_le hb hk.size, hk.cell hc (h2 _ (h _ e).2)⟩

theorem CelsO.below {T : TypeId} {S : Nat → Prop} {W W' : World} {base : Nat} {v : Value} {l : List Cel} (h : CelsO T S W base v l) (hb : Below W.heap.size W W') : CelsO T S W' base v l :=
  h.keep (S' := fun _ => True) (Keep.of_below hb) (fun _ _ => trivial) (fun _ _ => trivial)

theorem CelsO.reads {T : TypeId} {S : Nat → Prop} {W : World} {base : Nat} {v : Value} {l : List Cel} (h : CelsO T S W base v l) : ∃ a cap, v = .slice a l.length cap ∧ l.length ≤ maxLen ∧ CellsAt W a l := by
  obtain ⟨xs, ho, hv, hs⟩ := h
  obtain ⟨a, cap, rfl⟩ := ownsRow_slice ho
  rcases ho.2 with ⟨e, h0⟩ | ⟨g, cap', cur, e, hbg, hgg, hnc, hcm, rest⟩
  · exact ⟨a, cap, rfl, by omega, fun j hj => by omega⟩
  · cases e
    exact ⟨_, cap, rfl, by omega, cells_of_own ⟨ho.1, .inr ⟨g, cap, cur, rfl, hbg, hgg, hnc, hcm, rest⟩⟩ hv rfl⟩

theorem IntsAt.grownBy {S : Nat → Prop} {W1 W2 : World} {r : Option Nat} {ra : Option Addr} {l : List Int} (h : IntsAt W1 ra l) (hs : SepA S r l ra) (hg : W1.grownBy W2 r) : IntsAt W2 ra l := by
  intro j hj
  obtain ⟨b, off, e, hb, hc⟩ := h j hj
  rcases hs with rfl | hs
  · simp at hj
  · exact ⟨b, off, e, Nat.lt_of_lt_of_le hb hg.size, (World.grownBy.cell_far hg ⟨b, off + j, none⟩ hb (show some b ≠ r from (hs _ e).1)).trans hc⟩

theorem SepA.new {S : Nat → Prop} {W : World} {r : Option Nat} {ra : Option Addr} {l : List Int} (h : IntsAt W ra l) (hs : SepA S r l ra) {g : Nat} (hg : W.heap.size ≤ g) : SepA S (some g) l ra := by
  cases l with
  | nil => exact .inl rfl
  | cons x l =>
    right
    intro ad e
    refine ⟨?_, ?_⟩
    · obtain ⟨b, off, e2, hb, _⟩ := h 0 (by simp)
      rw [e] at e2
      cases e2
      intro e3
      cases e3
      exact absurd hg (Nat.not_le.2 hb)
    · rcases hs with h | h
      · cases h
      · exact (h ad e).2

theorem CelsO.snoc {T : TypeId} {S : Nat → Prop} {W1 W2 : World} {base : Nat} {v v' : Value} {l : List Cel} {xs : List Value} {c : Cel} {ra : Option Addr} {n cap : Nat}
    (ho : W1.ownsRow base T 3 v l.length xs) (hv : CelVals W1 xs l) (hs : ∀ j (hj : j < l.length) ra n cap, xs[j * 3]? = some (.slice ra n cap) → SepA S v.ownBlock l[j].row ra)
    (h1 : c.row.length = n) (h2 : n ≤ maxLen) (h3 : IntsAt W1 ra c.row) (h4 : SepA S v.ownBlock c.row ra)
    (hg : W1.grownBy W2 v.ownBlock) (ho' : W2.ownsRow base T 3 v' (l.length + 1) (xs ++ [.slice ra n cap, .int .i64 c.lo, .int .i64 c.hi])) (hl : v.ownBlock = v'.ownBlock ∨ ∃ g, v'.ownBlock = some g ∧ W1.heap.size ≤ g) :
    CelsO T S W2 base v' (l ++ [c]) := by
  have hsep : ∀ (l : List Int) (ra : Option Addr), IntsAt W1 ra l → SepA S v.ownBlock l ra → SepA S v'.ownBlock l ra := by
    intro l ra hi hs
    rcases hl with e | ⟨g, e, hg⟩
    · rw [← e]; exact hs
    · rw [e]; exact SepA.new hi hs hg
  have hv1 : CelVals W2 xs l := by
    refine ⟨hv.1, fun j hj => ?_⟩
    obtain ⟨ra, n, cap, e0, e1, e2, e3, e4, e5⟩ := hv.2 j hj
    exact ⟨ra, n, cap, e0, e1, e2, e3, e4, e5.grownBy (hs j hj ra n cap e0) hg⟩
  refine ⟨_, by simpa using ho', hv1.append (CelVals.one h1 h2 (h3.grownBy h4 hg)), fun j hj ra' n' cap' he => ?_⟩
  have hx := hv.1
  by_cases e : j < l.length
  · rw [List.getElem?_append_left (by omega)] at he
    obtain ⟨ra2, n2, cap2, e0, e1, e2, e3, e4, e5⟩ := hv.2 j e
    rw [e0] at he
    cases he
    rw [List.getElem_append_left e]
    exact hsep _ _ e5 (hs j e _ _ _ e0)
  · have : j = l.length := by simp at hj; omega
    subst this
    rw [List.getElem?_append_right (by omega), show l.length * 3 - xs.length = 0 by omega] at he
    simp at he
    obtain ⟨rfl, rfl, rfl⟩ := he
    simp only [List.getElem_append_right (Nat.le_refl _), Nat.sub_self, List.getElem_cons_zero]
    exact hsep _ _ h3 h4

/-- the blocks of a slice of slices of ints are there -/
theorem RowsO.now {E T : TypeId} {W : World} {base : Nat} {S : Nat → Prop} {v : Value} {ls : List (List Int)} (h : RowsO E T W base S v ls) : RowsO E T W base (fun k => k < W.heap.size) v ls := by
  obtain ⟨vs, ho, hg, he⟩ := h
  refine ⟨vs, ho, fun k hk => ?_, fun j hj => ?_⟩
  · rcases ho.2 with ⟨rfl, _⟩ | ⟨g, cap, cur, rfl, hbg, hgg, _⟩
    · simp [Value.ownBlock] at hk
    · have : g = k := by simpa [Value.ownBlock] using hk
      subst this
      exact (Array.getElem?_eq_some_iff.1 hgg).1
  · obtain ⟨u, hu, a, n, cap, e, hn, hm, hel⟩ := he j hj
    refine ⟨u, hu, a, n, cap, e, hn, hm, fun i hi => ?_⟩
    obtain ⟨b, off, e, _, hb, rest⟩ := hel i hi
    exact ⟨b, off, e, hb, hb, rest⟩

/-- the values of what is kept of the first j elements -/
def keptV (p : List Int → Bool) (vs : List Value) (F : List (List Int)) (j : Nat) : List (Value × List Int) := ((vs.zip F).take j).filter (fun q => !p q.2)
theorem keptV_succ (p : List Int → Bool) (vs : List Value) (F : List (List Int)) (j : Nat) (u : Value) (x : List Int) (h1 : vs[j]? = some u) (h2 : F[j]? = some x) :
    keptV p vs F (j + 1) = if p x then keptV p vs F j else keptV p vs F j ++ [(u, x)] := by
  have hz : (vs.zip F)[j]? = some (u, x) := List.getElem?_zip_eq_some.2 ⟨h1, h2⟩
  unfold keptV
  rw [List.take_add_one, hz]
  simp only [Option.toList_some, List.filter_append]
  cases hp : p x
  · simp [hp]
  · simp [hp]
theorem keptV_le (p : List Int → Bool) (vs : List Value) (F : List (List Int)) (j : Nat) : (keptV p vs F j).length ≤ j := by
  unfold keptV
  refine Nat.le_trans (List.length_filter_le _ _) ?_
  rw [List.length_take]; omega
theorem keptV_all (p : List Int → Bool) (vs : List Value) (F : List (List Int)) (h : vs.length = F.length) : (keptV p vs F F.length).map Prod.snd = F.filter (fun x => !p x) := by
  unfold keptV
  rw [List.take_of_length_le (by rw [List.length_zip]; omega)]
  have h2 : (vs.zip F).map Prod.snd = F := List.map_snd_zip (by omega)
  conv => rhs; rw [← h2]
  rw [List.filter_map]; rfl
theorem keptV_mem (p : List Int → Bool) (vs : List Value) (F : List (List Int)) (j : Nat) (q : Value × List Int) (h : q ∈ keptV p vs F j) : ∃ i : Nat, vs[i]? = some q.1 ∧ F[i]? = some q.2 := by
  unfold keptV at h
  have h1 := List.mem_of_mem_take (List.mem_filter.1 h).1
  obtain ⟨i, hi, e⟩ := List.mem_iff_getElem.1 h1
  refine ⟨i, ?_⟩
  have : (vs.zip F)[i]? = some q := by rw [List.getElem?_eq_getElem hi, e]
  exact List.getElem?_zip_eq_some.1 this

def PredK (P : Program) (g : Nat) (lb : Array Value) (S : Nat → Prop) (w : World) (ok : List Int → Prop) (p : List Int → Bool) : Prop :=
  ∀ (x : List Int) (v : Value) (W : World), ok x → Keep S w W → ListV W v x → Calls P g (#[v] ++ lb) W fun e W' => e = .returned (.bool (p x)) ∧ Below W.heap.size W W'

theorem indexK (w : World) (a : Option Addr) (n cap : Nat) (l : List (List Int)) (hn : l.length = n) (hm : n ≤ maxLen) (H : RowsAt w a l) (g : Nat) (lb : Array Value) (S : Nat → Prop) (ok : List Int → Prop) (p : List Int → Bool)
    (eg : ∀ args w, (callFunc g args).run Try.prog w = .ok (.enter g args) w) (hp : PredK Try.prog g lb S w ok p) (hok : ∀ x ∈ l, ok x) :
    Calls Try.prog 102 #[.slice a n cap, .func (.func g) #[] lb] w fun e w' => e = .returned (.int .i64 (idxP p l 0)) ∧ Below w.heap.size w w' := by
  have HN := hid hn
  have HH := hid H
  have HP := hid hp
  have HO := hid hok
  clear hn H hp hok
  unfold maxLen at hm
  go_enter Try.func102, Try.ntmps102
  go_wp2
  go_loopw [8] (fun i wr => ∃ k : Nat, k ≤ n ∧ i = .int .i64 k ∧ Below w.heap.size w wr ∧ ∀ (i : Nat) (y : List Int), i < k → l[i]? = some y → p y = false) (fun i _ => n - (intOf i).toNat)
  case atStart => exact ⟨0, Nat.zero_le _, rfl, Below.refl _ _, fun i y h => by omega⟩
  case round =>
    obtain ⟨k, hk, rfl, hb, hno⟩ := hrel
    have HNO := hid hno
    clear hno
    by_cases hlt : k < n
    · have hkl : k < l.length := by rw [HN.out]; exact hlt
      obtain ⟨b, off, ra, rn, rc, rfl, hbs, h0, hrn, hrm, hri⟩ := (HH.out.below hb) k hkl
      have HV := hid (show ListV wr (.slice ra rn rc) l[k] from ⟨ra, rn, rc, rfl, hrn, hrm, hri⟩)
      have HR := hid hrn
      have HOK := hid (HO.out l[k] (List.getElem_mem _))
      clear hrn hri
      have HK := hid (List.getElem?_eq_getElem hkl)
      cases hpx : p l[k]
      · go_wp2_with (refine (HP.out _ _ _ HOK.out (Keep.of_below hb) HV.out).mono ?_; rintro e w1 ⟨rfl, hb1⟩)
        refine ⟨⟨k + 1, by omega, by go_num, chain hb hb1, ?_⟩, by simp [intOf]; omega⟩
        intro i y hi hy
        by_cases e : i = k
        · subst e; rw [HK.out] at hy; cases hy; exact hpx
        · exact HNO.out i y (by omega) hy
      · go_wp2_with (refine (HP.out _ _ _ HOK.out (Keep.of_below hb) HV.out).mono ?_; rintro e w1 ⟨rfl, hb1⟩)
        go_ret
        refine ⟨ret_int ?_, chain hb hb1⟩
        rw [idxP_at p l 0 k _ HK.out hpx HNO.out]; simp
    · go_wp2
      go_ret
      refine ⟨ret_int ?_, hb⟩
      rw [idxP_neg]
      intro x hx
      obtain ⟨i, hi, e⟩ := List.getElem_of_mem hx
      exact HNO.out i x (by have := HN.out; omega) (by rw [List.getElem?_eq_getElem hi, e])

theorem idxP_cases (p : List Int → Bool) (l : List (List Int)) : (idxP p l 0 = -1 ∧ ∀ x ∈ l, p x = false) ∨ ∃ (k : Nat) (x : List Int), l[k]? = some x ∧ idxP p l 0 = (k : Nat) ∧ p x = true ∧ ∀ (i : Nat) (y : List Int), i < k → l[i]? = some y → p y = false := by
  by_cases h : ∀ x ∈ l, p x = false
  · exact .inl ⟨idxP_neg p l 0 h, h⟩
  · right
    have hex : ∃ k : Nat, ∃ x : List Int, l[k]? = some x ∧ p x = true := by
      obtain ⟨x, h⟩ := Classical.not_forall.1 h
      obtain ⟨hx, hp⟩ := Classical.not_imp.1 h
      have hp : p x = true := by simpa using hp
      obtain ⟨i, hi, e⟩ := List.getElem_of_mem hx
      exact ⟨i, x, by rw [List.getElem?_eq_getElem hi, e], hp⟩
    obtain ⟨k, hk, hmin⟩ : ∃ k : Nat, (∃ x : List Int, l[k]? = some x ∧ p x = true) ∧ ∀ i : Nat, i < k → ¬ ∃ x : List Int, l[i]? = some x ∧ p x = true := by
      obtain ⟨k, hk⟩ := hex
      induction k using Nat.strongRecOn with
      | ind k ih =>
        by_cases hc : ∃ i : Nat, i < k ∧ ∃ x : List Int, l[i]? = some x ∧ p x = true
        · obtain ⟨i, hi, hx⟩ := hc; exact ih i hi hx
        · exact ⟨k, hk, fun i hi hx => hc ⟨i, hi, hx⟩⟩
    obtain ⟨x, hx, hpx⟩ := hk
    have hno : ∀ (i : Nat) (y : List Int), i < k → l[i]? = some y → p y = false := by
      intro i y hi hy
      cases hpy : p y
      · rfl
      · exact absurd ⟨y, hy, hpy⟩ (hmin i hi)
    exact ⟨k, x, hx, by rw [idxP_at p l 0 k x hx hpx hno]; simp, hpx, hno⟩

theorem keptV_start (p : List Int → Bool) (vs : List Value) (F : List (List Int)) (h : vs.length = F.length) (k : Nat) (hno : ∀ (i : Nat) (y : List Int), i < k → F[i]? = some y → p y = false) (hk : k ≤ F.length) : (keptV p vs F k).map Prod.fst = vs.take k := by
  unfold keptV
  rw [List.filter_eq_self.2]
  · rw [List.map_take, List.map_fst_zip (by omega)]
  · intro q hq
    obtain ⟨i, hi, e⟩ := List.mem_iff_getElem.1 hq
    rw [List.length_take] at hi
    have hz : (vs.zip F)[i]? = some q := by
      have h2 : ((vs.zip F).take k)[i]? = some q := by rw [List.getElem?_eq_getElem (by rw [List.length_take]; exact hi), e]
      rw [List.getElem?_take, if_pos (by omega)] at h2
      exact h2
    have := (List.getElem?_zip_eq_some.1 hz).2
    rw [hno i q.2 (by omega) this]; rfl

theorem setCells_block {T : TypeId} {b : Nat} {f : Nat × Nat} : ∀ (vs : List Value) (o : Nat) (w : World) (c : Array Value), w.heap[b]? = some (.cells c T f) →
    ∃ c', (w.setCells b o vs).heap[b]? = some (.cells c' T f) ∧ c'.size = c.size ∧ ∀ i, i < o → c'[i]? = c[i]?
  | [], _, w, c, h => ⟨c, h, rfl, fun _ _ => rfl⟩
  | v :: vs, o, w, c, h => by
    obtain ⟨c', h1, h2, h3⟩ := setCells_block vs (o + 1) (w.setCell ⟨b, o, none⟩ v) _ (cells_set h o v)
    refine ⟨c', h1, by rw [h2]; simp, fun i hi => ?_⟩
    rw [h3 i (by omega), Array.getElem?_setIfInBounds_ne (by omega)]

theorem Keep.setCells (b : Nat) : ∀ (vs : List Value) (o : Nat) (w : World), Keep (fun k => k ≠ b) w (w.setCells b o vs)
  | [], _, w => Keep.refl _ _
  | v :: vs, o, w => (Keep.set w b o v).trans (Keep.setCells b vs (o + 1) _)

set_option maxRecDepth 100000 in
set_option maxHeartbeats 2000000 in
theorem deleteK (w : World) (base : Nat) (b0 n cap : Nat) (cur : Array Value) (vs : List Value) (F : List (List Int)) (hF : F.length = n)
    (hg : w.heap[b0]? = some (.cells cur 25 (0, 0))) (hnc : n ≤ cap) (hcm : cap ≤ maxLen) (hsz : cur.size = cap) (htk : cur.toList.take n = vs) (hbase : base ≤ b0)
    (S : Nat → Prop) (hS : S b0) (he : ∀ j (hj : j < F.length), ∃ u, vs[j]? = some u ∧ ElemI 3 w base S u F[j])
    (g : Nat) (lb : Array Value) (ok : List Int → Prop) (p : List Int → Bool)
    (eg : ∀ args w, (callFunc g args).run Try.prog w = .ok (.enter g args) w) (hp : PredK Try.prog g lb (fun k => k ≠ b0) w ok p) (hok : ∀ x ∈ F, ok x) :
    Calls Try.prog 91 #[.slice (some ⟨b0, 0, none⟩) n cap, .func (.func g) #[] lb] w fun e w' => ∃ v', e = .returned v' ∧ RowsO 3 25 w' base S v' (F.filter (fun x => !p x)) ∧ Keep (fun k => k ≠ b0) w w' := by
  have hvl : vs.length = F.length := by rw [← htk, List.length_take, Array.length_toList]; omega
  have hel : ∀ W, Keep (fun k => k ≠ b0) w W → ∀ (j : Nat) (u : Value) (x : List Int), vs[j]? = some u → F[j]? = some x → ElemI 3 W base (fun k => k ≠ b0 ∧ S k) u x := by
    intro W hW j u x hu hx
    obtain ⟨hj, e⟩ := List.getElem?_eq_some_iff.1 hx
    obtain ⟨u', hu', hE⟩ := he j hj
    rw [hu] at hu'
    cases hu'
    rw [e] at hE
    obtain ⟨a, m, c, e1, e2, e3, e4⟩ := hE
    refine ⟨a, m, c, e1, e2, e3, fun i hi => ?_⟩
    obtain ⟨b, off, ea, hSb, hb, hty, hc⟩ := e4 i hi
    have hne : b ≠ b0 := by
      rintro rfl
      rcases hty with h | ⟨c', f, h⟩
      · omega
      · rw [hg] at h; cases h
    refine ⟨b, off, ea, ⟨hne, hSb⟩, Nat.lt_of_lt_of_le hb hW.size, ?_, hW.cell hc hne⟩
    rcases hty with h | ⟨c', f, h⟩
    · exact .inl h
    · exact .inr ⟨c', f, (hW.block b hb hne).trans h⟩
  have hrows : RowsAt w (some ⟨b0, 0, none⟩) F := by
    intro j hj
    obtain ⟨u, hu, hE⟩ := he j hj
    obtain ⟨a', n', cap', rfl, h1, h2, h3⟩ := id hE
    obtain ⟨h1, h2, h3⟩ := hE.ints
    refine ⟨b0, 0, a', n', cap', rfl, (Array.getElem?_eq_some_iff.1 hg).1, ?_, h1, h2, h3⟩
    have : cur[j]? = some (.slice a' n' cap') := by
      rw [← htk, List.getElem?_take, if_pos (by omega)] at hu
      simpa using hu
    simp [World.cell?, hg, this]
  have HIX := hid (indexK w (some ⟨b0, 0, none⟩) n cap F hF (by omega) hrows g lb _ ok p eg hp hok)
  have hcl := Lib.run_clear_slice (P := Try.prog)
  have HCL := hid (fun (W : World) (i : Nat) (hi : i < n) (ty : TypeId) (c : Nat) (hc : ∀ j, j < n - i → (W.cell? ⟨b0, i + j, none⟩).isSome = true) (hf : ∀ j, j < n - i → W.frozen? ⟨b0, i + j, none⟩ = false) =>
    hcl W 57 25 ty (.slice none 0 0) Try.underlying57 (fun _ => rfl) rfl rfl b0 i (n - i) c (by omega) hc hf)
  clear hcl
  rcases idxP_cases p F with ⟨hi, hall⟩ | ⟨k0, x0, hx0, hi, hpx, hno⟩
  · rw [hi] at HIX
    have HFF := hid (show F.filter (fun x => !p x) = F from List.filter_eq_self.2 fun x hx => by simp [hall x hx])
    have HRO := hid (show ∀ w', Keep S w w' → RowsO 3 25 w' base S (.slice (some ⟨b0, 0, none⟩) n cap) F from fun w' hk =>
      RowsO.keep ⟨vs, ⟨by rw [hvl]; omega, .inr ⟨b0, cap, cur, by rw [hF], hbase, hg, by omega, hcm, by omega, by rw [hF]; simpa using htk⟩⟩, fun k hk => (by simp [Value.ownBlock] at hk; subst hk; exact hS), he⟩ hk)
    clear he hel hrows hp hok hall hi hF hg htk hvl
    go_enter Try.func91, Try.ntmps91
    go_wp2_with (go_at_call 102; refine HIX.out.mono ?_; rintro e w1 ⟨rfl, hb1⟩)
    go_ret
    exact ⟨_, rfl, by rw [HFF.out]; exact HRO.out _ (Keep.of_below hb1), Keep.of_below hb1⟩
  · rw [hi] at HIX
    obtain ⟨hk0, _⟩ := List.getElem?_eq_some_iff.1 hx0
    have HK0 := hid (show (keptV p vs F (k0 + 1)).length = k0 ∧ (keptV p vs F (k0 + 1)).map Prod.fst = vs.take k0 from by
      obtain ⟨u, hu⟩ : ∃ u, vs[k0]? = some u := ⟨_, List.getElem?_eq_getElem (by omega)⟩
      rw [keptV_succ p vs F k0 u x0 hu hx0, if_pos hpx]
      have := keptV_start p vs F hvl k0 hno (by omega)
      refine ⟨?_, this⟩
      have h2 := congrArg List.length this
      rw [List.length_map, List.length_take] at h2
      omega)
    have HEL := hid hel
    have HP := hid hp
    have HO := hid hok
    have HG := hid hg
    have HT := hid htk
    have HVL := hid hvl
    have HSZ := hid hsz
    have HF := hid hF
    have HI := hid (fun W hW => hel W hW)
    have hkn : k0 < n := by omega
    unfold maxLen at hcm
    clear he hel hrows hp hok hi hF hg htk hvl hno hx0 hsz
    have hneg : ((k0 : Int) == -1) = false := beq_eq_false_iff_ne.2 (by omega)
    go_enter Try.func91, Try.ntmps91
    go_wp2_with (go_at_call 102; refine HIX.out.mono ?_; rintro e w1 ⟨rfl, hb1⟩)
    go_loopw [5, 6] (fun s5 s6 wr => ∃ (i j : Nat) (cr : Array Value), s5 = .int .i64 i ∧ s6 = .int .i64 j ∧ j ≤ n ∧ i < j ∧ Keep (fun k => k ≠ b0) w wr ∧ Hid (wr.heap[b0]? = some (.cells cr 25 (0, 0)) ∧ cr.size = cap ∧ (keptV p vs F j).length = i ∧ cr.toList.take i = (keptV p vs F j).map Prod.fst ∧ ∀ q, j ≤ q → q < n → cr[q]? = vs[q]?)) (fun _ j _ => n - (intOf j).toNat)
    case atStart =>
      refine ⟨k0, k0 + 1, cur, rfl, by go_num, by omega, by omega, Keep.of_below hb1, hid ⟨(hb1.block b0 (Array.getElem?_eq_some_iff.1 HG.out).1).trans HG.out, HSZ.out, HK0.out.1, ?_, fun q hq1 hq2 => ?_⟩⟩
      · rw [HK0.out.2, ← HT.out, List.take_take]; congr 1; omega
      · rw [← HT.out, List.getElem?_take, if_pos hq2]; simp
    case round =>
      obtain ⟨i, j, cr, rfl, rfl, hjn, hij, hkp, HH⟩ := hrel
      by_cases hlt : j < n
      · obtain ⟨u, hu⟩ : ∃ u, vs[j]? = some u := ⟨_, List.getElem?_eq_getElem (by rw [HVL.out, HF.out]; exact hlt)⟩
        obtain ⟨x, hx⟩ : ∃ x, F[j]? = some x := ⟨_, List.getElem?_eq_getElem (by rw [HF.out]; exact hlt)⟩
        have hE := HEL.out wr hkp j u x hu hx
        obtain ⟨ra, rn, rc, rfl, q1, q2, q3⟩ := id hE
        obtain ⟨q1, q2, q3⟩ := hE.ints
        have HLV := hid (show ListV wr (.slice ra rn rc) x from ⟨ra, rn, rc, rfl, q1, q2, q3⟩)
        have hcj : wr.cell? ⟨b0, j, none⟩ = some (.slice ra rn rc) := by
          obtain ⟨h1, _, _, _, h5⟩ := HH.out
          simp [World.cell?, h1, h5 j (Nat.le_refl _) hlt, hu]
        have hci : ∃ old, wr.cell? ⟨b0, i, none⟩ = some old := by
          obtain ⟨h1, h2, _⟩ := HH.out
          have : i < cr.size := by omega
          exact ⟨cr[i], by simp [World.cell?, h1, this]⟩
        have hfi : wr.frozen? ⟨b0, i, none⟩ = false := by
          obtain ⟨h1, _⟩ := HH.out
          simp [World.frozen?, h1]
        have hbz : b0 < wr.heap.size := (Array.getElem?_eq_some_iff.1 HH.out.1).1
        obtain ⟨old, hold⟩ := hci
        have HU := hid hu
        have HX := hid hx
        have HOK := hid (HO.out x (List.mem_of_getElem? hx))
        clear hE q1 q3 hu hx
        unfold maxLen at q2
        cases hpx2 : p x
        · go_wp2_with (refine (HP.out _ _ _ HOK.out hkp HLV.out).mono ?_; rintro e w3 ⟨rfl, hb3⟩; refine Stop.of ?_)
          refine Stop.go ?_
          have hci3 : w3.cell? ⟨b0, i, none⟩ = some old := (hb3.cell (p := ⟨b0, i, none⟩) hbz).trans hold
          have hfi3 : w3.frozen? ⟨b0, i, none⟩ = false := (hb3.frozen (p := ⟨b0, i, none⟩) hbz).trans hfi
          clear hold hfi
          go_wp2
          refine ⟨⟨i + 1, j + 1, cr.setIfInBounds i (.slice ra rn rc), by go_num, by go_num, by omega, by omega, (hkp.trans (Keep.of_below hb3)).trans (Keep.set w3 b0 i _), ?_⟩, by simp [intOf]; omega⟩
          obtain ⟨h1, h2, h3, h4, h5⟩ := HH.out
          have hks := keptV_succ p vs F j _ _ HU.out HX.out
          rw [hpx2] at hks
          simp only [Bool.false_eq_true, if_false] at hks
          refine hid ⟨cells_set ((hb3.block b0 hbz).trans h1) i _, by simp [h2], by rw [hks, List.length_append, h3]; rfl, ?_, fun q hq1 hq2 => ?_⟩
          · rw [hks, List.map_append, ← h4]
            apply List.ext_getElem?
            intro q
            have hil : (cr.toList.take i).length = i := by rw [List.length_take, Array.length_toList]; omega
            rw [List.getElem?_take]
            by_cases e1 : q < i
            · rw [if_pos (by omega), List.getElem?_append_left (by omega), List.getElem?_take, if_pos e1]
              simp [List.getElem?_set_ne (show i ≠ q by omega)]
            · by_cases e2 : q = i
              · subst e2
                rw [if_pos (by omega), List.getElem?_append_right (by omega), hil, Nat.sub_self]
                have : q < cr.size := by omega
                simp [this]
              · rw [if_neg (by omega), List.getElem?_eq_none (by rw [List.length_append, hil]; simp; omega)]
          · rw [Array.getElem?_setIfInBounds_ne (by omega)]; exact h5 q (by omega) hq2
        · go_wp2_with (refine (HP.out _ _ _ HOK.out hkp HLV.out).mono ?_; rintro e w3 ⟨rfl, hb3⟩)
          refine ⟨⟨i, j + 1, cr, rfl, by go_num, by omega, by omega, hkp.trans (Keep.of_below hb3), ?_⟩, by simp [intOf]; omega⟩
          obtain ⟨h1, h2, h3, h4, h5⟩ := HH.out
          have hks := keptV_succ p vs F j _ _ HU.out HX.out
          rw [hpx2, if_pos rfl] at hks
          exact hid ⟨(hb3.block b0 hbz).trans h1, h2, by rw [hks]; exact h3, by rw [hks]; exact h4, fun q hq1 hq2 => h5 q (by omega) hq2⟩
      · obtain rfl : j = n := by omega
        have hcl := HCL.out wr i hij
        have hcs : ∀ q, q < j - i → (wr.cell? ⟨b0, i + q, none⟩).isSome = true := by
          intro q hq
          obtain ⟨h1, h2, _⟩ := HH.out
          have : i + q < cr.size := by omega
          simp [World.cell?, h1, this]
        have hfs : ∀ q, q < j - i → wr.frozen? ⟨b0, i + q, none⟩ = false := by
          intro q hq
          obtain ⟨h1, _⟩ := HH.out
          simp [World.frozen?, h1]
        have hcl2 := fun ty c => hcl ty c hcs hfs
        clear hcl hcs hfs
        go_wp2
        go_ret
        obtain ⟨h1, h2, h3, h4, h5⟩ := HH.out
        obtain ⟨c', k1, k2, k3⟩ := setCells_block (List.replicate (j - i) (Value.slice none 0 0)) i wr cr h1
        have hkeep := hkp.trans (Keep.setCells b0 (List.replicate (j - i) (Value.slice none 0 0)) i wr)
        have hfin := keptV_all p vs F HVL.out
        rw [HF.out] at hfin
        have hlen : (F.filter (fun x => !p x)).length = i := by rw [← hfin, List.length_map, h3]
        refine ⟨.slice (some ⟨b0, 0, none⟩) i cap, rfl, ⟨(keptV p vs F j).map Prod.fst, ⟨by rw [List.length_map, h3, hlen]; omega, .inr ⟨b0, cap, c', by rw [hlen], hbase, k1, by omega, by unfold maxLen; omega, by omega, ?_⟩⟩, fun k hk => (by simp [Value.ownBlock] at hk; subst hk; exact hS), fun q hq => ?_⟩, hkeep⟩
        · rw [hlen, Nat.mul_one, ← h4]
          apply List.ext_getElem?
          intro q
          rw [List.getElem?_take, List.getElem?_take]
          by_cases e : q < i
          · rw [if_pos e, if_pos e]; simpa using k3 q e
          · rw [if_neg e, if_neg e]
        · have hq' : q < (keptV p vs F j).length := by rw [h3, ← hlen]; exact hq
          refine ⟨((keptV p vs F j)[q]).1, by rw [List.getElem?_map, List.getElem?_eq_getElem hq']; rfl, ?_⟩
          obtain ⟨i2, m1, m2⟩ := keptV_mem p vs F j _ (List.getElem_mem hq')
          have hE := HEL.out _ hkeep i2 _ _ m1 m2
          have e : (F.filter (fun x => !p x))[q] = ((keptV p vs F j)[q]).2 := by
            have : (F.filter (fun x => !p x))[q]? = some ((keptV p vs F j)[q]).2 := by rw [← hfin, List.getElem?_map, List.getElem?_eq_getElem hq']; rfl
            rw [List.getElem?_eq_getElem hq] at this
            exact Option.some.inj this
          rw [e]
          obtain ⟨a', n', cp', e0, e1, e2, e3⟩ := hE
          exact ⟨a', n', cp', e0, e1, e2, fun z hz => by obtain ⟨b, off, f1, f2, f3, f4, f5⟩ := e3 z hz; exact ⟨b, off, f1, f2.2, f3, f4, f5⟩⟩
end Go.Proofs.Ytdcflpfaaeijoaa
