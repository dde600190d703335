/- Masks that a call has made itself; walks of fault.Valid, deeds, faulty. -/
import Derived.Test.YthaampmdponhbaaGreatDoorFltE
import Derived.Test.YthaampmdponhbaaGreatDoorHeld
import Derived.Lib.SliceRun
namespace Go.Proofs.YthaampmdponhbaaGreatDoor
open Go.RowKit
set_option linter.unusedVariables false

/-- block g is a row of ints, maybe with room behind them -/
def SpRow (w : World) (g : Nat) (l : List Int) : Prop := ∃ sp : List Value, w.heap[g]? = some (.cells (l.map (Value.int .i64) ++ sp).toArray 3 (0, 0))
theorem SpRow.lt {w : World} {g : Nat} {l : List Int} (h : SpRow w g l) : g < w.heap.size := by obtain ⟨sp, h⟩ := h; exact (Array.getElem?_eq_some_iff.1 h).1
theorem SpRow.cell {w : World} {g : Nat} {l : List Int} (h : SpRow w g l) {j : Nat} (hj : j < l.length) : w.cell? ⟨g, j, none⟩ = some (.int .i64 (l[j]?.getD 0)) := by
  obtain ⟨sp, h⟩ := h
  simp [World.cell?, h, List.getElem?_append_left, hj]
theorem SpRow.frozen {w : World} {g : Nat} {l : List Int} (h : SpRow w g l) (j : Nat) : w.frozen? ⟨g, j, none⟩ = false := by
  obtain ⟨sp, h⟩ := h
  simp [World.frozen?, h]
theorem SpRow.keep {w w' : World} {g : Nat} {l : List Int} (h : SpRow w g l) (hk : w'.heap[g]? = w.heap[g]?) : SpRow w' g l := by
  obtain ⟨sp, h⟩ := h; exact ⟨sp, hk.trans h⟩
theorem SpRow.set {w : World} {g : Nat} {l : List Int} (h : SpRow w g l) (j : Nat) (hj : j < l.length) (n : Int) : SpRow (w.setCell ⟨g, j, none⟩ (.int .i64 n)) g (l.set j n) := by
  obtain ⟨sp, h⟩ := h
  refine ⟨sp, ?_⟩
  rw [cells_set h]
  congr 2
  apply Array.toList_inj.1
  simp [List.set_append, hj, List.map_set]
theorem SpRow.ints {w : World} {g : Nat} {l : List Int} (h : SpRow w g l) : IntsAt w (some ⟨g, 0, none⟩) l :=
  fun j hj => ⟨g, 0, rfl, h.lt, by rw [Nat.zero_add]; exact h.cell hj⟩

def setL (l : List Int) (o : Nat) : List Int → List Int
  | [] => l
  | x :: r => setL (l.set o x) (o + 1) r
theorem length_setL : ∀ (xs l : List Int) (o : Nat), (setL l o xs).length = l.length
  | [], _, _ => rfl
  | x :: r, l, o => by rw [setL, length_setL r]; simp
theorem getElem?_setL : ∀ (xs l : List Int) (o j : Nat), o + xs.length ≤ l.length → (setL l o xs)[j]? = if o ≤ j ∧ j < o + xs.length then xs[j - o]? else l[j]?
  | [], l, o, j, _ => by simp [setL]; omega
  | x :: r, l, o, j, h => by
    simp only [List.length_cons] at h
    rw [setL, getElem?_setL r (l.set o x) (o + 1) j (by simp; omega)]
    by_cases h1 : o + 1 ≤ j ∧ j < o + 1 + r.length
    · rw [if_pos h1, if_pos (by simp; omega)]
      rw [show j - o = (j - (o + 1)) + 1 by omega]; simp
    · rw [if_neg h1, List.getElem?_set]
      by_cases h2 : o = j
      · subst h2
        have : o < l.length := by omega
        simp [this]
      · rw [if_neg h2, if_neg (by simp; omega)]
theorem setL_all (l : List Int) : setL l 0 (List.replicate l.length 0) = List.replicate l.length 0 := by
  apply List.ext_getElem?
  intro j
  rw [getElem?_setL _ _ _ _ (by simp)]
  by_cases h : j < l.length <;> simp [h]

theorem SpRow.setCells : ∀ (xs : List Int) (o : Nat) (w : World) (g : Nat) (l : List Int), SpRow w g l → o + xs.length ≤ l.length → SpRow (w.setCells g o (xs.map (Value.int .i64))) g (setL l o xs)
  | [], _, _, _, _, h, _ => h
  | x :: r, o, w, g, l, h, hl => by
    simp only [List.length_cons] at hl
    rw [List.map_cons, World.setCells, setL]
    exact SpRow.setCells r (o + 1) _ g _ (h.set o (by omega) x) (by simp; omega)
theorem Keep.sets : ∀ (vs : List Value) (o : Nat) (w : World) (g : Nat), Keep (fun k => k ≠ g) w (w.setCells g o vs)
  | [], _, w, _ => Keep.refl _ _
  | v :: r, o, w, g => (Keep.set w g o v).trans (Keep.sets r (o + 1) _ g)

/-- a mask that the call has made since base: its rows lie in blocks of their own -/
def OwnM (w : World) (base : Nat) (v : Value) (M : Mask) : Prop :=
  ∃ (g : Nat → Nat) (vs : List Value), w.ownsRow base 27 1 v M.length vs ∧ (∀ i j, i < M.length → j < M.length → g i = g j → i = j) ∧
    ∀ j (hj : j < M.length), (∃ cap, vs[j]? = some (.slice (some ⟨g j, 0, none⟩) M[j].length cap)) ∧ base ≤ g j ∧ SpRow w (g j) M[j]

theorem OwnM.nil (w : World) (base : Nat) : OwnM w base (.slice none 0 0) [] :=
  ⟨fun _ => 0, [], World.ownsRow_nil _ _ _ _, fun i j hi => by simp at hi, fun j hj => by simp at hj⟩

theorem OwnM.keep {w w' : World} {base : Nat} {v : Value} {M : Mask} (h : OwnM w base v M) (hk : ∀ k, base ≤ k → k < w.heap.size → w'.heap[k]? = w.heap[k]?) : OwnM w' base v M := by
  obtain ⟨g, vs, ho, hi, he⟩ := h
  refine ⟨g, vs, ⟨ho.1, ?_⟩, hi, fun j hj => ?_⟩
  · rcases ho.2 with hn | ⟨g, cap, cur, rfl, hb, hgg, rest⟩
    · exact .inl hn
    · exact .inr ⟨g, cap, cur, rfl, hb, (hk g hb (Array.getElem?_eq_some_iff.1 hgg).1).trans hgg, rest⟩
  · obtain ⟨h1, h2, h3⟩ := he j hj
    exact ⟨h1, h2, h3.keep (hk _ h2 h3.lt)⟩

theorem OwnM.at {w : World} {base : Nat} {v : Value} {M : Mask} (h : OwnM w base v M) (i : Nat) (hi : i < M.length) :
    ∃ g0 cap gi c, v = .slice (some ⟨g0, 0, none⟩) M.length cap ∧ g0 < w.heap.size ∧ w.cell? ⟨g0, i, none⟩ = some (.slice (some ⟨gi, 0, none⟩) M[i].length c) ∧ base ≤ gi ∧ SpRow w gi M[i] ∧
      ∀ w' r', r'.length = M[i].length → SpRow w' gi r' → (∀ k, k < w.heap.size → k ≠ gi → w'.heap[k]? = w.heap[k]?) → OwnM w' base v (M.set i r') := by
  obtain ⟨g, vs, ho, hin, he⟩ := h
  rcases ho.2 with ⟨rfl, h0⟩ | ⟨g0, cap, cur, rfl, hbg, hgg, hnc, hcm, hsz, htk⟩
  · omega
  obtain ⟨⟨c, h1⟩, h2, h3⟩ := he i hi
  have hc := World.ownsRow.cellAt (w := w) (base := base) (e := 27) (size := 1) (g := g0) (n := M.length) (cap := cap) (xs := vs) ⟨ho.1, .inr ⟨g0, cap, cur, rfl, hbg, hgg, hnc, hcm, hsz, htk⟩⟩ i (by omega)
  refine ⟨g0, cap, g i, c, rfl, (Array.getElem?_eq_some_iff.1 hgg).1, by rw [hc, h1], h2, h3, ?_⟩
  intro w' r' hl hr hk
  have hne : g0 ≠ g i := by
    intro e
    obtain ⟨sp, h3⟩ := h3
    rw [← e, hgg] at h3
    cases h3
  refine ⟨g, vs, ⟨by simpa using ho.1, .inr ⟨g0, cap, cur, by simp, hbg, (hk g0 (Array.getElem?_eq_some_iff.1 hgg).1 hne).trans hgg, by simpa using hnc, hcm, hsz, by simpa using htk⟩⟩, fun a b ha hb => hin a b (by simpa using ha) (by simpa using hb), fun j hj => ?_⟩
  have hj' : j < M.length := by simpa using hj
  obtain ⟨⟨c', h1'⟩, h2', h3'⟩ := he j hj'
  by_cases e : i = j
  · subst e
    refine ⟨⟨c', ?_⟩, h2', ?_⟩
    · rw [h1']; simp [hl]
    · simpa using hr
  · refine ⟨⟨c', ?_⟩, h2', ?_⟩
    · rw [h1']; simp [List.getElem_set_ne e]
    · rw [List.getElem_set_ne e]
      exact h3'.keep (hk _ h3'.lt (fun e' => e ((hin j i hj' hi e').symm)))

theorem OwnM.rows {w : World} {base : Nat} {v : Value} {M : Mask} (h : OwnM w base v M) (hl : ∀ r ∈ M, r.length ≤ maxLen) : ∃ a cap, v = .slice a M.length cap ∧ RowsAt w a M := by
  by_cases h0 : M = []
  · subst h0
    obtain ⟨g, vs, ho, _⟩ := h
    obtain ⟨a, cap, rfl⟩ := ownsRow_slice ho
    exact ⟨a, cap, rfl, fun j hj => by simp at hj⟩
  · have hp : 0 < M.length := List.length_pos_iff.2 h0
    obtain ⟨g0, cap, _, _, rfl, _⟩ := h.at 0 hp
    refine ⟨some ⟨g0, 0, none⟩, cap, rfl, fun j hj => ?_⟩
    obtain ⟨g0', cap', gi, c, e, hlt, hc, _, hr, _⟩ := h.at j hj
    cases e
    exact ⟨g0, 0, some ⟨gi, 0, none⟩, _, c, rfl, hlt, by rw [Nat.zero_add]; exact hc, rfl, hl _ (List.getElem_mem hj), hr.ints⟩

/-- a fault of a mask -/
def validF (M : Mask) (f : Flt) : Bool := okM M && okF M f

theorem fltBox (w : World) (f : Flt) : ∃ wf, wf = w.alloc (.cells #[.int .i64 f.kind, .int .i64 f.row, .int .i64 f.pixel] 25) ∧ Below w.heap.size w wf ∧ (∀ W, Below wf.heap.size wf W → w.heap.size < W.heap.size ∧ W.cell? ⟨w.heap.size, 0, none⟩ = some (.int .i64 f.kind) ∧ W.cell? ⟨w.heap.size, 1, none⟩ = some (.int .i64 f.row) ∧ W.cell? ⟨w.heap.size, 2, none⟩ = some (.int .i64 f.pixel)) := by
  refine ⟨_, rfl, (Below.refl _ _).alloc (Nat.le_refl _) _, fun W hb => ?_⟩
  have hs := hb.size
  simp at hs
  refine ⟨by omega, ?_, ?_, ?_⟩ <;> (rw [hb.cell (p := ⟨w.heap.size, _, none⟩) (by simp), World.cell?_alloc_at _ _ _ _ rfl]; rfl)

theorem faultValid_c (w : World) (a : Option Addr) (n cap : Nat) (M : Mask) (hn : M.length = n) (hm : n ≤ maxLen) (H : RowsAt w a M) (f : Flt) :
    Calls Tryz.prog 31 #[.slice a n cap, f.val] w fun e w' => e = .returned (.bool (validF M f)) ∧ Below w.heap.size w w' := by
  obtain ⟨wf, hwf, hb0, hcells⟩ := fltBox w f
  have HV := hid (maskValid_c wf a n cap M hn hm (H.below hb0))
  have HFV := hid (fun (hM : okM M = true) (W : World) (hb : Below w.heap.size w W) => fvalid_c W a n cap M hn (H.below hb) hM f)
  have HC := hid hcells
  clear hn H hcells
  obtain ⟨kind, row, pixel⟩ := f
  unfold Flt.val at HFV ⊢
  simp only [] at HFV HC hwf ⊢
  cases hv : okM M
  · rw [hv] at HV
    have HE := hid hv
    clear hv
    go_enter Tryz.func31, Tryz.ntmps31
    go_wp2_with fail
    rw [← hwf]
    clear hwf
    go_wp2_with (go_at_call 62; refine HV.out.mono ?_; rintro e w1 ⟨rfl, hb1⟩)
    go_ret
    exact ⟨ret_bool (by unfold validF; rw [HE.out]; rfl), chain hb0 hb1⟩
  · rw [hv] at HV
    have HE := hid hv
    have HF2 := hid (HFV.out hv)
    clear hv HFV
    go_enter Tryz.func31, Tryz.ntmps31
    go_wp2_with fail
    rw [← hwf]
    clear hwf
    go_wp2_with (go_at_call 62; refine HV.out.mono ?_; rintro e w1 ⟨rfl, hb1⟩; obtain ⟨_, f0, f1, f2⟩ := HC.out w1 hb1)
    go_wp2_with (go_at_call 64; refine (HF2.out _ (chain hb0 hb1)).mono ?_; rintro e w2 ⟨rfl, hb2⟩)
    go_ret
    exact ⟨ret_bool (by unfold validF; rw [HE.out]; rfl), chain (chain hb0 hb1) hb2⟩
end Go.Proofs.YthaampmdponhbaaGreatDoor
