/- Walk: the function 'clashes' within Clash of package bit. -/
import Derived.Test.YtdcflpfaaeijoaaBitAN
import Derived.Laws.BitsLemmas
namespace Go.Proofs.Ytdcflpfaaeijoaa
open Go.RowKit Go.Maps
set_option linter.unusedVariables false

theorem and_i64 {a b : Nat} (ha : a < 4096) (hb : b < 4096) : bits .and .i64 (a : Int) (b : Int) = ((a &&& b : Nat) : Int) :=
  (bits_nat .i64 12 (by decide) (fun n h0 h1 => IntWalk.i64_in _ (by simp at h1; omega)) a b (by omega) (by omega)).1
theorem or_i64 {a b : Nat} (ha : a < 4096) (hb : b < 4096) : bits .or .i64 (a : Int) (b : Int) = ((a ||| b : Nat) : Int) :=
  (bits_nat .i64 12 (by decide) (fun n h0 h1 => IntWalk.i64_in _ (by simp at h1; omega)) a b (by omega) (by omega)).2

/-- the keys of a map are these numbers -/
def KeysB (D : DataW Unit) (ms : List Nat) : Prop := IsMap D ∧ (∀ m ∈ ms, Maps.has D (.int .i64 (m : Int)) = true) ∧ ∀ x : Int, Maps.has D (.int .i64 x) = true → ∃ m ∈ ms, x = (m : Int)
theorem KeysB.nil : KeysB (.map []) [] := ⟨⟨[], rfl⟩, fun m hm => by simp at hm, fun x hx => by cases hx⟩
theorem put_isMap {D : DataW Unit} (h : IsMap D) (k : Lit) (d : DataW Unit) : IsMap (D.put k d) := by
  obtain ⟨es, rfl⟩ := h
  exact ⟨_, rfl⟩
theorem KeysB.put {D : DataW Unit} {ms : List Nat} (h : KeysB D ms) (m : Nat) (d : DataW Unit) : KeysB (D.put (.int .i64 (m : Int)) d) (ms ++ [m]) := by
  refine ⟨put_isMap h.1 _ _, fun k hk => ?_, fun x hx => ?_⟩
  · by_cases e : k = m
    · subst e; exact has_put_same h.1 (show WideAt.IsKeyLit (.int .i64 (k : Int)) from trivial) _
    · rw [has_put_other (by intro h'; apply e; simp at h'; omega)]
      rcases List.mem_append.1 hk with hk | hk
      · exact h.2.1 k hk
      · simp at hk; exact absurd hk e
  · by_cases e : x = (m : Int)
    · exact ⟨m, by simp, e⟩
    · rw [has_put_other (by intro h'; apply e; simpa using h')] at hx
      obtain ⟨m', hm', e'⟩ := h.2.2 x hx
      exact ⟨m', by simp [hm'], e'⟩

theorem plainElem_bool_inv {P : Program} {e : TypeId} (he : P.underlying e = some .bool) {v : Value} {z : DataW Unit × List MemPlace} (h : plainElem (H := Unit) P e v = some z) : ∃ c, v = .bool c := by
  unfold plainElem at h
  rw [he] at h
  cases v <;> simp at h
  exact ⟨_, rfl⟩

/-- the step of a loop over a map whose keys are ints and whose elements are truths -/
theorem next_ib {P : Program} (w : World) {ops : Array Oper} {rest : List Oper} {o : Oper} {a : Act} {Q : Exit → Act → World → Prop} (hg : o.guard = none) (it : Operand) (hop : o.op = Op.next it false) (k e : TypeId) (K : Keyed P k) (hk : P.underlying k = some (.int .i64))
    (b r n : Nat) (D : DataW Unit) (left : Lit → Bool) (cnt : Nat) (hit : a.eval it = .pointer (some ⟨r, 0, none⟩)) (h : w.ranges P k (plainElem P e) b r n D left cnt)
    (hDone : Stop ((∀ kl, left kl = false) → wpList P ops Q rest (a.put o.dst (.tuple #[.bool false])) w))
    (hMore : Stop (∀ (x : Int) (c : Value) (w' : World) (cnt' : Nat), left (.int .i64 x) = true → w'.ranges P k (plainElem P e) b r n D (fun z => left z && !z.sameKey (.int .i64 x)) cnt' → cnt' < cnt →
      w.grownBy w' (some r) → w'.heap.size = w.heap.size → (Instr.entry (.pointer (some ⟨r, 0, none⟩))).run P w' = .ok (.tuple #[.int .i64 x, c]) w' → wpList P ops Q rest (a.put o.dst (.tuple #[.bool true, .int .i64 x, c])) w')) :
    wpList P ops Q (o :: rest) a w :=
  wpList_next_ranges w hg it hop k K (plainElem P e) (Value.int .i64) (fun v : Value => v) (fun key kl hkey => by obtain ⟨x, rfl, _⟩ := Maps.keyOf_int_inv hk hkey; exact ⟨x, rfl⟩) (fun v y hv => ⟨v, rfl⟩)
    b r n D left cnt hit h (fun _ hl => Stop.of hDone hl) (fun x c kl y w' cnt' hkey hlk hv hat hrg hlt hgr hsz hen => by
      obtain ⟨x', ex, rfl, hwx⟩ := Maps.keyOf_int_inv hk hkey
      cases ex
      exact Stop.of hMore x c w' cnt' hlk hrg hlt hgr hsz hen)

def clM (ms : List Nat) (s : Nat) : Bool := ms.all fun m => (m &&& s) != s

set_option maxRecDepth 100000 in
set_option maxHeartbeats 1000000 in
theorem clash1_c (w : World) (B n : Nat) (D : DataW Unit) (ms : List Nat) (hk : KeysB D ms) (hms : ∀ m ∈ ms, m < 4096) (hown : w.ownsMap Try.prog 3 (plainElem (H := Unit) Try.prog 4) B n D)
    (bx : Nat) (hbx : w.cell? ⟨bx, 0, none⟩ = some (.map (some B))) (s : Nat) (hs : s < 4096) :
    Calls Try.prog 82 #[.int .i64 s, .pointer (some ⟨bx, 0, none⟩)] w fun e w' => e = .returned (.bool (clM ms s)) ∧ Below w.heap.size w w' := by
  have HK := hid hk
  have HMS := hid hms
  have HO := hid hown
  clear hk hms hown
  go_enter Try.func82, Try.ntmps82
  go_wp2_with (at_range; refine wpList_range_own _ rfl _ 92 rfl 3 4 law3 Try.underlying92 _ B n _ rfl HO.out ?_; refine Stop.of ?_)
  refine Stop.go ?_
  intro w0 hrg0 hg0 hs0
  have HRG := hid hrg0
  clear hrg0
  go_wp2
  go_loopw [] (fun wr => ∃ (left : Lit → Bool) (cnt : Nat), wr.ranges Try.prog 3 (plainElem (H := Unit) Try.prog 4) B w.heap.size n D left cnt ∧ w.grownBy wr (some w.heap.size) ∧ w.heap.size + 1 = wr.heap.size ∧
      Hid ((∀ m ∈ ms, left (.int .i64 (m : Int)) = false → ((m &&& s) != s) = true) ∧ ∀ x : Int, left (.int .i64 x) = true → ∃ m ∈ ms, x = (m : Int)))
    (fun wr => wr.rangeLeft B w.heap.size)
  case atStart =>
    refine ⟨_, _, HRG.out, hg0.but _, hs0.symm, hid ⟨fun m hm h => ?_, HK.out.2.2⟩⟩
    rw [HK.out.2.1 m hm] at h; cases h
  case round =>
    obtain ⟨left, cnt, hrg, hgw, hsw, HH⟩ := hrel
    have hbe : Below w.heap.size w wr := (Below.refl _ w).grown hgw (Nat.le_refl _) (fun j hj => by cases hj; exact Nat.le_refl _)
    have HR := hid hrg
    go_wp2_with (at_next; refine next_ib _ rfl _ rfl 3 4 law3 Try.underlying3 B w.heap.size n _ _ _ rfl hrg ?_ ?_)
    · refine Stop.go ?_
      intro hl0
      have HL0 := hid hl0
      clear hl0 hrg
      go_wp2
      go_ret
      refine ⟨ret_bool ?_, hbe⟩
      unfold clM
      symm
      rw [List.all_eq_true]
      exact fun m hm => HH.out.1 m hm (HL0.out _)
    · refine Stop.go ?_
      intro x c w1 cnt1 hlx hrg1 hlt hg1 hs1 hen
      obtain ⟨m, hm, rfl⟩ := HH.out.2 x hlx
      have hgw1 := hgw.andThen hg1 (fun j hj => by cases hj; exact Or.inr rfl)
      have hs2 : w.heap.size + 1 = w1.heap.size := by omega
      have hand := and_i64 (HMS.out m hm) hs
      have HR1 := hid hrg1
      have HG := hid hgw1
      have HM := hid hm
      have hb1 : Below w.heap.size w w1 := (Below.refl _ w).grown hgw1 (Nat.le_refl _) (fun j hj => by cases hj; exact Nat.le_refl _)
      have HB1 := hid hb1
      clear hrg hrg1 hgw1 hb1 hm
      by_cases hc : (m &&& s) = s
      · have hcb : (((m &&& s : Nat) : Int) == (s : Int)) = true := by rw [hc]; simp
        have HC := hid hc
        clear hc
        go_wp2
        go_ret
        refine ⟨ret_bool ?_, HB1.out⟩
        symm
        unfold clM
        rw [List.all_eq_false]
        exact ⟨m, HM.out, by simp [HC.out]⟩
      · have hcb : (((m &&& s : Nat) : Int) == (s : Int)) = false := by simp; exact fun h => hc (by exact_mod_cast h)
        have HC := hid hc
        clear hc
        go_wp2
        refine ⟨⟨_, cnt1, HR1.out, HG.out, hs2, hid ⟨fun m' hm' hl => ?_, fun x' hx' => ?_⟩⟩, ?_⟩
        · by_cases e : m' = m
          · subst e; simpa using HC.out
          · refine HH.out.1 m' hm' ?_
            cases h : left (.int .i64 (m' : Int))
            · rfl
            · rw [h] at hl
              simp [Lit.sameKey] at hl
              exact absurd (by exact_mod_cast hl) e
        · simp at hx'
          exact HH.out.2 x' hx'.1
        · rw [HR1.out.left_eq, HR.out.left_eq]; exact hlt
end Go.Proofs.Ytdcflpfaaeijoaa
