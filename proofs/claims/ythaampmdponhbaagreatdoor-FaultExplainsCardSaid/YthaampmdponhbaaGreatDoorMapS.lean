/- Maps that the call makes, whose keys are texts: with truths and with numbers as elements. -/
import Derived.Test.YthaampmdponhbaaGreatDoorRangeV
import Derived.Maps.OwnIn
import Derived.Maps.OwnOps
import Derived.Maps.Views
import Derived.StringKeys
namespace Go.Proofs.YthaampmdponhbaaGreatDoor
open Go.RowKit Go.Maps
set_option linter.unusedVariables false

theorem isKey_string (s : List UInt8) : WideAt.IsKeyLit (.string s) := trivial
theorem keyS {P : Program} {k : TypeId} (hk : P.underlying k = some .string) {s : ByteArray} (h : s.size ≤ maxLen) : keyOf P k (.string s) = some (.string s.data.toList) := by
  first | exact keyOf_string_mk hk h | exact WideMaps.keyOf_string_mk hk h

theorem plainElem_bool_inv {P : Program} {e : TypeId} (he : P.underlying e = some .bool) {v : Value} {z : DataW Unit × List MemPlace} (h : plainElem (H := Unit) P e v = some z) : ∃ c, v = .bool c ∧ z = (.lit (.bool c), []) := by
  unfold plainElem at h
  rw [he] at h
  cases v <;> simp at h
  exact ⟨_, rfl, h.symm⟩

/-- a map of truths reads as p -/
def MapSB (D : DataW Unit) (p : List UInt8 → Bool) : Prop := IsMap D ∧ ∀ s, D.atKey (.string s) (.lit (.bool false)) = .lit (.bool (p s))
theorem MapSB.nil : MapSB (.map []) (fun _ => false) := ⟨⟨[], rfl⟩, fun s => rfl⟩
theorem MapSB.put {D : DataW Unit} {p : List UInt8 → Bool} (h : MapSB D p) (s : List UInt8) (b : Bool) : MapSB (D.put (.string s) (.lit (.bool b))) (fun t => if t = s then b else p t) := by
  refine ⟨h.1.put _ _, fun t => ?_⟩
  by_cases e : t = s
  · subst e; rw [atKey_put_same h.1 (isKey_string t)]; simp
  · rw [atKey_put_other (fun h' => e (by simpa using h')), h.2 t]; simp [e]

/-- a map of numbers reads as f -/
def MapSI (D : DataW Unit) (f : List UInt8 → Option Int) : Prop := IsMap D ∧ ∀ s, has D (.string s) = (f s).isSome ∧ D.atKey (.string s) (.lit (.int .i64 0)) = .lit (.int .i64 ((f s).getD 0))
theorem MapSI.nil : MapSI (.map []) (fun _ => none) := ⟨⟨[], rfl⟩, fun s => ⟨rfl, rfl⟩⟩
theorem MapSI.put {D : DataW Unit} {f : List UInt8 → Option Int} (h : MapSI D f) (s : List UInt8) (n : Int) : MapSI (D.put (.string s) (.lit (.int .i64 n))) (fun t => if t = s then some n else f t) := by
  refine ⟨h.1.put _ _, fun t => ?_⟩
  by_cases e : t = s
  · subst e; rw [atKey_put_same h.1 (isKey_string t), has_put_same h.1 (isKey_string t)]; simp
  · rw [atKey_put_other (fun h' => e (by simpa using h')), has_put_other (fun h' => e (by simpa using h')), (h.2 t).1, (h.2 t).2]; simp [e]

section
variable {P : Program} {F : Fence} {nF : Nat}

/-- 'm[k]' at truths -/
theorem wpListIn_lookup_sb (w : World) {ops : Array Oper} {rest : List Oper} {o : Oper} {a : Act} {Q : Exit → Act → World → Prop}
    (hg : o.guard = none) (m x : Operand) (t : TypeId) (hop : o.op = Op.lookup t m x false)
    (k e : TypeId) (hk : P.underlying k = some .string) (ht : P.underlying t = some (.map k e)) (he : P.underlying e = some .bool) (hz : (zeroValue e).run P w = .ok (.bool false) w) (b n : Nat) (D : DataW Unit) (p : List UInt8 → Bool) (hD : MapSB D p)
    (hm : a.eval m = .map (some b)) (hown : w.ownsMap P k (plainElem P e) b n D) (s : ByteArray) (hx : a.eval x = .string s) (hs : s.size ≤ maxLen)
    (hK : wpListIn F nF P ops Q rest (a.put o.dst (.bool (p s.data.toList))) w) :
    wpListIn F nF P ops Q (o :: rest) a w := by
  refine wpListIn_plain hg fun K' hK' => ?_
  obtain ⟨v, ps, hrun, hv⟩ := hown.lookup (string_keyed hk) ht hz (plainElem_bool he false) (keyS hk hs)
  obtain ⟨c, rfl, hc⟩ := plainElem_bool_inv he hv
  rw [hD.2] at hc
  simp only [Prod.mk.injEq, DataW.lit.injEq, Lit.bool.injEq] at hc
  rw [← hc.1] at hrun
  unfold Oper.wpIn
  refine ⟨by simp [Oper.about, hop], ?_⟩
  rw [Oper.semAt_plain F _ _ (by rw [hop]; intro c hc'; cases hc')]
  simp [execOp, hop, hm, hx, hrun, Result.andThen]
  exact hK' _ _ hK

theorem wpList_lookup_sb (w : World) {ops : Array Oper} {rest : List Oper} {o : Oper} {a : Act} {Q : Exit → Act → World → Prop}
    (hg : o.guard = none) (m x : Operand) (t : TypeId) (hop : o.op = Op.lookup t m x false)
    (k e : TypeId) (hk : P.underlying k = some .string) (ht : P.underlying t = some (.map k e)) (he : P.underlying e = some .bool) (hz : (zeroValue e).run P w = .ok (.bool false) w) (b n : Nat) (D : DataW Unit) (p : List UInt8 → Bool) (hD : MapSB D p)
    (hm : a.eval m = .map (some b)) (hown : w.ownsMap P k (plainElem P e) b n D) (s : ByteArray) (hx : a.eval x = .string s) (hs : s.size ≤ maxLen)
    (hK : wpList P ops Q rest (a.put o.dst (.bool (p s.data.toList))) w) :
    wpList P ops Q (o :: rest) a w := by
  refine wpList_plain hg fun K' hK' => ?_
  obtain ⟨v, ps, hrun, hv⟩ := hown.lookup (string_keyed hk) ht hz (plainElem_bool he false) (keyS hk hs)
  obtain ⟨c, rfl, hc⟩ := plainElem_bool_inv he hv
  rw [hD.2] at hc
  simp only [Prod.mk.injEq, DataW.lit.injEq, Lit.bool.injEq] at hc
  rw [← hc.1] at hrun
  unfold Oper.wp
  simp [execOp, hop, hm, hx, hrun, Result.andThen]
  exact hK' _ _ hK

/-- 'm[k]' and 'v, ok := m[k]' at numbers -/
theorem wpList_lookup_si (w : World) {ops : Array Oper} {rest : List Oper} {o : Oper} {a : Act} {Q : Exit → Act → World → Prop}
    (hg : o.guard = none) (m x : Operand) (t : TypeId) (c : Bool) (hop : o.op = Op.lookup t m x c)
    (k e : TypeId) (hk : P.underlying k = some .string) (ht : P.underlying t = some (.map k e)) (he : P.underlying e = some (.int .i64)) (hz : (zeroValue e).run P w = .ok (.int .i64 0) w) (b n : Nat) (D : DataW Unit) (f : List UInt8 → Option Int) (hD : MapSI D f)
    (hm : a.eval m = .map (some b)) (hown : w.ownsMap P k (plainElem P e) b n D) (s : ByteArray) (hx : a.eval x = .string s) (hs : s.size ≤ maxLen)
    (hK : wpList P ops Q rest (a.put o.dst (if c then .tuple #[.int .i64 ((f s.data.toList).getD 0), .bool (f s.data.toList).isSome] else .int .i64 ((f s.data.toList).getD 0))) w) :
    wpList P ops Q (o :: rest) a w := by
  refine wpList_plain hg fun K' hK' => ?_
  obtain ⟨h1, h2⟩ := hD.2 s.data.toList
  cases c
  · obtain ⟨v, ps, hrun, hv⟩ := hown.lookup (string_keyed hk) ht hz (plainElem_int he (by decide)) (keyS hk hs)
    obtain ⟨c, rfl, hc, _⟩ := plainElem_int_inv he hv
    rw [h2] at hc
    simp only [Prod.mk.injEq, DataW.lit.injEq, Lit.int.injEq, true_and] at hc
    rw [← hc.1] at hrun
    unfold Oper.wp
    simp [execOp, hop, hm, hx, hrun, Result.andThen]
    exact hK' _ _ (by simpa using hK)
  · obtain ⟨v, ps, hrun, hv⟩ := hown.look_ok (string_keyed hk) ht hz (plainElem_int he (by decide)) (keyS hk hs)
    obtain ⟨c, rfl, hc, _⟩ := plainElem_int_inv he hv
    rw [h2] at hc
    simp only [Prod.mk.injEq, DataW.lit.injEq, Lit.int.injEq, true_and] at hc
    rw [← hc.1, h1] at hrun
    unfold Oper.wp
    simp [execOp, hop, hm, hx, hrun, Result.andThen]
    exact hK' _ _ (by simpa using hK)

theorem wpList_lookup_si_ok (w : World) {ops : Array Oper} {rest : List Oper} {o : Oper} {a : Act} {Q : Exit → Act → World → Prop}
    (hg : o.guard = none) (m x : Operand) (t : TypeId) (hop : o.op = Op.lookup t m x true)
    (k e : TypeId) (hk : P.underlying k = some .string) (ht : P.underlying t = some (.map k e)) (he : P.underlying e = some (.int .i64)) (hz : (zeroValue e).run P w = .ok (.int .i64 0) w) (b n : Nat) (D : DataW Unit) (f : List UInt8 → Option Int) (hD : MapSI D f)
    (hm : a.eval m = .map (some b)) (hown : w.ownsMap P k (plainElem P e) b n D) (s : ByteArray) (hx : a.eval x = .string s) (hs : s.size ≤ maxLen) (X : Option Int) (hX : X = f s.data.toList)
    (hK : wpList P ops Q rest (a.put o.dst (.tuple #[.int .i64 (X.getD 0), .bool X.isSome])) w) :
    wpList P ops Q (o :: rest) a w := by
  subst hX
  exact wpList_lookup_si w hg m x t true hop k e hk ht he hz b n D f hD hm hown s hx hs (by rw [if_pos rfl]; exact hK)

theorem wpList_lookup_si_one (w : World) {ops : Array Oper} {rest : List Oper} {o : Oper} {a : Act} {Q : Exit → Act → World → Prop}
    (hg : o.guard = none) (m x : Operand) (t : TypeId) (hop : o.op = Op.lookup t m x false)
    (k e : TypeId) (hk : P.underlying k = some .string) (ht : P.underlying t = some (.map k e)) (he : P.underlying e = some (.int .i64)) (hz : (zeroValue e).run P w = .ok (.int .i64 0) w) (b n : Nat) (D : DataW Unit) (f : List UInt8 → Option Int) (hD : MapSI D f)
    (hm : a.eval m = .map (some b)) (hown : w.ownsMap P k (plainElem P e) b n D) (s : ByteArray) (hx : a.eval x = .string s) (hs : s.size ≤ maxLen) (X : Int) (hX : (f s.data.toList).getD 0 = X)
    (hK : wpList P ops Q rest (a.put o.dst (.int .i64 X)) w) :
    wpList P ops Q (o :: rest) a w := by
  subst hX
  exact wpList_lookup_si w hg m x t false hop k e hk ht he hz b n D f hD hm hown s hx hs (by rw [if_neg (by simp)]; exact hK)
end
end Go.Proofs.YthaampmdponhbaaGreatDoor
