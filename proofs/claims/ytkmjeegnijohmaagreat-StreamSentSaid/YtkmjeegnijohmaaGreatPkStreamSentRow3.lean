/- Walks and plain laws for StreamSentRow, part 3. -/
import Derived.Laws.AppendOwnNone
import Derived.IntWalk
import Derived.Deep.RegionHeld3
import Derived.StillTailTactics
import Derived.Maps.RangeWalk
import Derived.Deep.CutRange
import Derived.Test.YtkmjeegnijohmaaGreatPkStreamSentRow2
namespace Go.Proofs.YtkmjeegnijohmaaGreat
open Go.RowKit
set_option linter.unusedVariables false

theorem run_append_nilsrc {P : Program} {w : World} (base : Nat) (t ty e : TypeId) (i : TypeInfo) (size c : Nat) (ht : P.underlying t = some (.slice e)) (hi : P.info? e = some i)
    (v : Value) (n : Nat) (xs : List Value) (hown : w.ownsRow base e size v n xs) : (Builtin.append_ #[t, t] ty #[v, .slice none 0 c]).run P w = .ok v w := by
  rcases hown.2 with ⟨rfl, rfl⟩ | ⟨g, cap, cur, rfl, _, _, hnc, _⟩
  · simp [Builtin.append_, run_underlying ht, sizeOf, typeInfo, hi, Builtin.lenOf, Builtin.firstCells]
  · simp [Builtin.append_, run_underlying ht, sizeOf, typeInfo, hi, Builtin.lenOf, Builtin.firstCells, hnc, storeCells]

theorem wpList_app {P : Program} (w : World) {ops : Array Oper} {rest : List Oper} {o : Oper} {a : Act} {Q : Exit → Act → World → Prop} (hgd : o.guard = none) (s x : Operand) (t : TypeId)
    (ho : o.op = .call { callee := .builtin .append, args := #[s, x], argTypes := #[t, t] })
    (base : Nat) (e : TypeId) (z : Value) (size bytes : Nat) (ht : P.underlying t = some (.slice e)) (hinfo : (P.info? e).map (fun i => (i.zero, i.size, i.bytes)) = some (some z, size, bytes))
    (hzs : z.cells.size = size) (hsz : 0 < size)
    (v : Value) (n : Nat) (xs : List Value) (hs : a.eval s = v) (hown : w.ownsRow base e size v n xs)
    (ao : Option Addr) (m c : Nat) (news : List Value) (hx : a.eval x = .slice ao m c) (hl : news.length = m * size) (hnone : ao = none → m = 0)
    (hnews : ∀ ad, ao = some ad → ∀ j u, news[j]? = some u → w.cell? (ad.add j) = some u) (h1 : ∀ u ∈ news, u.oneCell' = true)
    (h63 : n + m ≤ maxLen) (hbytes : (n + m) * bytes ≤ 140737488355328) (hbase : base ≤ w.heap.size)
    (h : ∀ a' c' w', w'.ownsRow base e size (.slice a' (n + m) c') (n + m) (xs ++ news) → w.grownBy w' v.ownBlock → wpList P ops Q rest (a.put o.dst (.slice a' (n + m) c')) w') : wpList P ops Q (o :: rest) a w := by
  obtain ⟨i, hi, hz, h2, h3⟩ := info_parts hinfo
  cases ao with
  | some ad =>
    refine wpList_append_own w hgd s x t ho base e i z size bytes ht hi hz h2 h3 hzs hsz v n xs hs hown ad m c news hx hl (hnews ad rfl) h1 h63 hbytes hbase ?_
    intro v' w' ho' hg _
    obtain ⟨a', c', rfl⟩ := ownsRow_slice ho'
    exact h a' c' w' ho' hg
  | none =>
    obtain rfl := hnone rfl
    have hnil : news = [] := List.eq_nil_of_length_eq_zero (by simpa using hl)
    subst hnil
    refine wpList_plain hgd fun K hK => ?_
    have hrun := run_append_nilsrc (P := P) (w := w) base t o.type e i size c ht hi v n xs hown
    obtain ⟨a', c', rfl⟩ := ownsRow_slice hown
    unfold Oper.wp
    simp [execOp, ho, resolve, invoke, builtin, hs, hx, hrun, Result.andThen]
    exact hK _ _ (h a' c' w (by simpa using hown) (World.grownBy.refl _ _))

theorem ints_news {w : World} {a : Option Addr} {l : List Int} (H : IntsAt w a l) : ∀ ad, a = some ad → ∀ j u, (l.map (Value.int .i64))[j]? = some u → w.cell? (ad.add j) = some u := by
  intro ad ha j u hu
  rw [List.getElem?_map] at hu
  obtain ⟨x, hx, rfl⟩ := Option.map_eq_some_iff.1 hu
  obtain ⟨hj, e⟩ := List.getElem?_eq_some_iff.1 hx
  obtain ⟨b, off, ea, hb, hc⟩ := H j hj
  rw [ha] at ea
  cases ea
  rw [Addr.add_lit, hc, hx]; rfl
theorem ints_none {w : World} {a : Option Addr} {l : List Int} (H : IntsAt w a l) : a = none → l.length = 0 := by
  intro ha
  rcases Nat.eq_zero_or_pos l.length with h | h
  · exact h
  · obtain ⟨_, _, e, _⟩ := H 0 h; rw [ha] at e; cases e
theorem one_news (w : World) (x : Value) (t : TypeId) : ∀ ad, (some ⟨w.heap.size, 0, none⟩ : Option Addr) = some ad → ∀ j u, [x][j]? = some u → (w.alloc (.cells #[x] t)).cell? (ad.add j) = some u := by
  intro ad e j u hu
  cases e
  match j, hu with
  | 0, hu =>
    simp at hu; subst hu
    rw [Addr.add_lit, World.cell?_alloc_at _ _ _ _ rfl]; rfl
theorem le_alloc (w : World) (o : Obj) : w.heap.size ≤ (w.alloc o).heap.size := by simp
theorem slice_oneCell (a : Option Addr) (n c : Nat) : ∀ u ∈ [Value.slice a n c], u.oneCell' = true := by intro u hu; simp at hu; subst hu; rfl
theorem no_none {α : Type} {a : α} {p : Prop} : some a = none → p := fun h => by cases h
theorem ElemI.own' {E : TypeId} {W : World} {b0 base : Nat} {S : Nat → Prop} {v : Value} {l : List Int} {n : Nat} {xs : List Value} (h : W.ownsRow b0 E 1 v n xs) (hx : xs = l.map (Value.int .i64)) (hn : l.length = n) (hm : n ≤ maxLen) (hS : ∀ b, b0 ≤ b → S b) : ElemI E W base S v l := by
  subst hx; subst hn; exact ElemI.own h hm hS
theorem cells_set {w : World} {b : Nat} {c : Array Value} {E : TypeId} {f : Nat × Nat} (h : w.heap[b]? = some (.cells c E f)) (j : Nat) (v : Value) :
    (w.setCell ⟨b, j, none⟩ v).heap[b]? = some (.cells (c.setIfInBounds j v) E f) := by
  obtain ⟨hlt, hk⟩ := Array.getElem?_eq_some_iff.1 h
  show (w.heap.modify b _)[b]? = _
  rw [Array.getElem?_eq_getElem (by rw [Array.size_modify]; exact hlt), Array.getElem_modify_self, hk]
  rfl
theorem below_set {B : Nat} {a w : World} (h : Below B a w) {b : Nat} (hb : B ≤ b) (o : Nat) (v : Value) : Below B a (w.setCell ⟨b, o, none⟩ v) := h.setCell (p := ⟨b, o, none⟩) hb v
end Go.Proofs.YtkmjeegnijohmaaGreat

namespace Go.Proofs.YtkmjeegnijohmaaGreat
open Go.RowKit
set_option linter.unusedVariables false

theorem drewN_add (w : World) (a b : Nat) : (w.drewN a).drewN b = w.drewN (a + b) := by simp [World.drewN, Nat.add_assoc]
theorem gcd_mod (x y : Nat) (hy : 0 < y) : Nat.gcd y (x % y) = Nat.gcd x y := by rw [Nat.gcd_comm x y, Nat.gcd_rec y x, Nat.gcd_comm]

theorem divisor_c (w : World) (a b : Int) (ha : -4611686018427387904 ≤ a ∧ a ≤ 4611686018427387904) (hb : -4611686018427387904 ≤ b ∧ b ≤ 4611686018427387904) :
    Calls Tryz.prog 145 #[.int .i64 a, .int .i64 b] w fun e w' => e = .returned (.int .i64 (Int.gcd a b : Nat)) ∧ ∃ k, w' = w.drewN k := by
  obtain ⟨x, hx⟩ : ∃ x : Nat, x = a.natAbs := ⟨_, rfl⟩
  obtain ⟨y, hy⟩ : ∃ y : Nat, y = b.natAbs := ⟨_, rfl⟩
  have HG := hid (show Nat.gcd x y = Int.gcd a b by rw [hx, hy]; rfl)
  have hx2 : x ≤ 4611686018427387904 := by omega
  have hy2 : y ≤ 4611686018427387904 := by omega
  obtain ⟨ha1, ha2⟩ := ha
  obtain ⟨hb1, hb2⟩ := hb
  rcases Int.lt_or_le a 0 with sa | sa <;> rcases Int.lt_or_le b 0 with sb | sb
  all_goals
    have HX := hid hx
    have HY := hid hy
    clear hx hy
    go_enter Tryz.func145, Tryz.ntmps145
    go_wp2
    go_loopw [0, 1] (fun u v wr => ∃ p q : Nat, u = .int .i64 p ∧ v = .int .i64 q ∧ p ≤ 4611686018427387904 ∧ q ≤ 4611686018427387904 ∧ Nat.gcd p q = Nat.gcd x y ∧ ∃ k, wr = w.drewN k) (fun _ v _ => (intOf v).toNat)
    case atStart =>
      have h1 := HX.out
      have h2 := HY.out
      exact ⟨x, y, by congr 1; omega, by congr 1; omega, hx2, hy2, rfl, 0, rfl⟩
    case round =>
      obtain ⟨p, q, rfl, rfl, hp, hq, hg, k, rfl⟩ := hrel
      have HGG := hid hg
      clear hg
      by_cases h0 : q = 0
      · subst h0
        go_wp2
        go_ret
        refine ⟨ret_int ?_, _, rfl⟩
        have h1 := HGG.out
        rw [Nat.gcd_zero_right] at h1
        rw [h1, HG.out]
      · have hq1 : 1 ≤ q := by omega
        have hne : ((q : Int) != 0) = true := by simp; omega
        clear h0
        have hm1 : p % q < q := Nat.mod_lt _ hq1
        have hgm := gcd_mod p q hq1
        have HGM := hid (hgm.trans HGG.out)
        have HM := hid hm1
        have HE := hid (show ((p : Int) % (q : Int)) = ((p % q : Nat) : Int) by simp)
        clear hgm hm1
        go_wp2
        go_quiet (fail)
        go_wp2
        have hm1 := HM.out
        exact ⟨⟨q, p % q, rfl, by rw [HE.out], hq, by omega, HGM.out, _, drewN_add _ _ _⟩, by rw [HE.out]; simp [intOf]; omega⟩
end Go.Proofs.YtkmjeegnijohmaaGreat

namespace Go.Proofs.YtkmjeegnijohmaaGreat
open Go.RowKit
set_option linter.unusedVariables false

theorem r2within_c (n lo hi : Int) (w : World) : Calls Tryz.prog 79 #[.int .i64 n, .int .i64 lo, .int .i64 hi] w fun e w' => e = .returned (.bool (inB n lo hi)) ∧ w = w' := by
  by_cases h1 : lo ≤ n <;> by_cases h2 : n ≤ hi
  all_goals
    go_enter Tryz.func79, Tryz.ntmps79
    go_wp2
    go_ret
    exact ⟨ret_bool (by simp [inB, h1, h2]), rfl⟩
theorem r3within_c (n lo hi : Int) (w : World) : Calls Tryz.prog 140 #[.int .i64 n, .int .i64 lo, .int .i64 hi] w fun e w' => e = .returned (.bool (inB n lo hi)) ∧ w = w' := by
  by_cases h1 : lo ≤ n <;> by_cases h2 : n ≤ hi
  all_goals
    go_enter Tryz.func140, Tryz.ntmps140
    go_wp2
    go_ret
    exact ⟨ret_bool (by simp [inB, h1, h2]), rfl⟩

theorem all_stop {α : Type} {p : α → Bool} {l : List α} {k : Nat} (hk : k < l.length) (h : p l[k] = false) : l.all p = false := by
  rw [List.all_eq_false]; exact ⟨l[k], List.getElem_mem hk, by simp [h]⟩
theorem all_done {α : Type} {p : α → Bool} {l : List α} (h : ∀ j (hj : j < l.length), p l[j] = true) : l.all p = true := by
  rw [List.all_eq_true]
  intro x hx
  obtain ⟨i, hi, e⟩ := List.getElem_of_mem hx
  rw [← e]; exact h i hi

theorem r2row_c (w : World) (a : Option Addr) (n cap : Nat) (l : List Int) (hn : l.length = n) (hm : n ≤ maxLen) (H : IntsAt w a l) :
    Calls Tryz.prog 78 #[.slice a n cap] w fun e w' => e = .returned (.bool (okMRow l)) ∧ w = w' := by
  have HN := hid hn
  have HH := hid H
  clear hn H
  unfold maxLen at hm
  go_enter Tryz.func78, Tryz.ntmps78
  go_wp2
  go_loop [7] (fun i => ∃ k : Nat, k ≤ n ∧ i = .int .i64 k ∧ ∀ j (hj : j < l.length), j < k → inB l[j] (-1) 1 = true) (fun i => n - (intOf i).toNat)
  case atStart => exact ⟨0, Nat.zero_le _, rfl, fun i _ h => by omega⟩
  case round =>
    obtain ⟨k, hk, rfl, hno⟩ := hrel
    have HNO := hid hno
    clear hno
    by_cases hlt : k < n
    · have hkl : k < l.length := by rw [HN.out]; exact hlt
      obtain ⟨b, off, rfl, hbs, hc⟩ := HH.out k hkl
      have hg : l[k]?.getD 0 = l[k] := by rw [List.getElem?_eq_getElem hkl]; rfl
      rw [hg] at hc
      obtain ⟨B, hB⟩ : ∃ B, B = inB l[k] (-1) 1 := ⟨_, rfl⟩
      have HW := hid (fun W => r2within_c l[k] (-1) 1 W)
      rw [← hB] at HW
      have HBB := hid hB
      have HKL := hid hkl
      clear hg hB
      cases B
      · go_wp2_with (go_at_call 79; refine (HW.out _).mono ?_; rintro e w1 ⟨rfl, rfl⟩)
        go_ret
        refine ⟨ret_bool ?_, rfl⟩
        unfold okMRow
        rw [all_stop HKL.out HBB.out.symm]; simp
      · go_wp2_with (go_at_call 79; refine (HW.out _).mono ?_; rintro e w1 ⟨rfl, rfl⟩)
        go_round
        case rel =>
          refine ⟨k + 1, by omega, by go_num, fun j hj hjk => ?_⟩
          by_cases e : j = k
          · subst e; exact HBB.out.symm
          · exact HNO.out j hj (by omega)
        case measure => simp [intOf]; omega
    · go_wp2_with (go_at_call 79; refine (r2within_c _ _ _ _).mono ?_; rintro e w1 ⟨rfl, rfl⟩)
      go_ret
      refine ⟨ret_bool ?_, rfl⟩
      unfold okMRow
      rw [HN.out, all_done (fun j hj => HNO.out j hj (by have := HN.out; omega))]; simp

theorem r2Valid_c (w : World) (a : Option Addr) (n cap : Nat) (M : Mask) (hn : M.length = n) (hm : n ≤ maxLen) (H : RowsAt w a M) :
    Calls Tryz.prog 57 #[.slice a n cap] w fun e w' => e = .returned (.bool (okM M)) ∧ w = w' := by
  have HN := hid hn
  have HH := hid H
  clear hn H
  unfold maxLen at hm
  go_enter Tryz.func57, Tryz.ntmps57
  go_wp2
  go_loop [7] (fun i => ∃ k : Nat, k ≤ n ∧ i = .int .i64 k ∧ ∀ j (hj : j < M.length), j < k → (decide (M[j].length = colsM M) && okMRow M[j]) = true) (fun i => n - (intOf i).toNat)
  case atStart => exact ⟨0, Nat.zero_le _, rfl, fun i _ h => by omega⟩
  case round =>
    obtain ⟨k, hk, rfl, hno⟩ := hrel
    have HNO := hid hno
    clear hno
    by_cases hlt : k < n
    · have hkl : k < M.length := by rw [HN.out]; exact hlt
      obtain ⟨b, off, ra, rn, rc, rfl, hbs, hc, hrn, hrm, hri⟩ := HH.out k hkl
      obtain ⟨b', off', qa, qn, qc, e0, hbs', hc0, hqn, _, _⟩ := HH.out 0 (by omega)
      cases e0
      rw [Nat.add_zero] at hc0
      have hcol : colsM M = qn := by unfold colsM; rw [List.getElem?_eq_getElem (by omega), ← hqn]; rfl
      have HW := hid (r2row_c w ra rn rc M[k] hrn hrm hri)
      obtain ⟨B, hB⟩ : ∃ B, B = okMRow M[k] := ⟨_, rfl⟩
      rw [← hB] at HW
      have HBB := hid hB
      have HKL := hid hkl
      have HCol := hid hcol
      have HRN := hid hrn
      unfold maxLen at hrm
      have h0 : 0 < n := by omega
      clear hB hcol hrn hqn hri
      cases B
      · go_wp2_with (go_at_call 78; refine HW.out.mono ?_; rintro e w1 ⟨rfl, rfl⟩)
        go_ret
        refine ⟨ret_bool ?_, rfl⟩
        unfold okM
        rw [all_stop HKL.out (by rw [← HBB.out]; simp)]; simp
      · by_cases hq : rn = qn
        · have hd : ((rn : Int) != (qn : Int)) = false := by simp [hq]
          have HQ := hid hq
          clear hq
          go_wp2_with (go_at_call 78; refine HW.out.mono ?_; rintro e w1 ⟨rfl, rfl⟩)
          go_round
          case rel =>
            refine ⟨k + 1, by omega, by go_num, fun j hj hjk => ?_⟩
            by_cases e : j = k
            · subst e; rw [← HBB.out, HCol.out, HRN.out, HQ.out]; simp
            · exact HNO.out j hj (by omega)
          case measure => simp [intOf]; omega
        · have hd : ((rn : Int) != (qn : Int)) = true := by simp; omega
          have HQ := hid hq
          clear hq
          go_wp2_with (go_at_call 78; refine HW.out.mono ?_; rintro e w1 ⟨rfl, rfl⟩)
          go_ret
          refine ⟨ret_bool ?_, rfl⟩
          unfold okM
          rw [all_stop HKL.out (by rw [HCol.out, HRN.out]; simp [HQ.out])]; simp
    · go_wp2_with (go_at_call 79; refine (r2within_c _ _ _ _).mono ?_; rintro e w1 ⟨rfl, rfl⟩)
      go_ret
      refine ⟨ret_bool ?_, rfl⟩
      unfold okM
      rw [HN.out, all_done (fun j hj => HNO.out j hj (by have := HN.out; omega))]; simp

end Go.Proofs.YtkmjeegnijohmaaGreat

namespace Go.Proofs.YtkmjeegnijohmaaGreat
open Go.RowKit
set_option linter.unusedVariables false

section
variable {P : Program} {ops : Array Oper} {Q : Exit → Act → World → Prop} {md : Region.Mode} {S : World → Prop}

theorem wpOp_inRound (l n : Nat) {i : Nat} {K : Act → World → Prop} {a : Act} {w : World} (hd : ∀ o, ops[i]? = some o → (∀ c, o.op ≠ .defer c)) (hq : ¬ LetsOut Q)
    (h : wpOp P ops Q i K a w) : wpOpIn (Fence.wide.inRound l) n P ops Q i K a w := by
  unfold wpOp at h
  unfold wpOpIn
  cases ho : ops[i]? with
  | none => simpa [ho] using h
  | some o =>
    simp only [ho] at h ⊢
    split
    · rename_i hw
      simp only [hw, if_true] at h
      have h := h.resolve_right (fun x => hq x.2)
      refine ⟨fun f _ => trivial, ?_⟩
      rw [Fence.inRound_round, Oper.semAt_some l a.eval o (hd o ho)]
      unfold Oper.wp at h
      generalize (execOp a.eval o).run P w = r at *
      cases r with
      | ok x w' =>
        cases x <;> simp only [Oper.upon, Oper.uponIn] at h ⊢ <;> first
          | exact h
          | exact ⟨fun h => by simp [Fence.wide] at h, CallsIn.inRound l (callsIn_wide.2 h)⟩
          | (refine ⟨fun h => by simp [Fence.wide] at h, fun c cs _ => ?_⟩
             obtain ⟨v, w'', hr, hs⟩ := h c cs
             exact ⟨v, w'', hr, (StepsIn.of_steps hs).mono fun m _ => fenced_wide P m⟩)
      | halt x w' => cases x <;> simp only [Oper.upon, Oper.uponIn] at h ⊢ <;> exact h
    · rename_i hw
      simp only [hw] at h
      exact ⟨fun f _ => trivial, h⟩

def AnyT (P : Program) (md : Region.Mode) (ops : Array Oper) (Q : Exit → Act → World → Prop) (T : Nat → World → Prop) : Nat → Array Bool → Act → World → Prop
  | 0, listed, a, w => Region.ready md ops listed = [] ∧ Q .normal a w
  | fuel + 1, listed, a, w =>
    (Region.ready md ops listed = [] → Q .normal a w) ∧
    ∀ j ∈ Region.ready md ops listed, wpOp P ops Q j (fun a' w' => T j w' ∧ AnyT P md ops Q T fuel (listed.setIfInBounds j true) a' w') a w

variable {T : Nat → World → Prop}

theorem AnyT.any : ∀ (fuel : Nat) (listed : Array Bool) (a : Act) (w : World), AnyT P md ops Q T fuel listed a w → wpAny P md ops Q fuel listed a w
  | 0, _, _, _, h => h
  | fuel + 1, _, _, _, h => ⟨h.1, fun i hi => wpOp_mono (fun a' w' h' => AnyT.any fuel _ a' w' h'.2) (h.2 i hi)⟩

theorem AnyT.inRound (l n : Nat) (hd : ∀ (i : Nat) o, ops[i]? = some o → (∀ c, o.op ≠ .defer c)) (hq : ¬ LetsOut Q) : ∀ (fuel : Nat) (listed : Array Bool) (a : Act) (w : World),
    AnyT P md ops Q T fuel listed a w → wpAnyIn (Fence.wide.inRound l) n P md ops Q fuel listed a w
  | 0, _, _, _, h => h
  | fuel + 1, _, _, _, h => ⟨h.1, fun i hi => wpOpIn_mono (fun a' w' h' => AnyT.inRound l n hd hq fuel _ a' w' h'.2) (wpOp_inRound l n (hd i) hq (h.2 i hi))⟩

theorem AnyT.first {i : Nat} {oi : Oper} {v : Value} (hi : ops[i]? = some oi) (hsel : ∀ (j : Nat) (o : Oper) cs b, ops[j]? = some o → o.op ≠ .select cs b)
    (hQ : ∀ c a w, Q (.panic c) (a.put oi.dst v) w → Q (.panic c) a w)
    (hT : ∀ (j : Nat) oj, ops[j]? = some oj → (∀ e ∈ oj.after, Region.binds md e = true → e.on ≠ i) → ∀ w, T j w → S w) (hTi : ∀ w, S w → T i w) :
    ∀ (fuel : Nat) (listed : Array Bool) (a : Act) (w : World),
      (∀ j oj, ops[j]? = some oj → j ≠ i → listed.getD j true = false → (∀ e ∈ oj.after, Region.binds md e = true → e.on ≠ i) → oi.apart ops oj = true) →
      i ∈ Region.ready md ops listed → YieldsIf P ops S oi v a → S w →
      AnyT P md ops Q T fuel (listed.setIfInBounds i true) (a.put oi.dst v) w → AnyT P md ops Q T (fuel + 1) listed a w := by
  intro fuel
  induction fuel with
  | zero =>
    intro listed a w _ hr hy hS H
    refine ⟨fun h => (by rw [h] at hr; cases hr), fun j hj => ?_⟩
    by_cases e : j = i
    · subst e; exact hy.wpOp hi hS ⟨hTi w hS, H⟩
    · have h0 := ready_mono hj e
      rw [H.1] at h0; cases h0
  | succ fuel ih =>
    intro listed a w hfree hr hy hS H
    refine ⟨fun h => (by rw [h] at hr; cases hr), fun j hj => ?_⟩
    by_cases e : j = i
    · subst e; exact hy.wpOp hi hS ⟨hTi w hS, H⟩
    · obtain ⟨hun, oj, hoj, hall⟩ := mem_ready.1 hj
      have hnot : ∀ x ∈ oj.after, Region.binds md x = true → x.on ≠ i := by
        intro x hx hb heq
        have h1 := hall x hx hb
        have h0 := (mem_ready.1 hr).1
        rw [heq] at h1
        rcases Nat.lt_or_ge i listed.size with hlt | hge
        · simp [hlt] at h0 h1; rw [h0] at h1; cases h1
        · simp [Array.getElem?_eq_none hge] at h1
      refine wpOp_mono (fun a' w' h3 => ?_) (wpOp_putIf hoj (hfree j oj hoj e hun hnot) (fun cs b => hsel i oi cs b hi) (fun cs b => hsel j oj cs b hoj) hQ hy (H.2 j (ready_mono hj e)))
      have hS' := hT j oj hoj hnot w' h3.2.1
      refine ⟨h3.2.1, ih (listed.setIfInBounds j true) a' w' ?_ (ready_mono hr (fun h => e h.symm)) h3.1 hS' ?_⟩
      · intro k ok hk hki hkun hno
        refine hfree k ok hk hki ?_ hno
        by_cases hjk : j = k
        · subst hjk; exact hun
        · rwa [getD_set_ne true hjk] at hkun
      · rw [Array.setIfInBounds_comm _ _ e]; exact h3.2.2

def waits (md : Region.Mode) (ops : Array Oper) (i j : Nat) : Bool := match ops[j]? with | some o => o.after.any (fun e => Region.binds md e && e.on == i) | none => true

theorem AnyT.take {i : Nat} {oi : Oper} {v : Value} {fuel : Nat} {listed : Array Bool} {a : Act} {w : World} (hi : ops[i]? = some oi)
    (hs : Region.noSelect ops = true) (hf : Region.free md ops listed i = true) (hr : (Region.ready md ops listed).contains i = true)
    (hQ : ∀ c a w, Q (.panic c) (a.put oi.dst v) w → Q (.panic c) a w)
    (hT : ∀ j, waits md ops i j = false → ∀ w, T j w → S w) (hTi : ∀ w, S w → T i w) (hy : YieldsIf P ops S oi v a) (hS : S w)
    (h : AnyT P md ops Q T fuel (listed.setIfInBounds i true) (a.put oi.dst v) w) : AnyT P md ops Q T (fuel + 1) listed a w :=
  AnyT.first hi (Region.noSelect_spec hs) hQ (fun j oj hj hno w hw => hT j (by
    unfold waits; rw [hj]
    simp only [Array.any_eq_false]
    intro k hk
    have := hno oj.after[k] (Array.getElem_mem hk)
    cases hb : Region.binds md oj.after[k] <;> simp [hb] at this ⊢
    exact this) w hw) hTi fuel listed a w (Region.free_spec hi hf) (by simpa using hr) hy hS h

theorem AnyT.takeW {i : Nat} {oi : Oper} {v : Value} {fuel : Nat} {listed : Array Bool} {a : Act} {w : World} {Wf : Nat → Bool} (hi : ops[i]? = some oi)
    (hs : Region.noSelect ops = true) (hf : Region.free md ops listed i = true) (hr : (Region.ready md ops listed).contains i = true)
    (hQ : ∀ c a w, Q (.panic c) (a.put oi.dst v) w → Q (.panic c) a w)
    (hW : (List.range ops.size).all (fun j => waits md ops i j || Wf j) = true) (hw : Region.wanted oi (yielded ops a.tmps) = true) (hy : ∀ w, S w → (execOp a.eval oi).run P w = .ok (.value v) w) (hS : S w)
    (h : AnyT P md ops Q (fun j w => Wf j = true → S w) fuel (listed.setIfInBounds i true) (a.put oi.dst v) w) : AnyT P md ops Q (fun j w => Wf j = true → S w) (fuel + 1) listed a w :=
  AnyT.take hi hs hf hr hQ (fun j hj w hT => hT (by
    by_cases e : j < ops.size
    · have := List.all_eq_true.1 hW j (List.mem_range.2 e)
      rw [hj] at this; simpa using this
    · unfold waits at hj; rw [Array.getElem?_eq_none (by omega)] at hj; cases hj)) (fun w hS _ => hS) (.inl ⟨hw, hy⟩) hS h

theorem AnyT.next {i : Nat} {o : Oper} {fuel : Nat} {listed : Array Bool} {a : Act} {w : World} (hr : Region.ready md ops listed = [i]) (ho : ops[i]? = some o)
    (h : wpOp P ops Q i (fun a' w' => T i w' ∧ AnyT P md ops Q T fuel (listed.setIfInBounds i true) a' w') a w) : AnyT P md ops Q T (fuel + 1) listed a w :=
  ⟨fun h0 => (by rw [hr] at h0; cases h0), fun j hj => by rw [hr] at hj; obtain rfl : j = i := (by simpa using hj); exact h⟩

theorem AnyT.done {listed : Array Bool} {a : Act} {w : World} (hr : Region.ready md ops listed = []) (h : Q .normal a w) : ∀ fuel, AnyT P md ops Q T fuel listed a w
  | 0 => ⟨hr, h⟩
  | _ + 1 => ⟨fun _ => h, by rw [hr]; simp⟩

def noDefer (ops : Array Oper) : Bool := ops.all fun o => match o.op with | .defer _ => false | _ => true
theorem noDefer_spec {ops : Array Oper} (h : noDefer ops = true) (i : Nat) (o : Oper) (ho : ops[i]? = some o) (c : Call) : o.op ≠ .defer c := by
  intro e
  unfold noDefer at h
  rw [Array.all_eq_true] at h
  obtain ⟨hlt, he⟩ := Array.getElem?_eq_some_iff.1 ho
  have := h i hlt
  rw [he, e] at this
  simp at this

theorem round_region (T : Nat → World → Prop) (l n : Nat) {id : Nat} {a : Act} {w : World} (hm : P.follows .mixedOrders = true) (hd : noDefer ops = true) (hq : ¬ LetsOut Q)
    (h : AnyT P .any ops Q T ops.size (Array.replicate ops.size false) a w.drew) : (Code.region id ops true).wpIn (Fence.wide.inRound l) n P Q a w :=
  wpIn_region_any hm (AnyT.inRound l n (noDefer_spec hd) hq _ _ _ _ h)

theorem plain_region (T : Nat → World → Prop) {id : Nat} {a : Act} {w : World} (hm : P.follows .mixedOrders = true)
    (h : AnyT P .any ops Q T ops.size (Array.replicate ops.size false) a w.drew) : (Code.region id ops true).wp P Q a w :=
  wp_region_any hm (AnyT.any _ _ _ _ h)

def oneQ (K : Act → World → Prop) (Q : Exit → Act → World → Prop) : Exit → Act → World → Prop
  | .normal, a, w => K a w
  | e, a, w => Q e a w

theorem wpOp_of_list {i : Nat} {o : Oper} {K : Act → World → Prop} {a : Act} {w : World} (ho : ops[i]? = some o)
    (h : wpList P ops (oneQ K Q) [o] a w) : wpOp P ops Q i K a w := by
  unfold wpOp
  simp only [ho]
  unfold wpList at h
  split
  · rename_i hw
    simp only [hw, if_true] at h
    rcases h with h | ⟨h, hl⟩
    · refine .inl ?_
      unfold Oper.wp at h ⊢
      generalize (execOp a.eval o).run P w = r at *
      cases r with
      | ok x w' =>
        cases x <;> simp only [Oper.upon] at h ⊢ <;> first
          | exact h
          | exact Calls.mono h (fun e w'' he => by cases e <;> exact he)
      | halt x w' => cases x <;> simp only [Oper.upon] at h ⊢ <;> exact h
    · exact .inr ⟨h, hl⟩
  · rename_i hw
    simp only [hw] at h
    exact h
end
end Go.Proofs.YtkmjeegnijohmaaGreat

namespace Go.Proofs.YtkmjeegnijohmaaGreat
open Go.RowKit
set_option linter.unusedVariables false

def SpRow (w : World) (g : Nat) (l : List Int) : Prop := ∃ sp : List Value, w.heap[g]? = some (.cells (l.map (Value.int .i64) ++ sp).toArray 3 (0, 0))
theorem SpRow.lt {w : World} {g : Nat} {l : List Int} (h : SpRow w g l) : g < w.heap.size := by obtain ⟨sp, h⟩ := h; exact (Array.getElem?_eq_some_iff.1 h).1
theorem SpRow.cell {w : World} {g : Nat} {l : List Int} (h : SpRow w g l) {j : Nat} (hj : j < l.length) : w.cell? ⟨g, j, none⟩ = some (.int .i64 (l[j]?.getD 0)) := by
  obtain ⟨sp, h⟩ := h
  simp [World.cell?, h, List.getElem?_append_left, hj]
theorem SpRow.frozen {w : World} {g : Nat} {l : List Int} (h : SpRow w g l) (j : Nat) : w.frozen? ⟨g, j, none⟩ = false := by
  obtain ⟨sp, h⟩ := h
  simp [World.frozen?, h]
theorem SpRow.keep {w w' : World} {g : Nat} {l : List Int} (h : SpRow w g l) (hk : w'.heap[g]? = w.heap[g]?) : SpRow w' g l := by
  obtain ⟨sp, h⟩ := h; exact ⟨sp, hk.trans h⟩
theorem SpRow.set {w : World} {g : Nat} {l : List Int} (h : SpRow w g l) (j : Nat) (hj : j < l.length) (n : Int) : SpRow (w.setCell ⟨g, j, none⟩ (.int .i64 n)) g (l.set j n) := by
  obtain ⟨sp, h⟩ := h
  refine ⟨sp, ?_⟩
  rw [cells_set h]
  congr 2
  apply Array.toList_inj.1
  simp [List.set_append, hj, List.map_set]
theorem SpRow.ints {w : World} {g : Nat} {l : List Int} (h : SpRow w g l) : IntsAt w (some ⟨g, 0, none⟩) l :=
  fun j hj => ⟨g, 0, rfl, h.lt, by rw [Nat.zero_add]; exact h.cell hj⟩

def OwnM (w : World) (base : Nat) (v : Value) (M : Mask) : Prop :=
  ∃ (g : Nat → Nat) (vs : List Value), w.ownsRow base 33 1 v M.length vs ∧ (∀ i j, i < M.length → j < M.length → g i = g j → i = j) ∧
    ∀ j (hj : j < M.length), (∃ x, vs[j]? = some (.slice (some ⟨g j, 0, none⟩) M[j].length (M[j].length + x))) ∧ base ≤ g j ∧ SpRow w (g j) M[j]

theorem OwnM.nil (w : World) (base : Nat) : OwnM w base (.slice none 0 0) [] :=
  ⟨fun _ => 0, [], World.ownsRow_nil _ _ _ _, fun i j hi => by simp at hi, fun j hj => by simp at hj⟩

theorem OwnM.keep {w w' : World} {base : Nat} {v : Value} {M : Mask} (h : OwnM w base v M) (hk : ∀ k, base ≤ k → k < w.heap.size → w'.heap[k]? = w.heap[k]?) : OwnM w' base v M := by
  obtain ⟨g, vs, ho, hi, he⟩ := h
  refine ⟨g, vs, ⟨ho.1, ?_⟩, hi, fun j hj => ?_⟩
  · rcases ho.2 with hn | ⟨g, cap, cur, rfl, hb, hgg, rest⟩
    · exact .inl hn
    · exact .inr ⟨g, cap, cur, rfl, hb, (hk g hb (Array.getElem?_eq_some_iff.1 hgg).1).trans hgg, rest⟩
  · obtain ⟨h1, h2, h3⟩ := he j hj
    exact ⟨h1, h2, h3.keep (hk _ h2 h3.lt)⟩

theorem OwnM.at {w : World} {base : Nat} {v : Value} {M : Mask} (h : OwnM w base v M) (i : Nat) (hi : i < M.length) :
    ∃ g0 cap gi c, v = .slice (some ⟨g0, 0, none⟩) M.length cap ∧ g0 < w.heap.size ∧ w.cell? ⟨g0, i, none⟩ = some (.slice (some ⟨gi, 0, none⟩) M[i].length c) ∧ base ≤ gi ∧ SpRow w gi M[i] ∧
      ∀ w' r', r'.length = M[i].length → SpRow w' gi r' → (∀ k, k < w.heap.size → k ≠ gi → w'.heap[k]? = w.heap[k]?) → OwnM w' base v (M.set i r') := by
  obtain ⟨g, vs, ho, hin, he⟩ := h
  rcases ho.2 with ⟨rfl, h0⟩ | ⟨g0, cap, cur, rfl, hbg, hgg, hnc, hcm, hsz, htk⟩
  · omega
  obtain ⟨⟨c, h1⟩, h2, h3⟩ := he i hi
  have hc := World.ownsRow.cellAt (w := w) (base := base) (e := 33) (size := 1) (g := g0) (n := M.length) (cap := cap) (xs := vs) ⟨ho.1, .inr ⟨g0, cap, cur, rfl, hbg, hgg, hnc, hcm, hsz, htk⟩⟩ i (by omega)
  refine ⟨g0, cap, g i, _, rfl, (Array.getElem?_eq_some_iff.1 hgg).1, by rw [hc, h1], h2, h3, ?_⟩
  intro w' r' hl hr hk
  have hne : g0 ≠ g i := by
    intro e
    obtain ⟨sp, h3⟩ := h3
    rw [← e, hgg] at h3
    cases h3
  refine ⟨g, vs, ⟨by simpa using ho.1, .inr ⟨g0, cap, cur, by simp, hbg, (hk g0 (Array.getElem?_eq_some_iff.1 hgg).1 hne).trans hgg, by simpa using hnc, hcm, hsz, by simpa using htk⟩⟩, fun a b ha hb => hin a b (by simpa using ha) (by simpa using hb), fun j hj => ?_⟩
  have hj' : j < M.length := by simpa using hj
  obtain ⟨⟨c', h1'⟩, h2', h3'⟩ := he j hj'
  by_cases e : i = j
  · subst e
    refine ⟨⟨c', ?_⟩, h2', ?_⟩
    · rw [h1']; simp [hl]
    · simpa using hr
  · refine ⟨⟨c', ?_⟩, h2', ?_⟩
    · rw [h1']; simp [List.getElem_set_ne e]
    · rw [List.getElem_set_ne e]
      exact h3'.keep (hk _ h3'.lt (fun e' => e ((hin j i hj' hi e').symm)))

theorem OwnM.rows {w : World} {base : Nat} {v : Value} {M : Mask} (h : OwnM w base v M) (hl : ∀ r ∈ M, r.length ≤ maxLen) : ∃ a cap, v = .slice a M.length cap ∧ RowsAt w a M := by
  by_cases h0 : M = []
  · subst h0
    obtain ⟨g, vs, ho, _⟩ := h
    obtain ⟨a, cap, rfl⟩ := ownsRow_slice ho
    exact ⟨a, cap, rfl, fun j hj => by simp at hj⟩
  · have hp : 0 < M.length := List.length_pos_iff.2 h0
    obtain ⟨g0, cap, _, _, rfl, _⟩ := h.at 0 hp
    refine ⟨some ⟨g0, 0, none⟩, cap, rfl, fun j hj => ?_⟩
    obtain ⟨g0', cap', gi, c, e, hlt, hc, _, hr, _⟩ := h.at j hj
    cases e
    exact ⟨g0, 0, some ⟨gi, 0, none⟩, _, c, rfl, hlt, by rw [Nat.zero_add]; exact hc, rfl, hl _ (List.getElem_mem hj), hr.ints⟩

theorem OwnM.snoc {w w1 w3 : World} {base gn cap : Nat} {v v' : Value} {M : Mask} {r : List Int} {g : Nat → Nat} {vs : List Value}
    (ho : w.ownsRow base 33 1 v M.length vs) (hin : ∀ i j, i < M.length → j < M.length → g i = g j → i = j)
    (he : ∀ j (hj : j < M.length), (∃ x, vs[j]? = some (.slice (some ⟨g j, 0, none⟩) M[j].length (M[j].length + x))) ∧ base ≤ g j ∧ SpRow w (g j) M[j])
    (hb1 : Below w.heap.size w w1) (hr : SpRow w1 gn r) (hgn : w.heap.size ≤ gn) (hcap : r.length ≤ cap) (hbase : base ≤ w.heap.size) (hg : w1.grownBy w3 v.ownBlock)
    (ho' : w3.ownsRow base 33 1 v' (M.length + 1) (vs ++ [.slice (some ⟨gn, 0, none⟩) r.length cap])) : OwnM w3 base v' (M ++ [r]) := by
  have hlen : vs.length = M.length := by have := ho.1; omega
  have hown : ∀ b, v.ownBlock = some b → b < w.heap.size ∧ ∃ c f, w.heap[b]? = some (.cells c 33 f) := by
    intro b hb
    rcases ho.2 with ⟨rfl, _⟩ | ⟨g, cap, cur, rfl, hbg, hgg, _⟩
    · simp [Value.ownBlock] at hb
    · obtain rfl : g = b := by simpa [Value.ownBlock] using hb
      exact ⟨(Array.getElem?_eq_some_iff.1 hgg).1, cur, _, hgg⟩
  have hold : ∀ b l, SpRow w b l → w3.heap[b]? = w.heap[b]? := by
    intro b l hs
    refine (hg.block b (Nat.lt_of_lt_of_le hs.lt hb1.size) ?_).trans (hb1.block b hs.lt)
    intro e
    obtain ⟨_, c, f, hc⟩ := hown b e.symm
    obtain ⟨sp, hs⟩ := hs
    rw [hs] at hc
    simp at hc
  have hnew : w3.heap[gn]? = w1.heap[gn]? := by
    refine hg.block gn hr.lt ?_
    intro e
    have := (hown gn e.symm).1
    omega
  refine ⟨fun j => if j < M.length then g j else gn, vs ++ [.slice (some ⟨gn, 0, none⟩) r.length cap], by simpa using ho', ?_, ?_⟩
  · intro i j hi hj e
    simp only [List.length_append, List.length_cons, List.length_nil, Nat.zero_add] at hi hj
    by_cases h1 : i < M.length <;> by_cases h2 : j < M.length <;> simp only [h1, h2, if_true, if_false] at e
    · exact hin i j h1 h2 e
    · have := (he i h1).2.2.lt; omega
    · have := (he j h2).2.2.lt; omega
    · omega
  · intro j hj
    simp only [List.length_append, List.length_cons, List.length_nil, Nat.zero_add] at hj
    by_cases h1 : j < M.length
    · obtain ⟨⟨c, hc⟩, h2, h3⟩ := he j h1
      simp only [h1, if_true]
      rw [List.getElem_append_left h1]
      exact ⟨⟨c, by rw [List.getElem?_append_left (by omega)]; exact hc⟩, h2, h3.keep (hold _ _ h3)⟩
    · obtain rfl : j = M.length := by omega
      simp only [Nat.lt_irrefl, if_false]
      rw [List.getElem_append_right (Nat.le_refl _)]
      simp only [Nat.sub_self, List.getElem_cons_zero]
      exact ⟨⟨cap - r.length, by rw [List.getElem?_append_right (by omega), hlen, show r.length + (cap - r.length) = cap by omega]; simp⟩, by omega, hr.keep hnew⟩

theorem spRow_own {w : World} {b0 : Nat} {v : Value} {l : List Int} {n : Nat} (h : w.ownsRow b0 3 1 v n (l.map (Value.int .i64))) (hn : l.length = n) (h0 : 0 < n) : ∃ g cap, v = .slice (some ⟨g, 0, none⟩) n cap ∧ b0 ≤ g ∧ SpRow w g l := by
  rcases h.2 with ⟨rfl, h1⟩ | ⟨g, cap, cur, rfl, hbg, hgg, hnc, hcm, hsz, htk⟩
  · omega
  · refine ⟨g, cap, rfl, hbg, cur.toList.drop n, ?_⟩
    rw [hgg]
    congr 2
    apply Array.toList_inj.1
    simp only [Nat.mul_one] at htk
    rw [← htk]
    simp

theorem own_cap {w : World} {base size n cap : Nat} {T : TypeId} {a : Option Addr} {xs : List Value} (h : w.ownsRow base T size (.slice a n cap) n xs) : n ≤ cap := by
  rcases h.2 with ⟨e, rfl⟩ | ⟨g, c, cur, e, hbg, hgg, hnc, _⟩
  · exact Nat.zero_le _
  · cases e; exact hnc
def OwnT (w : World) (base top : Nat) (v : Value) (M : List (List Int)) : Prop :=
  ∃ (g : Nat → Nat) (vs : List Value), w.ownsRow base 33 1 v M.length vs ∧ (∀ k, v.ownBlock = some k → k < top) ∧ (∀ i j, i < M.length → j < M.length → g i = g j → i = j) ∧
    ∀ j (hj : j < M.length), (∃ x, vs[j]? = some (.slice (some ⟨g j, 0, none⟩) M[j].length (M[j].length + x))) ∧ base ≤ g j ∧ g j < top ∧ SpRow w (g j) M[j]
theorem OwnT.of {w : World} {base : Nat} {v : Value} {M : List (List Int)} (h : OwnM w base v M) : OwnT w base w.heap.size v M := by
  obtain ⟨g, vs, ho, hi, he⟩ := h
  exact ⟨g, vs, ho, fun k hk => (ho.lt k hk).2, hi, fun j hj => by obtain ⟨h1, h2, h3⟩ := he j hj; exact ⟨h1, h2, h3.lt, h3⟩⟩
theorem OwnT.keep {w w' : World} {base top : Nat} {v : Value} {M : List (List Int)} (h : OwnT w base top v M) (hk : ∀ k, base ≤ k → k < top → k < w.heap.size → w'.heap[k]? = w.heap[k]?) : OwnT w' base top v M := by
  obtain ⟨g, vs, ho, ht, hi, he⟩ := h
  refine ⟨g, vs, ⟨ho.1, ?_⟩, ht, hi, fun j hj => ?_⟩
  · rcases ho.2 with hn | ⟨g, cap, cur, rfl, hb, hgg, rest⟩
    · exact .inl hn
    · exact .inr ⟨g, cap, cur, rfl, hb, (hk g hb (ht g rfl) (Array.getElem?_eq_some_iff.1 hgg).1).trans hgg, rest⟩
  · obtain ⟨h1, h2, h3, h4⟩ := he j hj
    exact ⟨h1, h2, h3, h4.keep (hk _ h2 h3 h4.lt)⟩
theorem OwnT.at {w : World} {base top : Nat} {v : Value} {M : List (List Int)} (h : OwnT w base top v M) (i : Nat) (hi : i < M.length) :
    ∃ g0 cap gi c, v = .slice (some ⟨g0, 0, none⟩) M.length cap ∧ g0 < w.heap.size ∧ base ≤ g0 ∧ g0 < top ∧ w.cell? ⟨g0, i, none⟩ = some (.slice (some ⟨gi, 0, none⟩) M[i].length c) ∧ (∀ j, w.frozen? ⟨g0, j, none⟩ = false) ∧ base ≤ gi ∧ gi < top ∧ g0 ≠ gi ∧ SpRow w gi M[i] ∧ M.length ≤ maxLen ∧ M.length ≤ cap ∧
      ∀ w' r', r'.length = M[i].length → SpRow w' gi r' → (∀ k, base ≤ k → k < top → k < w.heap.size → k ≠ gi → w'.heap[k]? = w.heap[k]?) → OwnT w' base top v (M.set i r') := by
  obtain ⟨g, vs, ho, ht, hin, he⟩ := h
  rcases ho.2 with ⟨rfl, h0⟩ | ⟨g0, cap, cur, rfl, hbg, hgg, hnc, hcm, hsz, htk⟩
  · omega
  obtain ⟨⟨c, h1⟩, h2, h3, h4⟩ := he i hi
  have hc := World.ownsRow.cellAt (w := w) (base := base) (e := 33) (size := 1) (g := g0) (n := M.length) (cap := cap) (xs := vs) ⟨ho.1, .inr ⟨g0, cap, cur, rfl, hbg, hgg, hnc, hcm, hsz, htk⟩⟩ i (by omega)
  have hne : g0 ≠ g i := by
    intro e
    obtain ⟨sp, h4⟩ := h4
    rw [← e, hgg] at h4
    cases h4
  refine ⟨g0, cap, g i, _, rfl, (Array.getElem?_eq_some_iff.1 hgg).1, hbg, ht g0 rfl, by rw [hc, h1], fun j => by simp [World.frozen?, hgg], h2, h3, hne, h4, by omega, hnc, ?_⟩
  intro w' r' hl hr hk
  refine ⟨g, vs, ⟨by simpa using ho.1, .inr ⟨g0, cap, cur, by simp, hbg, (hk g0 hbg (ht g0 rfl) (Array.getElem?_eq_some_iff.1 hgg).1 hne).trans hgg, by simpa using hnc, hcm, hsz, by simpa using htk⟩⟩, ht, fun a b ha hb => hin a b (by simpa using ha) (by simpa using hb), fun j hj => ?_⟩
  have hj' : j < M.length := by simpa using hj
  obtain ⟨⟨c', h1'⟩, h2', h3', h4'⟩ := he j hj'
  by_cases e : i = j
  · subst e
    refine ⟨⟨c', ?_⟩, h2', h3', ?_⟩
    · rw [h1']; simp [hl]
    · simpa using hr
  · refine ⟨⟨c', ?_⟩, h2', h3', ?_⟩
    · rw [h1']; simp [List.getElem_set_ne e]
    · rw [List.getElem_set_ne e]
      exact h4'.keep (hk _ h2' h3' h4'.lt (fun e' => e ((hin j i hj' hi e').symm)))

theorem swap_get {α : Type} {l : List α} {i j k : Nat} (hi : i < l.length) (hj : j < l.length) : ((l.set i l[j]).set j l[i])[k]? = if k = j then some l[i] else if k = i then some l[j] else l[k]? := by
  rw [List.getElem?_set, List.getElem?_set]
  by_cases e1 : k = j
  · subst e1; simp [hj]
  · rw [if_neg (Ne.symm e1), if_neg e1]
    by_cases e2 : k = i
    · subst e2; simp [hi]
    · rw [if_neg (Ne.symm e2), if_neg e2]

theorem OwnT.swap {w : World} {base top : Nat} {v : Value} {M : List (List Int)} (h : OwnT w base top v M) {i j : Nat} (hi : i < M.length) (hj : j < M.length) {g0 cap : Nat} {hi' hj' : Value} (hv : v = .slice (some ⟨g0, 0, none⟩) M.length cap)
    (ci : w.cell? ⟨g0, i, none⟩ = some hi') (cj : w.cell? ⟨g0, j, none⟩ = some hj') :
    OwnT ((w.setCell ⟨g0, i, none⟩ hj').setCell ⟨g0, j, none⟩ hi') base top v ((M.set i M[j]).set j M[i]) ∧ ∀ k, k ≠ g0 → ((w.setCell ⟨g0, i, none⟩ hj').setCell ⟨g0, j, none⟩ hi').heap[k]? = w.heap[k]? := by
  have hkeep : ∀ k, k ≠ g0 → ((w.setCell ⟨g0, i, none⟩ hj').setCell ⟨g0, j, none⟩ hi').heap[k]? = w.heap[k]? := fun k hk =>
    (Below.heap_setCell _ _ _ _ hk).trans (Below.heap_setCell _ _ _ _ hk)
  refine ⟨?_, hkeep⟩
  obtain ⟨g, vs, ho, ht, hin, he⟩ := h
  subst hv
  rcases ho.2 with ⟨hc, h0⟩ | ⟨g1, cap', cur, hv, hbg, hgg, hnc, hcm, hsz, htk⟩
  · cases hc
  cases hv
  have hcell := World.ownsRow.cellAt (w := w) (base := base) (e := 33) (size := 1) (g := g0) (n := M.length) (cap := cap) (xs := vs) ⟨ho.1, .inr ⟨g0, cap, cur, rfl, hbg, hgg, hnc, hcm, hsz, htk⟩⟩
  have hvl : vs.length = M.length := by have := ho.1; omega
  have ei : vs[i]'(by omega) = hi' := by have := hcell i (by omega); rw [ci, List.getElem?_eq_getElem (by omega)] at this; exact (Option.some.inj this).symm
  have ej : vs[j]'(by omega) = hj' := by have := hcell j (by omega); rw [cj, List.getElem?_eq_getElem (by omega)] at this; exact (Option.some.inj this).symm
  have hb2 : ((w.setCell ⟨g0, i, none⟩ hj').setCell ⟨g0, j, none⟩ hi').heap[g0]? = some (.cells ((cur.setIfInBounds i hj').setIfInBounds j hi') 33 (0, 0)) := cells_set (cells_set hgg i hj') j hi'
  have hcl : cur.toList.length = cap := by simpa using hsz
  have hML : M.length ≤ cap := hnc
  refine ⟨fun k => if k = j then g i else if k = i then g j else g k, (vs.set i (vs[j]'(by omega))).set j (vs[i]'(by omega)), ⟨by simpa using ho.1, .inr ⟨g0, cap, (cur.setIfInBounds i hj').setIfInBounds j hi', by simp, hbg, hb2, by simpa using hnc, hcm, by simpa using hsz, ?_⟩⟩, ht, ?_, ?_⟩
  · rw [ei, ej, ← htk]
    simp only [Array.toList_setIfInBounds, List.length_set, Nat.mul_one]
    rw [List.take_set, List.take_set]
  · intro a b ha hb
    have ha' : a < M.length := by simpa using ha
    have hb' : b < M.length := by simpa using hb
    have hs : ∀ k, (if k = j then g i else if k = i then g j else g k) = g (if k = j then i else if k = i then j else k) := fun k => by
      by_cases e1 : k = j
      · rw [if_pos e1, if_pos e1]
      · rw [if_neg e1, if_neg e1]
        by_cases e2 : k = i
        · rw [if_pos e2, if_pos e2]
        · rw [if_neg e2, if_neg e2]
    have hlt : ∀ k, k < M.length → (if k = j then i else if k = i then j else k) < M.length := fun k hk => by
      split
      · exact hi
      · split
        · exact hj
        · exact hk
    intro hg
    simp only [hs] at hg
    have h2 := hin _ _ (hlt a ha') (hlt b hb') hg
    clear hg hs hlt hin he
    (repeat' split at h2) <;> omega
  · intro k hk
    have hk' : k < M.length := by simpa using hk
    have hm := swap_get (k := k) hi hj
    rw [List.getElem?_eq_getElem (by simpa using hk')] at hm
    have hs := swap_get (l := vs) (i := i) (j := j) (k := k) (by omega) (by omega)
    have hsp : ∀ x, x < M.length → ((w.setCell ⟨g0, i, none⟩ hj').setCell ⟨g0, j, none⟩ hi').heap[g x]? = w.heap[g x]? := fun x hx => hkeep _ (by
      intro e
      obtain ⟨_, _, _, sp, h4⟩ := he x hx
      rw [e, hgg] at h4
      cases h4)
    by_cases e1 : k = j
    · subst e1
      obtain ⟨⟨c', h1'⟩, h2', h3', h4'⟩ := he i hi
      simp only [if_true] at hm hs ⊢
      have hm' := Option.some.inj hm
      rw [hm']
      refine ⟨⟨c', ?_⟩, h2', h3', h4'.keep (hsp i hi)⟩
      rw [hs, ← h1', List.getElem?_eq_getElem]
    · by_cases e2 : k = i
      · subst e2
        obtain ⟨⟨c', h1'⟩, h2', h3', h4'⟩ := he j hj
        simp only [if_neg e1, if_true] at hm hs ⊢
        have hm' := Option.some.inj hm
        rw [hm']
        refine ⟨⟨c', ?_⟩, h2', h3', h4'.keep (hsp j hj)⟩
        rw [hs, ← h1', List.getElem?_eq_getElem]
      · obtain ⟨⟨c', h1'⟩, h2', h3', h4'⟩ := he k hk'
        simp only [if_neg e1, if_neg e2] at hm hs ⊢
        rw [List.getElem?_eq_getElem hk'] at hm
        have hm' := Option.some.inj hm
        rw [hm']
        refine ⟨⟨c', ?_⟩, h2', h3', h4'.keep (hsp k hk')⟩
        rw [hs, h1']
theorem own_keep {S : Nat → Prop} {W W' : World} {base size n : Nat} {T : TypeId} {v : Value} {xs : List Value} (h : W.ownsRow base T size v n xs) (hk : Keep S W W') (h1 : ∀ k, base ≤ k → S k) : W'.ownsRow base T size v n xs := by
  refine ⟨h.1, ?_⟩
  rcases h.2 with hn | ⟨g, cap, cur, rfl, hbg, hgg, rest⟩
  · exact .inl hn
  · exact .inr ⟨g, cap, cur, rfl, hbg, (hk.block g (Array.getElem?_eq_some_iff.1 hgg).1 (h1 g hbg)).trans hgg, rest⟩
theorem own_below {W W' : World} {base size n : Nat} {T : TypeId} {v : Value} {xs : List Value} (h : W.ownsRow base T size v n xs) (hb : Below W.heap.size W W') : W'.ownsRow base T size v n xs :=
  own_keep (S := fun _ => True) h (Keep.of_below hb) (fun _ _ => trivial)
theorem OwnT.info {w : World} {base top g0 n cap : Nat} {M : List (List Int)} (h : OwnT w base top (.slice (some ⟨g0, 0, none⟩) n cap) M) (hn : M.length = n) : base ≤ g0 ∧ g0 < top ∧ g0 < w.heap.size ∧ n ≤ cap ∧ cap ≤ maxLen ∧ (∀ j, w.frozen? ⟨g0, j, none⟩ = false) ∧ ∃ c f, w.heap[g0]? = some (.cells c 33 f) := by
  subst hn
  obtain ⟨g, vs, ho, ht, hin, he⟩ := h
  rcases ho.2 with ⟨hc, h0⟩ | ⟨g1, cap1, cur, e, hbg, hgg, hnc, hcm, hsz, htk⟩
  · cases hc
  · cases e
    exact ⟨hbg, ht g0 rfl, (Array.getElem?_eq_some_iff.1 hgg).1, hnc, hcm, fun j => by simp [World.frozen?, hgg], cur, _, hgg⟩
theorem OwnT.rowsAt {w : World} {base top g0 n cap : Nat} {M : List (List Int)} (h : OwnT w base top (.slice (some ⟨g0, 0, none⟩) n cap) M) (hn : M.length = n) (hl : ∀ r ∈ M, r.length ≤ maxLen) : RowsAt w (some ⟨g0, 0, none⟩) M := by
  subst hn
  intro j hj
  obtain ⟨g0', cap', gi, c, e, hlt, _, _, hc, _, _, _, _, hr, _⟩ := h.at j hj
  cases e
  exact ⟨g0, 0, some ⟨gi, 0, none⟩, _, c, rfl, hlt, by rw [Nat.zero_add]; exact hc, rfl, hl _ (List.getElem_mem hj), hr.ints⟩
theorem OwnT.row {w : World} {base top g0 n cap : Nat} {M : List (List Int)} (h : OwnT w base top (.slice (some ⟨g0, 0, none⟩) n cap) M) (hn : M.length = n) (i : Nat) (hi : i < M.length) :
    ∃ gi c, w.cell? ⟨g0, i, none⟩ = some (.slice (some ⟨gi, 0, none⟩) M[i].length c) ∧ base ≤ gi ∧ gi < top ∧ g0 ≠ gi ∧ SpRow w gi M[i] ∧
      ∀ w' r', r'.length = M[i].length → SpRow w' gi r' → (∀ k, base ≤ k → k < top → k < w.heap.size → k ≠ gi → w'.heap[k]? = w.heap[k]?) → OwnT w' base top (.slice (some ⟨g0, 0, none⟩) n cap) (M.set i r') := by
  subst hn
  obtain ⟨g0', cap', gi, c, e, _, _, _, hc, _, h1, h2, h3, h4, _, _, h5⟩ := h.at i hi
  cases e
  exact ⟨gi, c, hc, h1, h2, h3, h4, h5⟩
theorem OwnT.ne {w : World} {base top g0 n cap : Nat} {M : List (List Int)} (h : OwnT w base top (.slice (some ⟨g0, 0, none⟩) n cap) M) (hn : M.length = n) {i j : Nat} (hi : i < M.length) (hj : j < M.length) (hne : i ≠ j) {gi gj ni nj ci cj : Nat}
    (h1 : w.cell? ⟨g0, i, none⟩ = some (.slice (some ⟨gi, 0, none⟩) ni ci)) (h2 : w.cell? ⟨g0, j, none⟩ = some (.slice (some ⟨gj, 0, none⟩) nj cj)) : gi ≠ gj := by
  subst hn
  obtain ⟨g, vs, ho, ht, hin, he⟩ := h
  have hcell : ∀ k, k < M.length → w.cell? ⟨g0, k, none⟩ = vs[k]? := fun k hk => by
    have := World.ownsRow.cellAt (w := w) (base := base) (e := 33) (size := 1) (g := g0) (n := M.length) (cap := cap) (xs := vs) ho k (by omega)
    exact this
  obtain ⟨⟨c, k1⟩, _⟩ := he i hi
  obtain ⟨⟨c', k2⟩, _⟩ := he j hj
  rw [hcell i hi, k1] at h1
  rw [hcell j hj, k2] at h2
  cases h1; cases h2
  exact fun e => hne (hin i j hi hj e)
theorem OwnT.rows {w : World} {base top : Nat} {v : Value} {M : List (List Int)} (h : OwnT w base top v M) (hl : ∀ r ∈ M, r.length ≤ maxLen) : ∃ a cap, v = .slice a M.length cap ∧ RowsAt w a M := by
  by_cases h0 : M = []
  · subst h0
    obtain ⟨g, vs, ho, _⟩ := h
    obtain ⟨a, cap, rfl⟩ := ownsRow_slice ho
    exact ⟨a, cap, rfl, fun j hj => by simp at hj⟩
  · have hp : 0 < M.length := List.length_pos_iff.2 h0
    obtain ⟨g0, cap, _, _, rfl, _⟩ := h.at 0 hp
    refine ⟨some ⟨g0, 0, none⟩, cap, rfl, fun j hj => ?_⟩
    obtain ⟨g0', cap', gi, c, e, hlt, _, _, hc, _, _, _, _, hr, _⟩ := h.at j hj
    cases e
    exact ⟨g0, 0, some ⟨gi, 0, none⟩, _, c, rfl, hlt, by rw [Nat.zero_add]; exact hc, rfl, hl _ (List.getElem_mem hj), hr.ints⟩
end Go.Proofs.YtkmjeegnijohmaaGreat

namespace Go.Proofs.YtkmjeegnijohmaaGreat
open Go.RowKit
set_option linter.unusedVariables false

def BndL (B : Nat) (l : List Int) : Prop := ∀ x ∈ l, -(B : Int) ≤ x ∧ x ≤ B
theorem BndL.get {B : Nat} {l : List Int} (h : BndL B l) {k : Nat} (hk : k < l.length) : -(B : Int) ≤ l[k]?.getD 0 ∧ l[k]?.getD 0 ≤ B := by
  rw [List.getElem?_eq_getElem hk]; exact h _ (List.getElem_mem hk)
theorem gcdL_le {B : Nat} {l : List Int} (h : BndL B l) : gcdL l ≤ B := by
  by_cases h0 : gcdL l = 0
  · omega
  · obtain ⟨x, hx, hx0⟩ : ∃ x ∈ l, x ≠ 0 := Classical.byContradiction fun hn => h0 (by
      have hz : ∀ x ∈ l, (0 : Int) ∣ x := fun x hx => by
        have : x = 0 := Classical.byContradiction fun c => hn ⟨x, hx, c⟩
        rw [this]; exact Int.dvd_refl _
      exact Int.zero_dvd.1 (dvd_gcdL hz))
    have h1 := gcdL_dvd hx
    have h2 := h x hx
    have h3 : gcdL l ∣ ((x.natAbs : Nat) : Int) := Int.dvd_natAbs.2 h1
    have := Int.le_of_dvd (by omega) h3
    omega
theorem gcdL_take {l : List Int} {k : Nat} (hk : k < l.length) : gcdL (l.take (k + 1)) = (Int.gcd (gcdL (l.take k)) (l[k]?.getD 0) : Nat) := by
  rw [List.take_succ_eq_append_getElem hk, List.getElem?_eq_getElem hk]
  unfold gcdL
  rw [List.foldl_append]; rfl
theorem BndL.take {B : Nat} {l : List Int} (h : BndL B l) (k : Nat) : BndL B (l.take k) := fun x hx => h x (List.mem_of_mem_take hx)

def halfF (f : Int → Int) (l : List Int) (k : Nat) : List Int := (l.take k).map f ++ l.drop k
theorem halfF_zero (f : Int → Int) (l : List Int) : halfF f l 0 = l := by simp [halfF]
theorem halfF_all (f : Int → Int) (l : List Int) : halfF f l l.length = l.map f := by simp [halfF]
theorem halfF_len (f : Int → Int) (l : List Int) (k : Nat) : (halfF f l k).length = l.length := by
  unfold halfF; simp; omega
theorem halfF_at (f : Int → Int) {l : List Int} {k : Nat} (hk : k < l.length) : (halfF f l k)[k]?.getD 0 = l[k]?.getD 0 := by
  unfold halfF
  rw [List.getElem?_append_right (by simp; omega)]
  simp only [List.length_map, List.length_take, List.getElem?_drop]
  congr 2; omega
theorem halfF_set (f : Int → Int) {l : List Int} {k : Nat} (hk : k < l.length) : (halfF f l k).set k (f (l[k]?.getD 0)) = halfF f l (k + 1) := by
  unfold halfF
  have hl : ((l.take k).map f).length = k := by simp; omega
  rw [List.set_append_right _ _ (by omega), hl, Nat.sub_self, List.drop_eq_getElem_cons hk, List.take_succ_eq_append_getElem hk, List.getElem?_eq_getElem hk, List.set_cons_zero, List.map_append]
  simp

theorem tdiv_bnd {x g B : Int} (hg : 1 ≤ g) (h : -B ≤ x ∧ x ≤ B) : -B ≤ x.tdiv g ∧ x.tdiv g ≤ B := by
  have h1 : (x.tdiv g).natAbs ≤ x.natAbs := by rw [Int.natAbs_tdiv]; exact Nat.div_le_self _ _
  omega

set_option maxHeartbeats 1000000 in
theorem shortened_c (w : World) (b n cap : Nat) (l : List Int) (hn : l.length = n) (hm : n ≤ maxLen) (H : SpRow w b l) (hB : BndL 4611686018427387904 l) :
    Calls Tryz.prog 148 #[.slice (some ⟨b, 0, none⟩) n cap] w fun e w' => e = .returned (.tuple #[]) ∧ SpRow w' b (shortF l) ∧ Keep (fun k => k ≠ b) w w' := by
  have HN := hid hn
  have HH := hid H
  have HBL := hid hB
  have HGT := hid (fun (k : Nat) (hk : k < l.length) => gcdL_take hk)
  have HG0 := hid (fun k => gcdL_nonneg (l.take k))
  have HGL := hid (fun k => gcdL_le (hB.take k))
  clear hn H hB
  unfold maxLen at hm
  go_enter Tryz.func148, Tryz.ntmps148
  go_wp2
  go_loopw [2, 8] (fun g i wr => ∃ k : Nat, k ≤ n ∧ i = .int .i64 k ∧ g = .int .i64 (gcdL (l.take k)) ∧ ∃ q, wr = w.drewN q) (fun _ i _ => n - (intOf i).toNat)
  case atStart => exact ⟨0, Nat.zero_le _, rfl, rfl, 0, rfl⟩
  case round =>
    obtain ⟨k, hk, rfl, rfl, q, rfl⟩ := hrel
    by_cases hlt : k < n
    · have hkl : k < l.length := by rw [HN.out]; exact hlt
      have hc := HH.out.cell hkl
      have hbd := HBL.out.get hkl
      have hg1 := HG0.out k
      have hg2 := HGL.out k
      have HE := hid (HGT.out k hkl)
      obtain ⟨x, hx⟩ : ∃ x, x = l[k]?.getD 0 := ⟨_, rfl⟩
      obtain ⟨g, hg⟩ : ∃ g, g = gcdL (l.take k) := ⟨_, rfl⟩
      rw [← hx] at hc hbd HE
      rw [← hg] at hg1 hg2 HE ⊢
      have HD := hid (divisor_c (w.drewN q) g x (by omega) (by omega))
      clear hx hg hbd hg1 hg2 hkl
      go_wp2_with (go_at_call 145; refine HD.out.mono ?_; rintro e w1 ⟨rfl, q1, rfl⟩)
      exact ⟨⟨k + 1, by omega, by go_num, by rw [HE.out], q + q1, rfl⟩, by simp [intOf]; omega⟩
    · obtain rfl : k = n := by omega
      have e : l.take k = l := List.take_of_length_le (by rw [HN.out]; exact Nat.le_refl _)
      rw [e]
      have hg1 := gcdL_nonneg l
      have hg2 := gcdL_le HBL.out
      obtain ⟨g, hg⟩ : ∃ g, g = gcdL l := ⟨_, rfl⟩
      rw [← hg] at hg1 hg2 ⊢
      have HR := hid (show SpRow (w.drewN q) b l from HH.out)
      have HK0 := hid (show Keep (fun k => k ≠ b) w (w.drewN q) from (Keep.refl _ _).drewN q)
      have HGE := hid hg
      clear e hg HG0 HGL HGT
      generalize w.drewN q = w1 at HR HK0 ⊢
      by_cases h1 : 1 < g
      · go_wp2
        go_loopw [18] (fun i wr => ∃ t : Nat, t ≤ k ∧ i = .int .i64 t ∧ SpRow wr b (halfF (fun x => x.tdiv g) l t) ∧ Keep (fun k => k ≠ b) w1 wr) (fun i _ => k - (intOf i).toNat)
        case atStart => exact ⟨0, Nat.zero_le _, rfl, by rw [halfF_zero]; exact HR.out, Keep.refl _ _⟩
        case round =>
          obtain ⟨t, ht, rfl, hr, hkp⟩ := hrel
          by_cases hlt2 : t < k
          · have htl : t < l.length := by rw [HN.out]; exact hlt2
            have hc := hr.cell (j := t) (by rw [halfF_len]; exact htl)
            rw [halfF_at _ htl] at hc
            have hz := hr.frozen t
            have hbd := HBL.out.get htl
            have hst := halfF_set (fun x => x.tdiv g) htl
            have HSET := hid (fun v => hr.set t (by rw [halfF_len]; exact htl) v)
            have hlt3 := hr.lt
            obtain ⟨x, hx⟩ : ∃ x, x = l[t]?.getD 0 := ⟨_, rfl⟩
            rw [← hx] at hc hbd hst
            have htd := tdiv_bnd (show 1 ≤ g by omega) hbd
            have HST := hid hst
            have HW := hid (show IntKind.i64.wrap (x.tdiv g) = x.tdiv g from IntWalk.i64_in _ (by omega))
            have HKP := hid hkp
            clear hx hst hr hkp htl
            go_wp2
            exact ⟨⟨t + 1, by omega, by go_num, by rw [← HST.out]; exact HSET.out _, HKP.out.trans (Keep.set wr b t _)⟩, by simp [intOf]; omega⟩
          · obtain rfl : t = k := by omega
            go_wp2
            go_end0
            refine ⟨rfl, ?_, HK0.out.trans hkp⟩
            rw [← HN.out, halfF_all] at hr
            unfold shortF
            rw [← HGE.out, if_pos h1]; exact hr
      · go_wp2
        go_loopw [18] (fun i wr => ∃ t : Nat, t ≤ k ∧ i = .int .i64 t ∧ SpRow wr b l ∧ Keep (fun k => k ≠ b) w1 wr) (fun i _ => k - (intOf i).toNat)
        case atStart => exact ⟨0, Nat.zero_le _, rfl, HR.out, Keep.refl _ _⟩
        case round =>
          obtain ⟨t, ht, rfl, hr, hkp⟩ := hrel
          by_cases hlt2 : t < k
          · go_wp2
            exact ⟨⟨t + 1, by omega, by go_num, hr, hkp⟩, by simp [intOf]; omega⟩
          · obtain rfl : t = k := by omega
            go_wp2
            go_end0
            refine ⟨rfl, ?_, HK0.out.trans hkp⟩
            unfold shortF
            rw [← HGE.out, if_neg (by omega)]; exact hr

def mixF (f : Int → Int → Int) (l m : List Int) (k : Nat) : List Int := (List.zipWith f l m).take k ++ l.drop k
theorem mixF_zero (f : Int → Int → Int) (l m : List Int) : mixF f l m 0 = l := by simp [mixF]
theorem mixF_len (f : Int → Int → Int) {l m : List Int} (h : l.length = m.length) (k : Nat) : (mixF f l m k).length = l.length := by
  unfold mixF; simp; omega
theorem mixF_all (f : Int → Int → Int) {l m : List Int} (h : l.length = m.length) : mixF f l m l.length = List.zipWith f l m := by
  unfold mixF
  rw [List.take_of_length_le (by simp; omega)]; simp
theorem mixF_at (f : Int → Int → Int) {l m : List Int} (h : l.length = m.length) {k : Nat} (hk : k < l.length) : (mixF f l m k)[k]?.getD 0 = l[k]?.getD 0 := by
  unfold mixF
  rw [List.getElem?_append_right (by simp; omega)]
  simp only [List.length_take, List.length_zipWith, List.getElem?_drop]
  congr 2; omega
theorem mixF_set (f : Int → Int → Int) {l m : List Int} (h : l.length = m.length) {k : Nat} (hk : k < l.length) : (mixF f l m k).set k (f (l[k]?.getD 0) (m[k]?.getD 0)) = mixF f l m (k + 1) := by
  unfold mixF
  have hl : ((List.zipWith f l m).take k).length = k := by simp; omega
  rw [List.set_append_right _ _ (by omega), hl, Nat.sub_self, List.drop_eq_getElem_cons hk, List.take_succ_eq_append_getElem (by simp; omega), List.getElem?_eq_getElem hk, List.getElem?_eq_getElem (by omega), List.set_cons_zero, List.getElem_zipWith]
  simp

theorem mul_bnd {a b A B : Int} (h1 : -A ≤ a ∧ a ≤ A) (h2 : -B ≤ b ∧ b ≤ B) : -(A * B) ≤ a * b ∧ a * b ≤ A * B := abs_mul_le h1 h2

set_option maxRecDepth 100000 in
set_option maxHeartbeats 1000000 in
theorem cleared_c (w : World) (b n cap b2 cap2 : Nat) (l m : List Int) (hn : l.length = n) (hn2 : m.length = n) (hm : n ≤ maxLen) (H : SpRow w b l) (H2 : SpRow w b2 m) (hne : b ≠ b2) (hB : BndL 1073741824 l) (hB2 : BndL 1073741824 m) (j : Nat) (hj : j < n) (h0 : vec m j ≠ 0) :
    Calls Tryz.prog 144 #[.slice (some ⟨b, 0, none⟩) n cap, .slice (some ⟨b2, 0, none⟩) n cap2, .int .i64 j] w fun e w' => e = .returned (.tuple #[]) ∧ SpRow w' b (clearF l m j) ∧ Keep (fun k => k ≠ b) w w' := by
  have hlm : l.length = m.length := by omega
  have c1 := H.cell (j := j) (by omega)
  have c2 := H2.cell (j := j) (by omega)
  have hb1 := hB.get (k := j) (by omega)
  have hb2 := hB2.get (k := j) (by omega)
  obtain ⟨x, hx⟩ : ∃ x, x = l[j]?.getD 0 := ⟨_, rfl⟩
  obtain ⟨y, hy⟩ : ∃ y, y = m[j]?.getD 0 := ⟨_, rfl⟩
  have hy0 : y ≠ 0 := by rw [hy]; exact h0
  rw [← hx] at c1 hb1
  rw [← hy] at c2 hb2
  have HX := hid (show vec l j = x from hx.symm)
  have HY := hid (show vec m j = y from hy.symm)
  have HD := hid (fun (W : World) => divisor_c W x y (by omega) (by omega))
  obtain ⟨g, hg⟩ : ∃ g : Int, g = (Int.gcd x y : Nat) := ⟨_, rfl⟩
  have hg0 : 0 < g := by
    rw [hg]
    have : 0 < Int.gcd x y := Int.gcd_pos_of_ne_zero_right _ hy0
    omega
  rw [← hg] at HD
  have HG := hid hg
  have HLM := hid hlm
  have HN := hid hn
  have HH := hid H
  have HH2 := hid H2
  have HBL := hid hB
  have HBL2 := hid hB2
  have HNE := hid hne
  have hj1 : (0 : Int) ≤ (j : Int) := by omega
  have hj2 : (j : Int) < (n : Int) := by omega
  clear hx hy hg hn hn2 H H2 hB hB2 h0 hy0 hlm hne
  unfold maxLen at hm
  go_enter Tryz.func144, Tryz.ntmps144
  go_wp2
  go_quiet (fail)
  go_wp2_with (go_at_call 145; refine (HD.out _).mono ?_; rintro e w1 ⟨rfl, q1, rfl⟩)
  have HR := hid (show SpRow (w.drewN (nq + q1)) b l from HH.out)
  have HR2 := hid (show SpRow (w.drewN (nq + q1)) b2 m from HH2.out)
  have HK0 := hid (show Keep (fun k => k ≠ b) w (w.drewN (nq + q1)) from (Keep.refl _ _).drewN _)
  generalize w.drewN (nq + q1) = w1 at HR HR2 HK0 ⊢
  clear HH HH2 HD c1 c2 hj1 hj2
  have ht1 := tdiv_bnd (show 1 ≤ g by omega) hb1
  have ht2 := tdiv_bnd (show 1 ≤ g by omega) hb2
  obtain ⟨F, hF⟩ : ∃ F : Int → Int → Int, F = fun u v => u * y.tdiv g - v * x.tdiv g := ⟨_, rfl⟩
  have HF := hid hF
  have wx : IntKind.i64.wrap (x.tdiv g) = x.tdiv g := IntWalk.i64_in _ (by omega)
  have wy : IntKind.i64.wrap (y.tdiv g) = y.tdiv g := IntWalk.i64_in _ (by omega)
  have HB1 := hid ht1
  have HB2 := hid ht2
  clear hF ht1 ht2 hb1 hb2
  go_wp2
  go_loopw [23] (fun i wr => ∃ t : Nat, t ≤ n ∧ i = .int .i64 t ∧ SpRow wr b (mixF F l m t) ∧ Keep (fun k => k ≠ b) w1 wr) (fun i _ => n - (intOf i).toNat)
  case atStart => exact ⟨0, Nat.zero_le _, rfl, by rw [mixF_zero]; exact HR.out, Keep.refl _ _⟩
  case round =>
    obtain ⟨t, ht, rfl, hr, hkp⟩ := hrel
    by_cases hlt : t < n
    · have htl : t < l.length := by rw [HN.out]; exact hlt
      have htm : t < m.length := by rw [← HLM.out]; exact htl
      have c1 := hr.cell (j := t) (by rw [mixF_len _ HLM.out]; exact htl)
      rw [mixF_at _ HLM.out htl] at c1
      have hr2 : SpRow wr b2 m := HR2.out.keep (hkp.block b2 HR2.out.lt (Ne.symm HNE.out))
      have c2 := hr2.cell htm
      have hz := hr.frozen t
      have hb1 := HBL.out.get htl
      have hb2 := HBL2.out.get htm
      have hst := mixF_set F HLM.out htl
      have HSET := hid (fun (W : World) (hW : W.heap[b]? = wr.heap[b]?) v => (hr.keep hW).set t (by rw [mixF_len _ HLM.out]; exact htl) v)
      have hlt3 := hr.lt
      obtain ⟨u, hu⟩ : ∃ x, x = l[t]?.getD 0 := ⟨_, rfl⟩
      obtain ⟨v, hv⟩ : ∃ x, x = m[t]?.getD 0 := ⟨_, rfl⟩
      rw [← hu] at c1 hb1 hst
      rw [← hv] at c2 hb2 hst
      have p1 := mul_bnd hb1 HB2.out
      have p2 := mul_bnd hb2 HB1.out
      have w1' : IntKind.i64.wrap (u * y.tdiv g) = u * y.tdiv g := IntWalk.i64_in _ (by omega)
      have w2' : IntKind.i64.wrap (v * x.tdiv g) = v * x.tdiv g := IntWalk.i64_in _ (by omega)
      have w3' : IntKind.i64.wrap (u * y.tdiv g - v * x.tdiv g) = u * y.tdiv g - v * x.tdiv g := IntWalk.i64_in _ (by omega)
      have HST := hid (show (mixF F l m t).set t (u * y.tdiv g - v * x.tdiv g) = mixF F l m (t + 1) by rw [← hst, HF.out])
      have HKP := hid hkp
      have ht1 : (0 : Int) ≤ (t : Int) := by omega
      have ht2 : (t : Int) < (n : Int) := by omega
      clear hu hv hst hr hr2 hkp htl htm hb1 hb2 p1 p2
      go_wp2
      have hgz : ¬ (g = 0) := by omega
      go_still_tail 20, (by kernel_rfl)
      change wpList _ _ _ _ _ wr.drew
      go_wp2
      refine ⟨⟨t + 1, by omega, by go_num, ?_, (HKP.out.drewN 1).trans (Keep.set wr.drew b t _)⟩, by simp [intOf]; omega⟩
      rw [← HST.out]
      exact HSET.out wr.drew rfl _
    · obtain rfl : t = n := by omega
      rw [← HN.out, mixF_all _ HLM.out] at hr
      have hzl : (List.zipWith F l m).length = t := by simp; have := HLM.out; have := HN.out; omega
      have hbz : BndL 4611686018427387904 (List.zipWith F l m) := by
        intro z hz
        obtain ⟨i, hi, rfl⟩ := List.mem_iff_getElem.1 hz
        have hil : i < l.length := by have := HN.out; omega
        have him : i < m.length := by have := HLM.out; omega
        have hb1 := HBL.out _ (List.getElem_mem hil)
        have hb2 := HBL2.out _ (List.getElem_mem him)
        have hFe : F l[i] m[i] = l[i] * y.tdiv g - m[i] * x.tdiv g := by have := HF.out; rw [this]
        have p1 := mul_bnd hb1 HB2.out
        have p2 := mul_bnd hb2 HB1.out
        rw [List.getElem_zipWith, hFe]
        omega
      have HS := hid (shortened_c wr b t cap (List.zipWith F l m) hzl (by unfold maxLen; omega) hr hbz)
      have HKP := hid hkp
      clear hr hzl hbz hkp
      go_wp2_with (go_at_call 148; refine HS.out.mono ?_; rintro e w3 ⟨rfl, hs3, hk3⟩)
      go_end0
      refine ⟨rfl, ?_, (HK0.out.trans HKP.out).trans hk3⟩
      have e : clearF l m j = shortF (List.zipWith F l m) := by
        unfold clearF
        simp only []
        rw [HX.out, HY.out, ← HG.out, ← HF.out]
      rw [e]; exact hs3
end Go.Proofs.YtkmjeegnijohmaaGreat

namespace Go.Proofs.YtkmjeegnijohmaaGreat
open Go.RowKit
set_option linter.unusedVariables false

def wAll (_ : Nat) : Bool := true

theorem AnyT.takeD {P : Program} {md : Region.Mode} {ops : Array Oper} {Q : Exit → Act → World → Prop} {S : World → Prop} {i d : Nat} {oi : Oper} {v : Value} {fuel : Nat} {listed : Array Bool} {a : Act} {w : World} {Wf : Nat → Bool} (hi : ops[i]? = some oi) (hd : oi.dst = some d)
    (hs : Region.noSelect ops = true) (hf : Region.free md ops listed i = true) (hr : (Region.ready md ops listed).contains i = true)
    (hQ : ∀ c a w, Q (.panic c) (a.put (some d) v) w → Q (.panic c) a w)
    (hW : (List.range ops.size).all (fun j => waits md ops i j || Wf j) = true) (hw : Region.wanted oi (yielded ops a.tmps) = true) (hy : ∀ w, S w → (execOp a.eval oi).run P w = .ok (.value v) w) (hS : S w)
    (h : AnyT P md ops Q (fun j w => Wf j = true → S w) fuel (listed.setIfInBounds i true) (a.put (some d) v) w) : AnyT P md ops Q (fun j w => Wf j = true → S w) (fuel + 1) listed a w :=
  AnyT.takeW hi hs hf hr (by rw [hd]; exact hQ) hW hw hy hS (by rw [hd]; exact h)
end Go.Proofs.YtkmjeegnijohmaaGreat

namespace Go.Proofs.YtkmjeegnijohmaaGreat
open Go.RowKit
set_option linter.unusedVariables false

section
variable {P : Program} {md : Region.Mode} {ops : Array Oper} {Q : Exit → Act → World → Prop} {S : World → Prop} {T : Nat → World → Prop}

theorem AnyT.firstU {i : Nat} {oi : Oper} {v : Value} (U : Nat → Prop) (hi : ops[i]? = some oi) (hsel : ∀ (j : Nat) (o : Oper) cs b, ops[j]? = some o → o.op ≠ .select cs b)
    (hQ : ∀ c a w, Q (.panic c) (a.put oi.dst v) w → Q (.panic c) a w)
    (hT : ∀ (j : Nat) oj, U j → ops[j]? = some oj → (∀ e ∈ oj.after, Region.binds md e = true → e.on ≠ i) → ∀ w, T j w → S w) (hTi : ∀ w, S w → T i w) :
    ∀ (fuel : Nat) (listed : Array Bool) (a : Act) (w : World), (∀ j, listed.getD j true = false → U j) →
      (∀ j oj, ops[j]? = some oj → j ≠ i → listed.getD j true = false → (∀ e ∈ oj.after, Region.binds md e = true → e.on ≠ i) → oi.apart ops oj = true) →
      i ∈ Region.ready md ops listed → YieldsIf P ops S oi v a → S w →
      AnyT P md ops Q T fuel (listed.setIfInBounds i true) (a.put oi.dst v) w → AnyT P md ops Q T (fuel + 1) listed a w := by
  intro fuel
  induction fuel with
  | zero =>
    intro listed a w _ _ hr hy hS H
    refine ⟨fun h => (by rw [h] at hr; cases hr), fun j hj => ?_⟩
    by_cases e : j = i
    · subst e; exact hy.wpOp hi hS ⟨hTi w hS, H⟩
    · have h0 := ready_mono hj e
      rw [H.1] at h0; cases h0
  | succ fuel ih =>
    intro listed a w hU hfree hr hy hS H
    refine ⟨fun h => (by rw [h] at hr; cases hr), fun j hj => ?_⟩
    by_cases e : j = i
    · subst e; exact hy.wpOp hi hS ⟨hTi w hS, H⟩
    · obtain ⟨hun, oj, hoj, hall⟩ := mem_ready.1 hj
      have hnot : ∀ x ∈ oj.after, Region.binds md x = true → x.on ≠ i := by
        intro x hx hb heq
        have h1 := hall x hx hb
        have h0 := (mem_ready.1 hr).1
        rw [heq] at h1
        rcases Nat.lt_or_ge i listed.size with hlt | hge
        · simp [hlt] at h0 h1; rw [h0] at h1; cases h1
        · simp [Array.getElem?_eq_none hge] at h1
      refine wpOp_mono (fun a' w' h3 => ?_) (wpOp_putIf hoj (hfree j oj hoj e hun hnot) (fun cs b => hsel i oi cs b hi) (fun cs b => hsel j oj cs b hoj) hQ hy (H.2 j (ready_mono hj e)))
      have hS' := hT j oj (hU j hun) hoj hnot w' h3.2.1
      refine ⟨h3.2.1, ih (listed.setIfInBounds j true) a' w' ?_ ?_ (ready_mono hr (fun h => e h.symm)) h3.1 hS' ?_⟩
      · intro k hk
        refine hU k ?_
        by_cases hjk : j = k
        · subst hjk; exact hun
        · rwa [getD_set_ne true hjk] at hk
      · intro k ok hk hki hkun hno
        refine hfree k ok hk hki ?_ hno
        by_cases hjk : j = k
        · subst hjk; exact hun
        · rwa [getD_set_ne true hjk] at hkun
      · rw [Array.setIfInBounds_comm _ _ e]; exact h3.2.2

theorem AnyT.takeS {i d : Nat} {oi : Oper} {v : Value} {fuel : Nat} {listed : Array Bool} {a : Act} {w : World} {Wf : Nat → Bool} (hi : ops[i]? = some oi) (hd : oi.dst = some d)
    (hs : Region.noSelect ops = true) (hf : Region.free md ops listed i = true) (hr : (Region.ready md ops listed).contains i = true)
    (hQ : ∀ c a w, Q (.panic c) (a.put (some d) v) w → Q (.panic c) a w)
    (hW : (List.range ops.size).all (fun j => listed.getD j true || waits md ops i j || Wf j) = true) (hw : Region.wanted oi (yielded ops a.tmps) = true) (hy : ∀ w, S w → (execOp a.eval oi).run P w = .ok (.value v) w) (hS : S w)
    (h : AnyT P md ops Q (fun j w => Wf j = true → S w) fuel (listed.setIfInBounds i true) (a.put (some d) v) w) : AnyT P md ops Q (fun j w => Wf j = true → S w) (fuel + 1) listed a w :=
  AnyT.firstU (fun j => listed.getD j true = false) hi (Region.noSelect_spec hs) (by rw [hd]; exact hQ) (fun j oj hun hj hno w hT => hT (by
    have hlt : j < ops.size := (Array.getElem?_eq_some_iff.1 hj).1
    have h1 := List.all_eq_true.1 hW j (List.mem_range.2 hlt)
    rw [hun] at h1
    have h2 : waits md ops i j = false := by
      unfold waits; rw [hj]
      simp only [Array.any_eq_false]
      intro k hk
      have := hno oj.after[k] (Array.getElem_mem hk)
      cases hb : Region.binds md oj.after[k] <;> simp [hb] at this ⊢
      exact this
    rw [h2] at h1; simpa using h1)) (fun w hS _ => hS) fuel listed a w (fun _ h => h) (Region.free_spec hi hf) (by simpa using hr) (.inl ⟨hw, hy⟩) hS (by rw [hd]; exact h)

theorem AnyT.takeP {i d : Nat} {oi : Oper} {v : Value} {fuel : Nat} {listed : Array Bool} {a : Act} {w : World} {Wf : Nat → Bool} {S' : World → Prop} (hi : ops[i]? = some oi) (hd : oi.dst = some d) (hWi : Wf i = false)
    (hs : Region.noSelect ops = true) (hf : Region.free md ops listed i = true) (hr : (Region.ready md ops listed).contains i = true)
    (hQ : ∀ c a w, Q (.panic c) (a.put (some d) v) w → Q (.panic c) a w)
    (hw : Region.wanted oi (yielded ops a.tmps) = true) (hy : ∀ w, (execOp a.eval oi).run P w = .ok (.value v) w)
    (h : AnyT P md ops Q (fun j w => Wf j = true → S' w) fuel (listed.setIfInBounds i true) (a.put (some d) v) w) : AnyT P md ops Q (fun j w => Wf j = true → S' w) (fuel + 1) listed a w :=
  AnyT.firstU (S := fun _ => True) (fun _ => True) hi (Region.noSelect_spec hs) (by rw [hd]; exact hQ) (fun _ _ _ _ _ _ _ => trivial) (fun w _ h => by rw [hWi] at h; cases h) fuel listed a w (fun _ _ => trivial)
    (Region.free_spec hi hf) (by simpa using hr) (.inl ⟨hw, fun w _ => hy w⟩) trivial (by rw [hd]; exact h)
end
def w2 (x y j : Nat) : Bool := decide (j = x) || decide (j = y)
end Go.Proofs.YtkmjeegnijohmaaGreat

namespace Go.Proofs.YtkmjeegnijohmaaGreat
open Go.RowKit
set_option linter.unusedVariables false

theorem li_int : (Tryz.prog.info? 3).map (fun i => (i.zero, i.size, i.bytes)) = some (some (.int .i64 0), 1, 8) := by kernel_rfl
theorem li_ints : (Tryz.prog.info? 33).map (fun i => (i.zero, i.size, i.bytes)) = some (some (.slice none 0 0), 1, 24) := by kernel_rfl
theorem li_one (x : Int) : ∀ u ∈ [Value.int .i64 x], u.oneCell' = true := by intro u hu; simp at hu; subst hu; rfl

def PredRok (P : Program) (g : Nat) (lb : Array Value) (w : World) (ok : List Int → Prop) (p : List Int → Bool) : Prop :=
  ∀ (l : List Int) (v : Value) (W : World), ok l → Below w.heap.size w W → SlV W v l → Calls P g (#[v] ++ lb) W fun e W' => e = .returned (.bool (p l)) ∧ Below W.heap.size W W'

theorem indexRok (w : World) (a : Option Addr) (n cap : Nat) (l : List (List Int)) (hn : l.length = n) (hm : n ≤ maxLen) (H : RowsAt w a l) (g : Nat) (lb : Array Value) (ok : List Int → Prop) (p : List Int → Bool)
    (eg : ∀ args w, (callFunc g args).run Tryz.prog w = .ok (.enter g args) w) (hp : PredRok Tryz.prog g lb w ok p) (hok : ∀ x ∈ l, ok x) :
    Calls Tryz.prog 75 #[.slice a n cap, .func (.func g) #[] lb] w fun e w' => e = .returned (.int .i64 (idxP p l 0)) ∧ Below w.heap.size w w' := by
  have HN := hid hn
  have HH := hid H
  have HP := hid hp
  have HOK := hid hok
  clear hn H hp hok
  unfold maxLen at hm
  go_enter Tryz.func75, Tryz.ntmps75
  go_wp2
  go_loopw [8] (fun i wr => ∃ k : Nat, k ≤ n ∧ i = .int .i64 k ∧ Below w.heap.size w wr ∧ ∀ i y, i < k → l[i]? = some y → p y = false) (fun i _ => n - (intOf i).toNat)
  case atStart => exact ⟨0, Nat.zero_le _, rfl, Below.refl _ _, fun i y h => by omega⟩
  case round =>
    obtain ⟨k, hk, rfl, hb, hno⟩ := hrel
    have HNO := hid hno
    clear hno
    by_cases hlt : k < n
    · have hkl : k < l.length := by rw [HN.out]; exact hlt
      obtain ⟨b, off, ra, rn, rc, rfl, hbs, h0, hrn, hrm, hri⟩ := (HH.out.below hb) k hkl
      have HV := hid (show SlV wr (.slice ra rn rc) l[k] from ⟨ra, rn, rc, rfl, hrn, hrm, hri⟩)
      clear hrn hri
      have HK := hid (List.getElem?_eq_getElem hkl)
      have HO := hid (HOK.out _ (List.getElem_mem hkl))
      cases hpx : p l[k]
      · go_wp2_with (refine (HP.out _ _ _ HO.out hb HV.out).mono ?_; rintro e w1 ⟨rfl, hb1⟩)
        refine ⟨⟨k + 1, by omega, by go_num, chain hb hb1, ?_⟩, by simp [intOf]; omega⟩
        intro i y hi hy
        by_cases e : i = k
        · subst e; rw [HK.out] at hy; cases hy; exact hpx
        · exact HNO.out i y (by omega) hy
      · go_wp2_with (refine (HP.out _ _ _ HO.out hb HV.out).mono ?_; rintro e w1 ⟨rfl, hb1⟩)
        go_ret
        refine ⟨ret_int ?_, chain hb hb1⟩
        rw [idxP_at p l 0 k _ HK.out hpx HNO.out]; simp
    · go_wp2
      go_ret
      refine ⟨ret_int ?_, hb⟩
      rw [idxP_neg]
      intro x hx
      obtain ⟨i, hi, e⟩ := List.getElem_of_mem hx
      exact HNO.out i x (by have := HN.out; omega) (by rw [List.getElem?_eq_getElem hi, e])

theorem idxP_find {α : Type} (p : α → Bool) : ∀ (l : List α) (k : Nat), idxP p l k = match l.findIdx? p with | some i => ((k + i : Nat) : Int) | none => -1
  | [], k => rfl
  | x :: l, k => by
    unfold idxP
    rw [List.findIdx?_cons]
    by_cases h : p x = true
    · rw [if_pos h, if_pos h]; simp
    · rw [if_neg h, if_neg h, idxP_find p l (k + 1)]
      cases l.findIdx? p with
      | none => rfl
      | some i => simp only [Option.map_some]; congr 1; omega

theorem reduce1 (w : World) (b j : Nat) (hb : b < w.heap.size) (hc : w.cell? ⟨b, 0, none⟩ = some (.int .i64 j)) : PredRok Tryz.prog 143 #[.pointer (some ⟨b, 0, none⟩)] w (fun l => j < l.length) (nz j) := by
  intro l v W hj hbw hv
  have hc' : W.cell? ⟨b, 0, none⟩ = some (.int .i64 j) := (hbw.cell (p := ⟨b, 0, none⟩) hb).trans hc
  obtain ⟨ra, rn, rc, rfl, hrn, hrm, hri⟩ := hv
  obtain ⟨b', off, rfl, hbs, hq⟩ := hri j hj
  have HNZ := hid (show nz j l = decide (l[j]?.getD 0 ≠ 0) from rfl)
  obtain ⟨x, hx⟩ : ∃ x, x = l[j]?.getD 0 := ⟨_, rfl⟩
  rw [← hx] at hq HNZ
  have hjn : j < rn := by omega
  unfold maxLen at hrm
  clear hx hri hrn hc hj
  by_cases h0 : x = 0
  all_goals
    have hd : (x != 0) = decide (x ≠ 0) := by rw [Bool.eq_iff_iff]; simp
    have HX := hid h0
    first
      | rw [decide_eq_false (by simpa using h0)] at hd
      | rw [decide_eq_true h0] at hd
    clear h0
    go_enter Tryz.func143, Tryz.ntmps143
    go_wp2
    go_ret
    exact ⟨ret_bool (by rw [HNZ.out]; have := HX.out; simp [this]), Below.refl _ _⟩

def clearTo (L : List (List Int)) (p : List Int) (k j i : Nat) : List (List Int) := L.mapIdx (fun q row => if q < i then clear1 p k j q row else row)
theorem clearTo_len (L : List (List Int)) (p : List Int) (k j i : Nat) : (clearTo L p k j i).length = L.length := by simp [clearTo]
theorem clearTo_zero (L : List (List Int)) (p : List Int) (k j : Nat) : clearTo L p k j 0 = L := by
  refine List.ext_getElem (by simp [clearTo]) fun i h1 h2 => ?_
  simp [clearTo]
theorem clearTo_all (L : List (List Int)) (p : List Int) (k j : Nat) : clearTo L p k j L.length = L.mapIdx (clear1 p k j) := by
  refine List.ext_getElem (by simp [clearTo]) fun i h1 h2 => ?_
  have : i < L.length := by simpa using h2
  simp [clearTo, this]
theorem clearTo_get {L : List (List Int)} {p : List Int} {k j i q : Nat} (hq : q < L.length) : (clearTo L p k j i)[q]'(by rw [clearTo_len]; exact hq) = if q < i then clear1 p k j q L[q] else L[q] := by simp [clearTo]
theorem clearTo_set {L : List (List Int)} {p : List Int} {k j i : Nat} (hi : i < L.length) : (clearTo L p k j i).set i (clear1 p k j i L[i]) = clearTo L p k j (i + 1) := by
  refine List.ext_getElem (by simp [clearTo]) fun q h1 h2 => ?_
  have hq : q < L.length := by simpa [clearTo] using h2
  rw [List.getElem_set]
  by_cases e : i = q
  · subst e; rw [if_pos rfl, clearTo_get hi, if_pos (by omega)]
  · rw [if_neg e, clearTo_get hq, clearTo_get hq]
    by_cases c : q < i
    · rw [if_pos c, if_pos (by omega)]
    · rw [if_neg c, if_neg (by omega)]

def Out (base top : Nat) (k : Nat) : Prop := k < base ∨ top ≤ k

theorem pRed_K (L : List (List Int)) : ∀ t, (pRed L t).2.length ≤ L.length
  | 0 => Nat.zero_le _
  | t + 1 => by
    rw [pRed_succ]
    have h := pRed_K L t
    have hl := pRed_len L t
    unfold pStep
    split
    · exact h
    · rename_i a ha
      obtain ⟨h1, _⟩ := findIdx_some ha
      rw [List.length_drop] at h1
      simp only [List.length_append, List.length_singleton]
      omega
theorem rows_drop {w : World} {g0 : Nat} {L : List (List Int)} (h : RowsAt w (some ⟨g0, 0, none⟩) L) (k : Nat) : RowsAt w (some ⟨g0, k, none⟩) (L.drop k) := by
  intro j hj
  have hjk : k + j < L.length := by rw [List.length_drop] at hj; omega
  obtain ⟨b, off, ra, n, cap, e, hlt, h0, hn, hm, hi⟩ := h (k + j) hjk
  cases e
  refine ⟨g0, k, ra, n, cap, rfl, hlt, by simpa using h0, ?_, hm, ?_⟩ <;> simp only [List.getElem_drop] <;> assumption
theorem pStep_none {R : List (List Int)} {J : List Nat} {j : Nat} (h : (R.drop J.length).findIdx? (nz j) = none) : pStep (R, J) j = (R, J) := by
  unfold pStep; simp only [h]
theorem pStep_some {R : List (List Int)} {J : List Nat} {j a : Nat} (h : (R.drop J.length).findIdx? (nz j) = some a) : pStep (R, J) j = (clearAll (swapF R J.length (J.length + a)) J.length j, J ++ [j]) := by
  unfold pStep; simp only [h]

set_option maxRecDepth 100000 in
set_option maxHeartbeats 8000000 in
theorem reduce_c (w : World) (base : Nat) (v0 : Value) (L : List (List Int)) (W : Nat) (hO : OwnT w base w.heap.size v0 L) (hbase : base ≤ w.heap.size) (hw : ∀ r ∈ L, r.length = W) (hW : W ≤ 1000) (hN : L.length ≤ 6) (hN1 : 0 < L.length) (n : Nat) (hn : n ≤ W)
    (hB : ∀ t, t ≤ n → ∀ r ∈ (pRed L t).1, r.length = W ∧ BndL 1073741824 r) :
    Calls Tryz.prog 137 #[v0, .int .i64 n] w fun e w' => ∃ v, e = .returned v ∧ w'.ownsRow w.heap.size 3 1 v (pRed L n).2.length ((pRed L n).2.map (fun j : Nat => Value.int .i64 j)) ∧ OwnT w' base w.heap.size v0 (pRed L n).1 ∧ Below base w w' := by
  have HO := hid hO
  have HB := hid hB
  have HL := hid (fun t => pRed_len L t)
  have HBA := hid hbase
  have HSU := hid (fun t => pRed_succ L t)
  obtain ⟨g0, cap, _, _, hv, _⟩ := hO.at 0 hN1
  subst hv
  obtain ⟨N, hNe⟩ : ∃ N, N = L.length := ⟨_, rfl⟩
  rw [← hNe] at HO HL hN hN1 ⊢
  have HN := hid hNe
  have HW := hid hw
  clear hO hB hbase hNe hw
  go_enter Tryz.func137, Tryz.ntmps137
  go_wp2
  go_loopw [5, 13] (fun v i wr => ∃ j : Nat, j ≤ n ∧ i = .int .i64 j ∧ wr.ownsRow w.heap.size 3 1 v (pRed L j).2.length ((pRed L j).2.map (fun j : Nat => Value.int .i64 j)) ∧ OwnT wr base w.heap.size (.slice (some ⟨g0, 0, none⟩) N cap) (pRed L j).1 ∧ Below base w wr) (fun _ i _ => n - (intOf i).toNat)
  case atStart => exact ⟨0, Nat.zero_le _, rfl, World.ownsRow_nil _ _ _ _, HO.out, Below.refl _ _⟩
  case round =>
    obtain ⟨j, hj, rfl, hown, hT, hbk⟩ := hrel
    obtain ⟨wo, hwo⟩ : ∃ wo, wo = wr := ⟨_, rfl⟩
    subst hwo
    by_cases hlt : j < n
    · have hlt' : (j : Int) < (n : Int) := by omega
      have hrl := HL.out j
      have hKN := pRed_K L j
      have hsu := HSU.out j
      have hbnd := HB.out j (by omega)
      have hbnd2 := HB.out (j + 1) (by omega)
      rw [hsu] at hbnd2
      have HSJ := hid hsu
      obtain ⟨R, hR⟩ : ∃ R, R = (pRed L j).1 := ⟨_, rfl⟩
      obtain ⟨J, hJ⟩ : ∃ R, R = (pRed L j).2 := ⟨_, rfl⟩
      have hRJ : pRed L j = (R, J) := by rw [hR, hJ]
      rw [hRJ] at hbnd2
      rw [hRJ] at HSJ
      rw [← hR] at hrl hT hbnd
      rw [← hJ] at hown hKN
      rw [← HN.out] at hKN
      obtain ⟨K, hK⟩ : ∃ K, K = J.length := ⟨_, rfl⟩
      rw [← hK] at hown hKN
      have HK := hid hK
      have HRL := hid hrl
      have HBD := hid hbnd
      have HBD2 := hid hbnd2
      have HT := hid hT
      have HBK := hid hbk
      have hsz := hbk.size
      obtain ⟨vp, vcap, rfl⟩ := ownsRow_slice hown
      have HOW := hid hown
      have hrows := hT.rowsAt hrl (fun r hr => by rw [(hbnd r hr).1]; unfold maxLen; omega)
      obtain ⟨_, _, _, hNc, hcm, hfz0, _⟩ := hT.info hrl
      unfold maxLen at hcm
      have HFZ := hid hfz0
      have hbx : Below wo.heap.size wo (wo.alloc (.cells #[.int .i64 j] 3)) := (Below.refl _ _).alloc (Nat.le_refl _) _
      have HPR := hid (reduce1 (wo.alloc (.cells #[.int .i64 j] 3)) wo.heap.size j (by simp) (by rw [World.cell?_alloc_at _ _ _ _ rfl]; rfl))
      have HRW := hid (rows_drop (hrows.below hbx) K)
      have HBX := hid hbx
      clear hsu hR hJ hRJ hK hrl hbnd hbnd2 hown hT hbk hrows hbx
      by_cases hKlt : K < N
      · have hk1 : (0 : Int) ≤ (K : Int) := by omega
        have hk2 : (K : Int) ≤ (N : Int) := by omega
        have hcK : ¬ (cap = K) := by omega
        have HI := hid (indexRok (wo.alloc (.cells #[.int .i64 j] 3)) (some ⟨g0, K, none⟩) (N - K) (cap - K) (R.drop K) (by rw [List.length_drop, HRL.out]) (by unfold maxLen; omega) HRW.out 143 #[.pointer (some ⟨wo.heap.size, 0, none⟩)] _ _ (enters_of Tryz.func143 (by kernel_rfl) rfl) HPR.out (fun x hx => by have := (HBD.out x (List.mem_of_mem_drop hx)).1; omega))
        rw [idxP_find] at HI
        cases hf : (R.drop K).findIdx? (nz j) with
        | none =>
          rw [hf] at HI
          simp only [] at HI
          have HE := hid (show pRed L (j + 1) = (R, J) by rw [HSJ.out]; exact pStep_none (by rw [← HK.out]; exact hf))
          clear hf HPR HRW hfz0
          go_wp2_with (go_at_call 75; refine HI.out.mono ?_; rintro e w1 ⟨rfl, hb1⟩)
          have hbw := chain HBX.out hb1
          refine ⟨⟨j + 1, by omega, by go_num, ?_, ?_, ?_⟩, by simp [intOf]; omega⟩
          · rw [HE.out]
            simp only []
            rw [← HK.out]
            exact own_below HOW.out hbw
          · rw [HE.out]
            exact HT.out.keep fun k _ _ hk => hbw.block k hk
          · exact HBK.out.trans (hbw.mono HBK.out.size |>.mono (by have := HBA.out; omega))
        | some a =>
          rw [hf] at HI
          simp only [Nat.zero_add] at HI
          have HE := hid (show pRed L (j + 1) = (clearAll (swapF R K (K + a)) K j, J ++ [j]) by rw [HSJ.out, pStep_some (by rw [← HK.out]; exact hf), ← HK.out])
          obtain ⟨ha1, ha2⟩ := findIdx_some hf
          rw [List.length_drop, HRL.out] at ha1
          rw [List.getElem_drop] at ha2
          have HA2 := hid ha2
          clear hf ha2 HPR HRW hfz0
          go_wp2_with (go_at_call 75; refine HI.out.mono ?_; rintro e w1 ⟨rfl, hb1⟩; refine Stop.of ?_)
          refine Stop.go ?_
          have hbw := chain HBX.out hb1
          have hbw' := hbw
          have hT1 : OwnT w1 base w.heap.size (.slice (some ⟨g0, 0, none⟩) N cap) R := HT.out.keep fun k _ _ hk => hbw.block k hk
          have hia : K + a < R.length := by rw [HRL.out]; omega
          have hiK : K < R.length := by rw [HRL.out]; omega
          obtain ⟨gK, cK, c1, _, _, _, hsK, _⟩ := hT1.row HRL.out K hiK
          obtain ⟨gA, cA, c2, _, _, _, hsA, _⟩ := hT1.row HRL.out (K + a) hia
          obtain ⟨hdK, hhK⟩ : ∃ h, h = Value.slice (some ⟨gK, 0, none⟩) R[K].length cK := ⟨_, rfl⟩
          obtain ⟨hdA, hhA⟩ : ∃ h, h = Value.slice (some ⟨gA, 0, none⟩) R[K + a].length cA := ⟨_, rfl⟩
          rw [← hhK] at c1
          rw [← hhA] at c2
          obtain ⟨_, _, hg0, _, _, hz0, _⟩ := hT1.info HRL.out
          have HS := hid (fun (X : World) (h : X.heap = w1.heap) => show X.cell? ⟨g0, K, none⟩ = some hdK ∧ X.cell? ⟨g0, K + a, none⟩ = some hdA from ⟨by unfold World.cell? at c1 ⊢; rw [h]; exact c1, by unfold World.cell? at c2 ⊢; rw [h]; exact c2⟩)
          have HZ := hid hz0
          have hzK := hz0 K
          have hzA := hz0 (K + a)
          have HT1 := hid hT1
          have HHK := hid hhK
          have HHA := hid hhA
          have HC1 := hid c1
          have HC2 := hid c2
          have ha3 : (0 : Int) ≤ (K : Int) + (a : Int) := by omega
          have ha4 : (K : Int) + (a : Int) < (N : Int) := by omega
          have ha5 : (K : Int) < (N : Int) := by omega
          have HW := hid (show IntKind.i64.wrap ((K : Int) + a) = (K : Int) + a from IntWalk.i64_in _ (by omega))
          clear hT1 hhK hhA hsK hsA hz0
          go_wp2
          have hwe := HW.out
          refine plain_region (fun j X => w2 11 15 j = true → X.cell? ⟨g0, K, none⟩ = some hdK ∧ X.cell? ⟨g0, K + a, none⟩ = some hdA) (by kernel_rfl) ?_
          refine AnyT.takeP (i := 0) (v := .slice (some ⟨g0, 0, none⟩) N cap) rfl rfl rfl (by kernel_rfl) (by kernel_rfl) (by kernel_rfl) (by first | exact (fun _ _ _ h => h) | exact (fun _ _ _ h => absurd h.1 (by simp))) (by rfl) (by intro w'; go_simp) ?_; go_frame
          refine AnyT.takeP (i := 1) (v := .int .i64 K) rfl rfl rfl (by kernel_rfl) (by kernel_rfl) (by kernel_rfl) (by first | exact (fun _ _ _ h => h) | exact (fun _ _ _ h => absurd h.1 (by simp))) (by rfl) (by intro w'; go_simp) ?_; go_frame
          refine AnyT.takeP (i := 2) (v := .slice (some ⟨g0, 0, none⟩) N cap) rfl rfl rfl (by kernel_rfl) (by kernel_rfl) (by kernel_rfl) (by first | exact (fun _ _ _ h => h) | exact (fun _ _ _ h => absurd h.1 (by simp))) (by rfl) (by intro w'; go_simp) ?_; go_frame
          refine AnyT.takeP (i := 3) (v := .int .i64 K) rfl rfl rfl (by kernel_rfl) (by kernel_rfl) (by kernel_rfl) (by first | exact (fun _ _ _ h => h) | exact (fun _ _ _ h => absurd h.1 (by simp))) (by rfl) (by intro w'; go_simp) ?_; go_frame
          refine AnyT.takeP (i := 4) (v := .int .i64 a) rfl rfl rfl (by kernel_rfl) (by kernel_rfl) (by kernel_rfl) (by first | exact (fun _ _ _ h => h) | exact (fun _ _ _ h => absurd h.1 (by simp))) (by rfl) (by intro w'; go_simp) ?_; go_frame
          refine AnyT.takeP (i := 5) (v := .int .i64 ((K : Int) + (a : Int))) rfl rfl rfl (by kernel_rfl) (by kernel_rfl) (by kernel_rfl) (by first | exact (fun _ _ _ h => h) | exact (fun _ _ _ h => absurd h.1 (by simp))) (by rfl) (by intro w'; go_simp) ?_; go_frame
          refine AnyT.takeP (i := 6) (v := .slice (some ⟨g0, 0, none⟩) N cap) rfl rfl rfl (by kernel_rfl) (by kernel_rfl) (by kernel_rfl) (by first | exact (fun _ _ _ h => h) | exact (fun _ _ _ h => absurd h.1 (by simp))) (by rfl) (by intro w'; go_simp) ?_; go_frame
          refine AnyT.takeP (i := 7) (v := .int .i64 K) rfl rfl rfl (by kernel_rfl) (by kernel_rfl) (by kernel_rfl) (by first | exact (fun _ _ _ h => h) | exact (fun _ _ _ h => absurd h.1 (by simp))) (by rfl) (by intro w'; go_simp) ?_; go_frame
          refine AnyT.takeP (i := 8) (v := .int .i64 a) rfl rfl rfl (by kernel_rfl) (by kernel_rfl) (by kernel_rfl) (by first | exact (fun _ _ _ h => h) | exact (fun _ _ _ h => absurd h.1 (by simp))) (by rfl) (by intro w'; go_simp) ?_; go_frame
          refine AnyT.takeP (i := 9) (v := .int .i64 ((K : Int) + (a : Int))) rfl rfl rfl (by kernel_rfl) (by kernel_rfl) (by kernel_rfl) (by first | exact (fun _ _ _ h => h) | exact (fun _ _ _ h => absurd h.1 (by simp))) (by rfl) (by intro w'; go_simp) ?_; go_frame
          refine AnyT.takeP (i := 10) (v := .pointer (some ⟨g0, K + a, none⟩)) rfl rfl rfl (by kernel_rfl) (by kernel_rfl) (by kernel_rfl) (by first | exact (fun _ _ _ h => h) | exact (fun _ _ _ h => absurd h.1 (by simp))) (by rfl) (by intro w'; go_simp) ?_; go_frame
          refine AnyT.takeP (i := 12) (v := .slice (some ⟨g0, 0, none⟩) N cap) rfl rfl rfl (by kernel_rfl) (by kernel_rfl) (by kernel_rfl) (by first | exact (fun _ _ _ h => h) | exact (fun _ _ _ h => absurd h.1 (by simp))) (by rfl) (by intro w'; go_simp) ?_; go_frame
          refine AnyT.takeP (i := 13) (v := .int .i64 K) rfl rfl rfl (by kernel_rfl) (by kernel_rfl) (by kernel_rfl) (by first | exact (fun _ _ _ h => h) | exact (fun _ _ _ h => absurd h.1 (by simp))) (by rfl) (by intro w'; go_simp) ?_; go_frame
          refine AnyT.takeP (i := 14) (v := .pointer (some ⟨g0, K, none⟩)) rfl rfl rfl (by kernel_rfl) (by kernel_rfl) (by kernel_rfl) (by first | exact (fun _ _ _ h => h) | exact (fun _ _ _ h => absurd h.1 (by simp))) (by rfl) (by intro w'; go_simp) ?_; go_frame
          refine AnyT.takeS (i := 15) (v := hdK) rfl rfl (by kernel_rfl) (by kernel_rfl) (by kernel_rfl) (by first | exact (fun _ _ _ h => h) | exact (fun _ _ _ h => absurd h.1 (by simp))) (by kernel_rfl) (by rfl) (by rintro w' ⟨q4, q5⟩; go_simp) (HS.out _ rfl) ?_; go_frame
          refine AnyT.takeS (i := 11) (v := hdA) rfl rfl (by kernel_rfl) (by kernel_rfl) (by kernel_rfl) (by first | exact (fun _ _ _ h => h) | exact (fun _ _ _ h => absurd h.1 (by simp))) (by kernel_rfl) (by rfl) (by rintro w' ⟨q4, q5⟩; go_simp) (HS.out _ rfl) ?_; go_frame
          refine AnyT.takeP (i := 16) (v := .pointer (some ⟨g0, K, none⟩)) rfl rfl rfl (by kernel_rfl) (by kernel_rfl) (by kernel_rfl) (by first | exact (fun _ _ _ h => h) | exact (fun _ _ _ h => absurd h.1 (by simp))) (by rfl) (by intro w'; go_simp) ?_; go_frame
          obtain rfl := HHA.out
          obtain rfl := HHK.out
          refine AnyT.next (i := 17) (by kernel_rfl) rfl (wpOp_of_list rfl ?_)
          go_wp2
          refine ⟨fun h => absurd h (by decide), ?_⟩
          refine AnyT.takeP (i := 18) (v := .pointer (some ⟨g0, K + a, none⟩)) rfl rfl rfl (by kernel_rfl) (by kernel_rfl) (by kernel_rfl) (by first | exact (fun _ _ _ h => h) | exact (fun _ _ _ h => absurd h.1 (by simp))) (by rfl) (by intro w'; go_simp) ?_; go_frame
          have hzA2 : (w1.setCell ⟨g0, K, none⟩ (.slice (some ⟨gA, 0, none⟩) R[K + a].length cA)).frozen? ⟨g0, K + a, none⟩ = false := by
            rw [World.frozen?_setCell]; exact HZ.out _
          obtain ⟨vy, hy⟩ := cell?_setCell_some (w := w1) (p := ⟨g0, K, none⟩) (x := .slice (some ⟨gA, 0, none⟩) R[K + a].length cA) (q := ⟨g0, K + a, none⟩) (v := .slice (some ⟨gA, 0, none⟩) R[K + a].length cA) c2
          refine AnyT.next (i := 19) (by kernel_rfl) rfl (wpOp_of_list rfl ?_)
          go_wp2
          refine ⟨fun h => absurd h (by decide), ?_⟩
          refine AnyT.done (by kernel_rfl) ?_ _
          obtain ⟨hsw, hswk⟩ := HT1.out.swap hiK hia (by rw [HRL.out]) HC1.out HC2.out
          obtain ⟨w2, hw2⟩ : ∃ w2, w2 = ((w1.setCell ⟨g0, K, none⟩ (.slice (some ⟨gA, 0, none⟩) R[K + a].length cA)).setCell ⟨g0, K + a, none⟩ (.slice (some ⟨gK, 0, none⟩) R[K].length cK)).drew := ⟨_, rfl⟩
          rw [← hw2]
          have hR2 : (R.set K R[K + a]).set (K + a) R[K] = swapF R K (K + a) := by
            unfold swapF; rw [List.getElem?_eq_getElem hia, List.getElem?_eq_getElem hiK]; rfl
          rw [hR2] at hsw
          have hT2 : OwnT w2 base w.heap.size (.slice (some ⟨g0, 0, none⟩) N cap) (swapF R K (K + a)) := by rw [hw2]; exact hsw
          have hk2 : Keep (fun k => k ≠ g0) w1 w2 := by
            rw [hw2]
            exact (((Keep.set w1 g0 K _).trans (Keep.set _ g0 (K + a) _)).drewN 1)
          have hR2K : (swapF R K (K + a))[K]?.getD [] = R[K + a] := by
            rw [swapF_get hiK hia, if_pos rfl, List.getElem?_eq_getElem hia]; rfl
          have hR2b : ∀ r ∈ swapF R K (K + a), r.length = W ∧ BndL 1073741824 r := by
            intro r hr
            obtain ⟨q, hq, rfl⟩ := List.mem_iff_getElem.1 hr
            rw [swapF_len] at hq
            have e := swapF_get hiK hia q
            rw [List.getElem?_eq_getElem (by rw [swapF_len]; exact hq)] at e
            simp only [Option.getD_some] at e
            rw [e]
            have hlt : (if q = K then K + a else if q = K + a then K else q) < R.length := by split <;> (try split) <;> omega
            rw [List.getElem?_eq_getElem hlt]
            exact HBD.out _ (List.getElem_mem hlt)
          have hR2l : (swapF R K (K + a)).length = N := by rw [swapF_len, HRL.out]
          obtain ⟨R2, hRe⟩ : ∃ R2, R2 = swapF R K (K + a) := ⟨_, rfl⟩
          rw [← hRe] at hT2 hR2K hR2b hR2l HE
          have HAA := hid HA2.out
          have hbx2 : w2.cell? ⟨wo.heap.size, 0, none⟩ = some (.int .i64 j) := by
            have hb0 : w1.cell? ⟨wo.heap.size, 0, none⟩ = some (.int .i64 j) := by
              rw [hb1.cell (p := ⟨wo.heap.size, 0, none⟩) (by simp), World.cell?_alloc_at _ _ _ _ rfl]; rfl
            exact hk2.cell hb0 (by omega)
          have HBX2 := hid hbx2
          have HT2 := hid hT2
          have HK2 := hid hk2
          have HR2B := hid hR2b
          have HR2L := hid hR2l
          have hKR : K < R2.length := by omega
          have hrow : R2[K] = R[K + a] := by rw [← hR2K, List.getElem?_eq_getElem hKR]; rfl
          have HNZ := hid (show vec R2[K] j ≠ 0 by rw [hrow]; simpa [nz] using HA2.out)
          obtain ⟨gP, cP, c3, hP1, hP2, hP3, hsP, hput⟩ := hT2.row hR2l K hKR
          have hjl : j < R2[K].length := by rw [(hR2b _ (List.getElem_mem hKR)).1]; omega
          have hPl : R2[K].length = W := (hR2b _ (List.getElem_mem hKR)).1
          have hPb := (hR2b _ (List.getElem_mem hKR)).2
          obtain ⟨P, hP⟩ : ∃ P, P = R2[K] := ⟨_, rfl⟩
          rw [← hP] at c3 hsP hput HNZ hjl hPl hPb
          have c4 := hsP.cell hjl
          have hPj := hPb.get hjl
          obtain ⟨x, hx⟩ : ∃ x, x = P[j]?.getD 0 := ⟨_, rfl⟩
          rw [← hx] at c4 hPj
          have HX := hid (show vec P j = x from hx.symm)
          rw [hPl] at c3
          have HSP := hid hsP
          have HPUT := hid hput
          have HP := hid hP
          have HPL := hid hPl
          have HPB := hid hPb
          have HRE := hid hRe
          have hjW : (j : Int) < (W : Int) := by omega
          have hj0 : (0 : Int) ≤ (j : Int) := by omega
          clear hw2 hsw hswk hR2 hT2 hk2 hR2K hR2b hR2l hRe hrow hsP hput hjl hPl hPb hx hP hbw c1 c2 hy hzK hzA hzA2 HZ HS HW HC1 HC2 HA2 HT1
          go_wp2
          go_quiet (fail)
          go_upto_if 50 with (fail)
          have HT3 := hid (show OwnT (w2.drewN nq) base w.heap.size (.slice (some ⟨g0, 0, none⟩) N cap) R2 from HT2.out)
          have HK3 := hid (show Keep (fun k => k ≠ g0) w1 (w2.drewN nq) from HK2.out.drewN nq)
          have HSP3 := hid (show SpRow (w2.drewN nq) gP P from HSP.out)
          have HC3 := hid (show (w2.drewN nq).cell? ⟨g0, K, none⟩ = some (.slice (some ⟨gP, 0, none⟩) W cP) from c3)
          have HBX3 := hid (show (w2.drewN nq).cell? ⟨wo.heap.size, 0, none⟩ = some (.int .i64 j) from hbx2)
          have HPUT3 := hid (fun (w' : World) (r' : List Int) (h1 : r'.length = P.length) (h2 : SpRow w' gP r') (h3 : ∀ k, base ≤ k → k < w.heap.size → k < (w2.drewN nq).heap.size → k ≠ gP → w'.heap[k]? = (w2.drewN nq).heap[k]?) => HPUT.out w' r' h1 h2 h3)
          clear HT2 HK2 HSP HBX2 HPUT c3 c4 hbx2
          generalize w2.drewN nq = w3 at HT3 HK3 HSP3 HC3 HBX3 HPUT3 ⊢
          go_cut [9, 13] from 13 to 103 (fun s9 s13 wx => s13 = .int .i64 j ∧ OwnT wx base w.heap.size (.slice (some ⟨g0, 0, none⟩) N cap) (R2.set K (posF P j)) ∧ Keep (fun k => k ≠ gP) w3 wx)
          case first =>
            by_cases hxn : x < 0
            · have c3 := HC3.out
              rw [show decide (x < 0) = true from decide_eq_true hxn]
              have HXN := hid hxn
              clear hxn
              go_wp2
              go_loopw [56] (fun i wz => ∃ t : Nat, t ≤ W ∧ i = .int .i64 t ∧ SpRow wz gP (halfF (fun x => -x) P t) ∧ Keep (fun k => k ≠ gP) w3 wz) (fun i _ => W - (intOf i).toNat)
              case atStart => exact ⟨0, Nat.zero_le _, rfl, by rw [halfF_zero]; exact HSP3.out, Keep.refl _ _⟩
              case round =>
                obtain ⟨t, ht, rfl, hr, hkp⟩ := hrel
                by_cases hltt : t < W
                · have htl : t < P.length := by rw [HPL.out]; exact hltt
                  have d1 := hkp.cell HC3.out hP3
                  have d2 := hr.cell (j := t) (by rw [halfF_len]; exact htl)
                  rw [halfF_at _ htl] at d2
                  have hz := hr.frozen t
                  have hbd := HPB.out.get htl
                  have hst := halfF_set (fun x => -x) htl
                  have HSET := hid (fun (X : World) (hX : X.heap[gP]? = wr.heap[gP]?) v => (hr.keep hX).set t (by rw [halfF_len]; exact htl) v)
                  have hgs := hr.lt
                  obtain ⟨y, hy⟩ : ∃ y, y = P[t]?.getD 0 := ⟨_, rfl⟩
                  rw [← hy] at d2 hbd hst
                  have HST := hid hst
                  have HKP := hid hkp
                  have hwn : IntKind.i64.wrap (-y) = -y := IntWalk.i64_in _ (by omega)
                  have ht0 : (0 : Int) ≤ (t : Int) := by omega
                  have ht1 : (t : Int) < (W : Int) := by omega
                  have hk0 : (K : Int) < (N : Int) := by omega
                  clear hr hkp hst hy htl c3
                  go_wp2
                  go_still_tail 14, (by kernel_rfl)
                  change wpList _ _ _ _ _ wr.drew
                  go_wp2
                  refine ⟨⟨t + 1, by omega, by go_num, ?_, (HKP.out.drewN 1).trans (Keep.set wr.drew gP t _)⟩, by simp [intOf]; omega⟩
                  rw [← HST.out]
                  exact HSET.out wr.drew rfl _
                · obtain rfl : t = W := by omega
                  go_wp2
                  go_meet
                  case rel =>
                    refine ⟨rfl, ?_, hkp⟩
                    rw [← HPL.out, halfF_all] at hr
                    have e : posF P j = P.map (fun x => -x) := by unfold posF negF; rw [HX.out, if_pos HXN.out]
                    rw [e]
                    exact HPUT3.out _ _ (by simp) hr (fun k _ _ hk hne => hkp.block k hk hne)
            · rw [show decide (x < 0) = false from decide_eq_false hxn]
              have HXN := hid hxn
              clear hxn
              go_wp2
              go_meet
              case rel =>
                refine ⟨rfl, ?_, Keep.refl _ _⟩
                have e : posF P j = P := by unfold posF; rw [HX.out, if_neg (by have := HXN.out; omega)]
                rw [e]
                exact HPUT3.out _ _ rfl HSP3.out (fun k _ _ hk hne => rfl)
          case rest =>
            obtain ⟨rfl, hT4, hk4⟩ := hcut
            obtain ⟨Pp, hPp⟩ : ∃ Pp, Pp = posF P j := ⟨_, rfl⟩
            rw [← hPp] at hT4
            have hPpl : Pp.length = W := by rw [hPp, posF_len, HPL.out]
            have hPpb : BndL 1073741824 Pp := by
              intro y hy
              obtain ⟨i, hi, rfl⟩ := List.mem_iff_getElem.1 hy
              obtain ⟨z, hz, e⟩ := posF_mul P j
              have h1 := e i
              rw [← hPp, vec_lt hi] at h1
              have h2 := HPB.out.get (k := i) (by rw [HPL.out, ← hPpl]; exact hi)
              have h3 : vec P i = P[i]?.getD 0 := rfl
              rw [h1, h3]
              rcases hz with rfl | rfl <;> omega
            have hPpj : vec Pp j ≠ 0 := by
              have := posF_pos (l := P) (j := j) HNZ.out
              rw [← hPp] at this; omega
            obtain ⟨L3, hL3⟩ : ∃ L3, L3 = R2.set K Pp := ⟨_, rfl⟩
            have hL3l : L3.length = N := by rw [hL3, List.length_set, HR2L.out]
            have hL3K : L3[K]? = some Pp := by subst hL3; exact List.getElem?_set_self hKR
            have hL3o : ∀ q (hq : q < L3.length), q ≠ K → (L3[q]).length = W ∧ BndL 1073741824 (L3[q]) := by
              intro q hq hne
              subst hL3
              rw [List.getElem_set_ne (Ne.symm hne)]
              exact HR2B.out _ (List.getElem_mem _)
            have hfin : (clearAll R2 K j) = clearTo L3 Pp K j N := by
              rw [← hL3l, clearTo_all, hL3]
              unfold clearAll
              have : R2[K]?.getD [] = P := by rw [HP.out, List.getElem?_eq_getElem hKR]; rfl
              rw [this, ← hPp]
            have HFIN := hid hfin
            have HPPL := hid hPpl
            have HPPB := hid hPpb
            have HPPJ := hid hPpj
            rw [← hL3] at hT4
            have hcl0 : clearTo L3 Pp K j 0 = L3 := clearTo_zero _ _ _ _
            have HT4 := hid (show OwnT wc base w.heap.size (.slice (some ⟨g0, 0, none⟩) N cap) (clearTo L3 Pp K j 0) by rw [hcl0]; exact hT4)
            have HL3L := hid hL3l
            have HL3K := hid hL3K
            have HL3O := hid hL3o
            have hbx4 : wc.cell? ⟨wo.heap.size, 0, none⟩ = some (.int .i64 j) := hk4.cell HBX3.out (by omega)
            have HBX4 := hid hbx4
            have HK4 := hid (show Keep (Out base w.heap.size) w1 wc from (HK3.out.mono (fun k hk => by rcases hk with h | h <;> omega)).trans (hk4.mono (fun k hk => by rcases hk with h | h <;> omega)))
            clear hPp hPpl hPpb hPpj hL3l hL3K hL3o hfin hL3 hcl0 hT4 hbx4 hk4 HT3 HK3 HSP3 HC3 HBX3 HPUT3
            go_wp2
            go_loopw [76] (fun i wr => ∃ t : Nat, t ≤ N ∧ i = .int .i64 t ∧ OwnT wr base w.heap.size (.slice (some ⟨g0, 0, none⟩) N cap) (clearTo L3 Pp K j t) ∧ Keep (Out base w.heap.size) wc wr) (fun i _ => N - (intOf i).toNat)
            case atStart => exact ⟨0, Nat.zero_le _, rfl, HT4.out, Keep.refl _ _⟩
            case round =>
              obtain ⟨t, ht, rfl, hTt, hkt⟩ := hrel
              by_cases hltt : t < N
              · have htL : t < L3.length := by rw [HL3L.out]; exact hltt
                have hMl : (clearTo L3 Pp K j t).length = N := by rw [clearTo_len, HL3L.out]
                obtain ⟨gi, ci, d1, i1, i2, i3, hsp, hput⟩ := hTt.row hMl t (by rw [hMl]; exact hltt)
                have hMt : (clearTo L3 Pp K j t)[t]'(by rw [hMl]; exact hltt) = L3[t] := by rw [clearTo_get htL, if_neg (by omega)]
                rw [hMt] at d1 hsp hput
                have hset := clearTo_set (p := Pp) (k := K) (j := j) htL
                have hself : (clearTo L3 Pp K j t).set t L3[t] = clearTo L3 Pp K j t := by
                  rw [← hMt]; exact List.set_getElem_self _
                have hbx5 : wr.cell? ⟨wo.heap.size, 0, none⟩ = some (.int .i64 j) := hkt.cell HBX4.out (.inr (by omega))
                have HTT := hid hTt
                have HKT := hid hkt
                have ht0 : (0 : Int) ≤ (t : Int) := by omega
                have ht1 : (t : Int) < (N : Int) := by omega
                by_cases htK : t = K
                · have hb : ((t : Int) != (K : Int)) = false := by simp [htK]
                  have hsame : clearTo L3 Pp K j (t + 1) = clearTo L3 Pp K j t := by
                    rw [← hset]; unfold clear1; rw [if_neg (by simp [htK])]; exact hself
                  have HSM := hid hsame
                  have hlen : L3[t].length = W := by
                    have h1 := HL3K.out
                    rw [← htK, List.getElem?_eq_getElem htL] at h1
                    rw [Option.some.inj h1, HPPL.out]
                  rw [hlen] at d1
                  clear htK hset hself hsame hTt hkt hput hsp hMt hlen htL hMl
                  go_wp2
                  refine ⟨⟨t + 1, by omega, by go_num, by rw [HSM.out]; exact HTT.out, HKT.out⟩, by simp [intOf]; omega⟩
                · have hb : ((t : Int) != (K : Int)) = true := by simp; omega
                  obtain ⟨hlW, hlB⟩ := HL3O.out t htL htK
                  obtain ⟨X, hX⟩ : ∃ X, X = L3[t] := ⟨_, rfl⟩
                  rw [← hX] at d1 hsp hput hset hself hlW hlB
                  have d2 := hsp.cell (j := j) (by omega)
                  obtain ⟨y, hy⟩ : ∃ y, y = X[j]?.getD 0 := ⟨_, rfl⟩
                  rw [← hy] at d2
                  have HY := hid (show vec X j = y from hy.symm)
                  have HTK := hid htK
                  have hMK : (clearTo L3 Pp K j t)[K]'(by rw [hMl]; exact hKlt) = Pp := by
                    have h1 := HL3K.out
                    rw [List.getElem?_eq_getElem (by rw [HL3L.out]; exact hKlt)] at h1
                    rw [clearTo_get (by rw [HL3L.out]; exact hKlt)]
                    have h2 : L3[K]'(by rw [HL3L.out]; exact hKlt) = Pp := Option.some.inj h1
                    rw [h2]
                    split
                    · unfold clear1; rw [if_neg (by simp)]
                    · rfl
                  obtain ⟨gk, ck, e1, k1, k2, k3, hspk, hputk⟩ := hTt.row hMl K (by rw [hMl]; exact hKlt)
                  rw [hMK] at e1 hspk
                  have hne : gi ≠ gk := hTt.ne hMl (i := t) (j := K) (by rw [hMl]; exact hltt) (by rw [hMl]; exact hKlt) htK d1 e1
                  rw [hlW] at d1
                  rw [HPPL.out] at e1
                  by_cases hy0 : y = 0
                  · have hyb : (y != 0) = false := by simp [hy0]
                    have hsame : clearTo L3 Pp K j (t + 1) = clearTo L3 Pp K j t := by
                      rw [← hset]; unfold clear1; rw [if_neg (by rw [HY.out]; simp [hy0])]; exact hself
                    have HSM := hid hsame
                    clear htK hset hself hsame hTt hkt hput hsp hMt hX hlW hlB hy hMK hspk hne hputk hy0 htL hMl
                    go_wp2
                    refine ⟨⟨t + 1, by omega, by go_num, by rw [HSM.out]; exact HTT.out, HKT.out⟩, by simp [intOf]; omega⟩
                  · have hyb : (y != 0) = true := by simpa using hy0
                    have hst : clearTo L3 Pp K j (t + 1) = (clearTo L3 Pp K j t).set t (clearF X Pp j) := by
                      rw [← hset]; unfold clear1; rw [if_pos ⟨htK, by rw [HY.out]; exact hy0⟩]
                    have HST := hid hst
                    have HCL := hid (fun (Wd : World) (hW : Wd.heap = wr.heap) => cleared_c Wd gi W ci gk ck X Pp hlW HPPL.out (by unfold maxLen; omega) (hsp.keep (by rw [hW])) (hspk.keep (by rw [hW])) hne hlB HPPB.out j (by omega) HPPJ.out)
                    have HPU := hid hput
                    have HGI := hid (And.intro i1 i2)
                    have HLW := hid hlW
                    clear htK hset hself hst hTt hkt hput hsp hMt hX hlW hlB hy hMK hspk hne hputk hy0 htL hMl
                    go_wp2
                    go_still_tail 6, (by kernel_rfl)
                    change wpList _ _ _ _ _ wr.drew
                    generalize hwz : wr.drew = wz
                    have HWZ := hid hwz
                    have HCZ := hid (HCL.out wz (by rw [← hwz]; rfl))
                    clear hwz
                    go_wp2_with fail
                    refine (HCZ.out).mono ?_
                    rintro e w7 ⟨rfl, hs7, hk7⟩
                    go_wp2
                    have hk7' : Keep (fun k => k ≠ gi) wr w7 := (show Keep (fun k => k ≠ gi) wr wz by rw [← HWZ.out]; exact (Keep.refl _ _).drewN 1).trans hk7
                    refine ⟨⟨t + 1, by omega, by go_num, ?_, HKT.out.trans (hk7'.mono fun k hk => by have := HGI.out; rcases hk with h | h <;> omega)⟩, by simp [intOf]; omega⟩
                    rw [HST.out]
                    exact HPU.out _ _ (by rw [clearF_len (by rw [HLW.out, HPPL.out])]) hs7 (fun k _ _ hk hne => hk7'.block k hk hne)
              · obtain rfl : t = N := by omega
                rw [← HFIN.out] at hTt
                have HTT := hid hTt
                have HKT := hid (HK4.out.trans hkt)
                have hbx6 : wr.cell? ⟨wo.heap.size, 0, none⟩ = some (.int .i64 j) := hkt.cell HBX4.out (.inr (by omega))
                have hsz6 := hkt.size
                have hkeep : Keep (fun k => w.heap.size ≤ k) wo wr := (Keep.of_below hbw').trans (HKT.out.mono fun k hk => .inr hk)
                have HO6 := hid (own_keep HOW.out hkeep (fun k hk => hk))
                have M1 := hid (show K + 1 ≤ maxLen by unfold maxLen; omega)
                have M2 := hid (show (K + 1) * 8 ≤ 140737488355328 by omega)
                have M3 := hid (Nat.le_trans (show w.heap.size ≤ wr.heap.size by have := hkeep.size; omega) (le_alloc wr (.cells #[.int .i64 (j : Int)] 3)))
                have HKW := hid (show Keep (Out base w.heap.size) wo wr from (Keep.of_below hbw').trans HKT.out)
                clear hTt hkt hkeep
                go_wp2_with (at_builtin; refine wpList_app _ rfl (.tmp 99) (.tmp 101) 33 rfl w.heap.size 3 (.int .i64 0) 1 8 Tryz.underlying33 li_int rfl Nat.one_pos (.slice vp K vcap) K _ rfl (HO6.out.alloc _) (some ⟨wr.heap.size, 0, none⟩) 1 1 [.int .i64 (j : Int)] rfl rfl no_none (one_news wr _ _) (li_one _) M1.out M2.out M3.out ?_; refine Stop.of ?_)
                refine Stop.go ?_
                intro a3 c3 w8 own8 g8
                have hsw0 : w.heap.size ≤ wr.heap.size := by have := HKW.out.size; omega
                have hkg : ∀ k, k < w.heap.size → w8.heap[k]? = wr.heap[k]? := fun k hk => by
                  have h1 := g8.block k (by simp; omega) (fun e => by have := (HO6.out.lt k e.symm).1; omega)
                  rw [h1]
                  exact (Below.heap_alloc _ _ _ (by omega))
                have hsw : w.heap.size ≤ wr.heap.size := by have := HKW.out.size; omega
                have hb8 : Below w.heap.size wr w8 := ⟨g8.os, g8.tape, g8.output, by have := g8.size; simp at this; omega, fun k hk => hkg k hk⟩
                go_wp2
                refine ⟨⟨j + 1, by omega, by go_num, ?_, ?_, ?_⟩, by simp [intOf]; omega⟩
                · rw [HE.out]
                  simp only [List.length_append, List.length_singleton, List.map_append, List.map_cons, List.map_nil]
                  rw [← HK.out]
                  exact own8
                · rw [HE.out]
                  exact HTT.out.keep fun k _ hk _ => hkg k hk
                · exact HBK.out.trans ⟨hb8.os.trans HKW.out.os, hb8.tape.trans HKW.out.tape, hb8.output.trans HKW.out.output, Nat.le_trans HKW.out.size hb8.size, fun k hk => (hkg k (by have := HBA.out; omega)).trans (HKW.out.block k (by have := HBA.out; omega) (.inl hk))⟩
      · have hKe : K = N := by omega
        have hd : R.drop K = [] := List.drop_eq_nil_of_le (by rw [HRL.out]; omega)
        have HE := hid (show pRed L (j + 1) = (R, J) by rw [HSJ.out]; exact pStep_none (by rw [← HK.out, hd]; rfl))
        have HI := hid (fun (a : Option Addr) (c : Nat) => indexRok (wo.alloc (.cells #[.int .i64 j] 3)) a 0 c [] rfl (by decide) (fun i hi => by simp at hi) 143 #[.pointer (some ⟨wo.heap.size, 0, none⟩)] _ _ (enters_of Tryz.func143 (by kernel_rfl) rfl) HPR.out (fun x hx => by simp at hx))
        simp only [idxP] at HI
        subst hKe
        have hk1 : (0 : Int) ≤ (K : Int) := by omega
        clear hd HPR HRW hfz0
        rcases Decidable.em (cap = K) with rfl | hcK
        all_goals
          go_wp2_with (go_at_call 75; refine (HI.out _ _).mono ?_; rintro e w1 ⟨rfl, hb1⟩)
          have hbw := chain HBX.out hb1
          refine ⟨⟨j + 1, by omega, by go_num, ?_, ?_, ?_⟩, by simp [intOf]; omega⟩
          · rw [HE.out]
            simp only []
            rw [← HK.out]
            exact own_below HOW.out hbw
          · rw [HE.out]
            exact HT.out.keep fun k _ _ hk => hbw.block k hk
          · exact HBK.out.trans (hbw.mono HBK.out.size |>.mono (by have := HBA.out; omega))
    · obtain rfl : j = n := by omega
      go_wp2
      go_ret
      exact ⟨_, rfl, hown, hT, hbk⟩
end Go.Proofs.YtkmjeegnijohmaaGreat
