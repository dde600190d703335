/- Walks and plain laws for LinPossibleRow, part 8. -/
import Derived.Shelf.Bits.Mul64
import Derived.Shelf.Spec.BitsCarry
import Derived.Laws.CopyOwn
import Derived.Lib.SliceRun
import Derived.WalkSpells
import Derived.Test.YtfipebkhomppmaaGreatPkLinPossibleRow7
namespace Go.Proofs.YtfipebkhomppmaaGreat
section
open Go.RowKit Go.Lib
set_option linter.unusedVariables false

def wideV (V : Int) : Value := .agg #[.int .i64 (V / 18446744073709551616), .int .u64 (V % 18446744073709551616)]
def cmpI (V U : Int) : Int := if V < U then -1 else if V = U then 0 else 1

theorem size_c (w : World) (n : Int) (h : -9223372036854775808 ≤ n ∧ n ≤ 9223372036854775807) : Calls Tryz.prog 97 #[.int .i64 n] w fun e w' => e = .returned (.int .u64 (n.natAbs : Nat)) ∧ w = w' := by
  obtain ⟨m, hm⟩ : ∃ m : Int, m = (n.natAbs : Nat) := ⟨_, rfl⟩
  rw [← hm]
  by_cases h0 : n < 0
  · have h1 : IntKind.u64.wrap n = 18446744073709551616 + n := by rw [IntKind.wrap_u64]; omega
    have h2 : IntKind.u64.wrap (-(18446744073709551616 + n)) = m := by rw [IntKind.wrap_u64]; omega
    clear hm
    go_enter Tryz.func97, Tryz.ntmps97
    go_wp2
    go_ret
    exact ⟨rfl, rfl⟩
  · have h1 : IntKind.u64.wrap n = m := by rw [IntKind.wrap_u64]; omega
    clear hm
    go_enter Tryz.func97, Tryz.ntmps97
    go_wp2
    go_ret
    exact ⟨rfl, rfl⟩

set_option maxHeartbeats 1000000 in
theorem mul64_c (x y : Nat) (hx : x < 18446744073709551616) (hy : y < 18446744073709551616) (w : World) :
    Calls Tryz.prog 96 #[.int .u64 x, .int .u64 y] w fun e w' => e = .returned (.tuple #[.int .u64 ((x * y / 18446744073709551616 : Nat) : Int), .int .u64 ((x * y % 18446744073709551616 : Nat) : Int)]) ∧ w = w' := by
  obtain ⟨bd, bt, bw, hhi⟩ := mul64_hi x y hx hy
  have ba := half_mul_le (a := x / 4294967296) (b := y / 4294967296) (by omega) (by omega)
  have bb := half_mul_le (a := x / 4294967296) (b := y % 4294967296) (by omega) (by omega)
  have bc := half_mul_le (a := x % 4294967296) (b := y / 4294967296) (by omega) (by omega)
  have ba' : x / 4294967296 * (y / 4294967296) < 18446744073709551616 := by omega
  have bb' : x / 4294967296 * (y % 4294967296) < 18446744073709551616 := by omega
  have bc' : x % 4294967296 * (y / 4294967296) < 18446744073709551616 := by omega
  have bh1 : x / 4294967296 * (y / 4294967296) + (x / 4294967296 * (y % 4294967296) + x % 4294967296 * (y % 4294967296) / 4294967296) / 4294967296 < 18446744073709551616 := by omega
  have bh : x / 4294967296 * (y / 4294967296) + (x / 4294967296 * (y % 4294967296) + x % 4294967296 * (y % 4294967296) / 4294967296) / 4294967296 + ((x / 4294967296 * (y % 4294967296) + x % 4294967296 * (y % 4294967296) / 4294967296) % 4294967296 + x % 4294967296 * (y / 4294967296)) / 4294967296 < 18446744073709551616 := by omega
  go_enter Tryz.func96, Tryz.ntmps96
  go_wp2
  simp only [Mul64.maskN x hx, Mul64.maskN y hy, Mul64.divN, Mul64.mulN, Mul64.addN, Mul64.wrapN _ bd, Mul64.wrapN _ bb', Mul64.wrapN _ bt, Mul64.maskN _ bt, Mul64.wrapN _ bc', Mul64.wrapN _ bw, Mul64.wrapN _ ba', Mul64.wrapN _ bh1, Mul64.wrapN _ bh, Mul64.wrapM (x * y)]
  rw [hhi]
  go_ret2
  exact ⟨rfl, rfl⟩

theorem sub64 (x y b : Int) (hx : 0 ≤ x) (hy : 0 ≤ y) (hy' : y < 18446744073709551616) (hb0 : 0 ≤ b) (hb : b ≤ 1) (w : World) : (callFunc 113 #[.int .u64 x, .int .u64 y, .int .u64 b]).run Tryz.prog w =
    .ok (.value (.tuple #[.int .u64 ((x - y - b) % 18446744073709551616), .int .u64 (if x < y + b then 1 else 0)])) w := by
  obtain ⟨x, rfl⟩ := Int.eq_ofNat_of_zero_le hx
  obtain ⟨y, rfl⟩ := Int.eq_ofNat_of_zero_le hy
  obtain ⟨b, rfl⟩ := Int.eq_ofNat_of_zero_le hb0
  have e1 : (((x + 18446744073709551616 - y - b) % 18446744073709551616 : Nat) : Int) = ((x : Int) - y - b) % 18446744073709551616 := by omega
  have e2 : ((if x < y + b then 1 else 0 : Nat) : Int) = if (x : Int) < y + b then 1 else 0 := by split <;> split <;> omega
  rw [← e1, ← e2]
  rw [run_callFunc_extern Tryz.func113 (by kernel_rfl) (by kernel_rfl) (by kernel_rfl) (e := sub64Entry) (by kernel_rfl), run_sub64 x y b (by omega)]
  rfl
theorem sub64_0 (x y : Int) (hx : 0 ≤ x) (hy : 0 ≤ y) (hy' : y < 18446744073709551616) (w : World) : (callFunc 113 #[.int .u64 x, .int .u64 y, .int .u64 0]).run Tryz.prog w =
    .ok (.value (.tuple #[.int .u64 ((x - y) % 18446744073709551616), .int .u64 (if x < y then 1 else 0)])) w := by
  simpa using sub64 x y 0 hx hy hy' (Int.le_refl 0) (by decide) w

theorem cmp_lex {V U : Int} : (V / 18446744073709551616 < U / 18446744073709551616 → V < U) ∧ (U / 18446744073709551616 < V / 18446744073709551616 → U < V) ∧
    (V / 18446744073709551616 = U / 18446744073709551616 → V % 18446744073709551616 < U % 18446744073709551616 → V < U) ∧ (V / 18446744073709551616 = U / 18446744073709551616 → U % 18446744073709551616 < V % 18446744073709551616 → U < V) ∧
    (V / 18446744073709551616 = U / 18446744073709551616 → V % 18446744073709551616 = U % 18446744073709551616 → V = U) := by omega

theorem wcompare_c (w : World) (V U : Int) : Calls Tryz.prog 66 #[wideV V, wideV U] w fun e w' => e = .returned (.int .i64 (cmpI V U)) ∧ Below w.heap.size w w' := by
  obtain ⟨k1, k2, k3, k4, k5⟩ := cmp_lex (V := V) (U := U)
  unfold wideV
  obtain ⟨h, hh⟩ : ∃ h, h = V / 18446744073709551616 := ⟨_, rfl⟩
  obtain ⟨l, hl⟩ : ∃ h, h = V % 18446744073709551616 := ⟨_, rfl⟩
  obtain ⟨h', hh'⟩ : ∃ h, h = U / 18446744073709551616 := ⟨_, rfl⟩
  obtain ⟨l', hl'⟩ : ∃ h, h = U % 18446744073709551616 := ⟨_, rfl⟩
  rw [← hh, ← hl, ← hh', ← hl']
  rw [← hh, ← hh'] at k1 k2 k3 k4 k5
  rw [← hl, ← hl'] at k3 k4 k5
  clear hh hl hh' hl'
  obtain ⟨C, hC⟩ : ∃ C, C = cmpI V U := ⟨_, rfl⟩
  rw [← hC]
  have HBL := hid (show Below w.heap.size w ((w.alloc (.cells #[.int .i64 h, .int .u64 l] 62)).alloc (.cells #[.int .i64 h', .int .u64 l'] 62)) from ((Below.refl _ _).alloc (Nat.le_refl _) _).alloc (by simp) _)
  rcases Int.lt_trichotomy h h' with c1 | c1 | c1
  · have hv := k1 c1
    obtain rfl : C = -1 := by rw [hC]; unfold cmpI; rw [if_pos hv]
    have hne : (h == h') = false := by simp; omega
    have hne2 : ¬ h = h' := by omega
    clear hC k1 k2 k3 k4 k5
    go_enter Tryz.func66, Tryz.ntmps66
    go_wp2
    go_ret
    exact ⟨rfl, HBL.out⟩
  · subst c1
    rcases Int.lt_trichotomy l l' with c2 | c2 | c2
    · have hv := k3 rfl c2
      obtain rfl : C = -1 := by rw [hC]; unfold cmpI; rw [if_pos hv]
      have hne : (l == l') = false := by simp; omega
      have hne2 : ¬ l = l' := by omega
      clear hC k1 k2 k3 k4 k5
      go_enter Tryz.func66, Tryz.ntmps66
      go_wp2
      go_ret
      exact ⟨rfl, HBL.out⟩
    · subst c2
      have hv := k5 rfl rfl
      obtain rfl : C = 0 := by rw [hC]; unfold cmpI; rw [if_neg (by omega), if_pos hv]
      clear hC k1 k2 k3 k4 k5
      go_enter Tryz.func66, Tryz.ntmps66
      go_wp2
      go_ret
      exact ⟨rfl, HBL.out⟩
    · have hv := k4 rfl c2
      obtain rfl : C = 1 := by rw [hC]; unfold cmpI; rw [if_neg (by omega), if_neg (by omega)]
      have hne : (l == l') = false := by simp; omega
      have hne2 : ¬ l = l' := by omega
      have hnl : ¬ l < l' := by omega
      clear hC k1 k2 k3 k4 k5
      go_enter Tryz.func66, Tryz.ntmps66
      go_wp2
      go_ret
      exact ⟨rfl, HBL.out⟩
  · have hv := k2 c1
    obtain rfl : C = 1 := by rw [hC]; unfold cmpI; rw [if_neg (by omega), if_neg (by omega)]
    have hne : (h == h') = false := by simp; omega
    have hne2 : ¬ h = h' := by omega
    have hnl : ¬ h < h' := by omega
    clear hC k1 k2 k3 k4 k5
    go_enter Tryz.func66, Tryz.ntmps66
    go_wp2
    go_ret
    exact ⟨rfl, HBL.out⟩

end

section
open Go.RowKit
set_option linter.unusedVariables false

end
end Go.Proofs.YtfipebkhomppmaaGreat

namespace Go.Proofs.YtfipebkhomppmaaGreat
open Go.RowKit
set_option linter.unusedVariables false

theorem copy_rowN {P : Program} (w : World) (dT sT ty : TypeId) (g o dLen dCap : Nat) (a : Addr) (sLen sCap sz : Nat) (cur : Array Value) (t : TypeId) (cs : List Value) (elem : TypeId)
    (hu : P.underlying dT = some (.slice elem)) (hs : (P.info? elem).map (·.size) = some sz) (hg : w.heap[g]? = some (.cells cur t (0, 0))) (hn : cs.length = Nat.min sLen dLen * sz)
    (hsrc : ∀ j v, cs[j]? = some v → w.cell? (a.add j) = some v) (hfit : o + cs.length ≤ cur.size) (h1 : ∀ v ∈ cs, v.oneCell' = true) :
    (Builtin.copy_ #[dT, sT] ty #[.slice (some ⟨g, o, none⟩) dLen dCap, .slice (some a) sLen sCap]).run P w = .ok (goInt (Nat.min sLen dLen)) (w.setRow g (cur.toList.take o ++ cs ++ cur.toList.drop (o + cs.length)).toArray) := by
  have hl := run_loadCells_list (P := P) w a cs hsrc
  have hst := run_storeCells_at P g o t cs 0 cur w hg (by simpa using hfit) h1
  cases hq : P.info? elem with
  | none => simp [hq] at hs
  | some i =>
    have hi : i.size = sz := by simpa [hq] using hs
    simp [Builtin.copy_, run_underlying hu, Builtin.lenOf, Builtin.firstCells, sizeOf, typeInfo, hq, hi, ← hn, hl, hst]

theorem wpList_copyN {P : Program} {w : World} {ops : Array Oper} {rest : List Oper} {o : Oper} {a : Act} {Q : Exit → Act → World → Prop} (hgd : o.guard = none) (d s : Operand) (dT sT : TypeId)
    (ho : o.op = .call { callee := .builtin .copy, args := #[d, s], argTypes := #[dT, sT] }) (elem : TypeId) (sz : Nat) (hu : P.underlying dT = some (.slice elem)) (hsz : (P.info? elem).map (·.size) = some sz)
    (g off dLen dCap : Nat) (ad : Addr) (sLen sCap : Nat) (hd : a.eval d = .slice (some ⟨g, off, none⟩) dLen dCap) (hs : a.eval s = .slice (some ad) sLen sCap)
    (cur : List Value) (t : TypeId) (hg : w.heap[g]? = some (.cells cur.toArray t (0, 0))) (cs : List Value) (m : Nat) (hm : m = Nat.min sLen dLen) (hn : cs.length = m * sz)
    (hsrc : ∀ j v, cs[j]? = some v → w.cell? (ad.add j) = some v) (hfit : off + cs.length ≤ cur.length) (h1 : ∀ v ∈ cs, v.oneCell' = true) (B : Nat) (w0 : World) (hb : Below B w0 w) (hBg : B ≤ g)
    (h : ∀ w', Hid (w'.heap[g]? = some (.cells (splice cur off cs).toArray t (0, 0))) → Below B w0 w' → wpList P ops Q rest (a.put o.dst (goInt m)) w') : wpList P ops Q (o :: rest) a w := by
  refine wpList_plain hgd fun K hK => ?_
  have hrun := copy_rowN (P := P) w dT sT o.type g off dLen dCap ad sLen sCap sz cur.toArray t cs elem hu hsz hg (by rw [hn, hm]) hsrc (by simpa using hfit) h1
  unfold Oper.wp
  rw [← hm] at hrun
  simp [execOp, ho, resolve, invoke, builtin, hd, hs, hrun, Result.andThen]
  refine hK _ _ (h _ ?_ (below_setRow hb hBg _))
  show _ = _
  simpa [splice] using setRow_heap w g _ _ t _ hg

theorem ratVals_app (l m : List Rt) : ratVals (l ++ m) = ratVals l ++ ratVals m := by simp [ratVals]
theorem splice_rat (L M : List Rt) (k : Nat) (c : List Rt) (hk : k + c.length ≤ L.length) : splice (ratVals L) (k * 2) (ratVals c) = ratVals (L.take k ++ (c ++ L.drop (k + c.length))) := by
  unfold splice
  have h1 : (ratVals L).take (k * 2) = ratVals (L.take k) := by
    have := ratVals_app (L.take k) (L.drop k)
    rw [List.take_append_drop] at this
    rw [this, List.take_append_of_le_length (by rw [ratVals_length, List.length_take]; omega), List.take_of_length_le (by rw [ratVals_length, List.length_take]; omega)]
  have h2 : (ratVals L).drop (k * 2 + (ratVals c).length) = ratVals (L.drop (k + c.length)) := by
    have := ratVals_app (L.take (k + c.length)) (L.drop (k + c.length))
    rw [List.take_append_drop] at this
    have e : k * 2 + (ratVals c).length = (ratVals (L.take (k + c.length))).length := by rw [ratVals_length, ratVals_length, List.length_take]; omega
    rw [this, e, List.drop_left]
  rw [h1, h2, ratVals_app, ratVals_app]

set_option maxHeartbeats 1000000 in
theorem bmul_c (x y : Nat) (hx : x < 18446744073709551616) (hy : y < 18446744073709551616) (h : x * y < 18446744073709551616) (w : World) :
    Calls Tryz.prog 88 #[.int .u64 x, .int .u64 y] w fun e w' => e = .returned (.tuple #[.int .u64 0, .int .u64 ((x * y : Nat) : Int)]) ∧ w = w' := by
  have HM := hid (mul64_c x y hx hy w)
  rw [Nat.div_eq_of_lt h, Nat.mod_eq_of_lt h] at HM
  obtain ⟨z, hz⟩ : ∃ z, z = x * y := ⟨_, rfl⟩
  rw [← hz] at HM ⊢
  clear hz h hx hy
  go_enter Tryz.func88, Tryz.ntmps88
  go_wp2_with (go_at_call 96; refine HM.out.mono ?_; rintro e w1 ⟨rfl, rfl⟩)
  go_ret2
  exact ⟨rfl, rfl⟩

theorem info_ratio2 : (Tryz.prog.info? 57).map (·.size) = some 2 := by kernel_rfl

set_option maxRecDepth 100000 in
set_option maxHeartbeats 2000000 in
theorem repeat_c (w : World) (a : Option Addr) (cap : Nat) (r : Rt) (H : RatsAt w a [r]) (N : Nat) (hN1 : 1 ≤ N) (hN : N ≤ 1000) :
    Calls Tryz.prog 56 #[.slice a 1 cap, .int .i64 N] w fun e w' => ∃ g, e = .returned (.slice (some ⟨g, 0, none⟩) N N) ∧ w.heap.size ≤ g ∧ RatBlk w' g (List.replicate N r) ∧ Below w.heap.size w w' := by
  obtain ⟨b, off, rfl, hb, h0, h1⟩ := H 0 (by simp)
  simp only [Nat.zero_mul, Nat.add_zero, List.getElem_cons_zero] at h0 h1
  have HMU := hid (bmul_c 1 N (by decide) (by omega) (by omega) w)
  rw [Nat.one_mul] at HMU
  have w1 : IntKind.u64.wrap (1 : Int) = 1 := by decide
  have w2 : IntKind.u64.wrap (N : Int) = N := by rw [IntKind.wrap_u64]; omega
  have w3 : IntKind.i64.wrap (N : Int) = N := IntWalk.i64_in _ (by omega)
  have hmk := run_make_rat N (by omega)
  obtain ⟨wa, hwa⟩ : ∃ wa, wa = w.alloc (.cells (madeCells #[.int .i64 0, .int .i64 0] (N * 2)) 57) := ⟨_, rfl⟩
  obtain ⟨g, hg⟩ : ∃ g, g = w.heap.size := ⟨_, rfl⟩
  have hba : Below w.heap.size w wa := by rw [hwa]; exact (Below.refl _ _).alloc (Nat.le_refl _) _
  have hrb0 : RatBlk wa g (List.replicate N (0, 0)) := by rw [hwa, hg]; exact made_rat w N
  have hgb : g ≠ b := by omega
  have hsrc : ∀ (X : World), X.heap[b]? = w.heap[b]? → ∀ (j : Nat) (v : Value), (ratCells r)[j]? = some v → X.cell? ((⟨b, off, none⟩ : Addr).add j) = some v := by
    intro X hX j v hv
    have e : ∀ o, X.cell? ⟨b, o, none⟩ = w.cell? ⟨b, o, none⟩ := fun o => World.cell?_of_block hX
    match j, hv with
    | 0, hv => cases hv; exact (e _).trans h0
    | 1, hv => cases hv; exact (e _).trans h1
    | j + 2, hv => simp [ratCells] at hv
  have hcp := copy_rowN (P := Tryz.prog) wa 31 31 3 g 0 N N ⟨b, off, none⟩ 1 cap 2 (ratVals (List.replicate N (0, 0))).toArray 57 (ratCells r) 57 (by kernel_rfl) info_ratio2 hrb0 (by rw [show Nat.min 1 N = 1 from Nat.min_eq_left hN1]; rfl) (hsrc wa (hba.block b hb)) (by simp [ratCells, ratVals_length]; omega) (rat_one r)
  rw [show Nat.min 1 N = 1 from Nat.min_eq_left hN1] at hcp
  obtain ⟨w5, hw5⟩ : ∃ w5, w5 = wa.setRow g ((ratVals (List.replicate N (0, 0))).toArray.toList.take 0 ++ ratCells r ++ (ratVals (List.replicate N (0, 0))).toArray.toList.drop (0 + (ratCells r).length)).toArray := ⟨_, rfl⟩
  rw [← hw5] at hcp
  have hrb1 : RatBlk w5 g (List.replicate 1 r ++ List.replicate (N - 1) (0, 0)) := by
    rw [hw5]
    have := setRow_heap wa g _ ((ratVals (List.replicate N (0, 0))).toArray.toList.take 0 ++ ratCells r ++ (ratVals (List.replicate N (0, 0))).toArray.toList.drop (0 + (ratCells r).length)).toArray _ _ hrb0
    unfold RatBlk
    rw [this]
    have e := splice_rat (List.replicate N (0, 0)) [] 0 [r] (by simp; omega)
    unfold splice at e
    have e2 : ratVals [r] = ratCells r := by simp [ratVals]
    rw [e2] at e
    have e3 : (List.replicate N ((0 : Int), (0 : Int))).take 0 ++ ([r] ++ (List.replicate N (0, 0)).drop (0 + [r].length)) = List.replicate 1 r ++ List.replicate (N - 1) (0, 0) := by simp
    rw [e3] at e
    simp only [List.append_assoc, Nat.zero_mul] at e ⊢
    rw [e]
  have hb5 : Below w.heap.size w w5 := by rw [hw5]; exact below_setRow hba (by omega) _
  have HRB1 := hid hrb1
  have HB5 := hid hb5
  have HG := hid hg
  clear hba hrb0 hgb hsrc hrb1 hb5 hw5 h0 h1 H
  go_enter Tryz.func56, Tryz.ntmps56
  go_wp2_with (go_at_call 88; refine HMU.out.mono ?_; rintro e w4 ⟨rfl, rfl⟩; refine Stop.of ?_)
  refine Stop.go ?_
  clear HMU
  rw [hg, hwa] at hcp
  clear hg hwa
  go_wp2_with fail
  clear hcp hmk
  rw [← HG.out]
  go_loopw [8] (fun i wr => ∃ k : Nat, 1 ≤ k ∧ k ≤ N ∧ i = .int .i64 k ∧ RatBlk wr g (List.replicate k r ++ List.replicate (N - k) (0, 0)) ∧ Below w.heap.size w wr) (fun i _ => N - (intOf i).toNat)
  case atStart => exact ⟨1, by omega, hN1, rfl, HRB1.out, HB5.out⟩
  case round =>
    obtain ⟨k, hk1, hk, rfl, hrk, hbk⟩ := hrel
    by_cases hlt : k < N
    · have i1 : (k : Int) < (N : Int) := by omega
      have i2 : (0 : Int) ≤ (k : Int) := by omega
      have i3 : (k : Int) ≤ (N : Int) := by omega
      have i4 : ¬ N = k := by omega
      have HRK := hid hrk
      have HBK := hid hbk
      clear hrk hbk
      go_wp2
      refine plain_region (fun j' X => wAll j' = true → True) (by kernel_rfl) ?_
      have hbd : Below w.heap.size w wr.drew := HBK.out.drew
      have hrd : RatBlk wr.drew g (List.replicate k r ++ List.replicate (N - k) (0, 0)) := HRK.out.keep rfl
      generalize wr.drew = wd at hbd hrd ⊢
      have HRD := hid hrd
      have HBD := hid hbd
      clear hrd hbd
      refine AnyT.takeD (i := 0) (v := .int .i64 k) rfl rfl (by kernel_rfl) (by kernel_rfl) (by kernel_rfl) (by first | exact (fun _ _ _ h => h) | exact (fun _ _ _ h => absurd h.1 (by simp))) (by kernel_rfl) (by rfl) (by rintro w' y1; go_simp) trivial ?_; go_frame
      refine AnyT.takeD (i := 1) (v := .slice (some ⟨g, 0, none⟩) N N) rfl rfl (by kernel_rfl) (by kernel_rfl) (by kernel_rfl) (by first | exact (fun _ _ _ h => h) | exact (fun _ _ _ h => absurd h.1 (by simp))) (by kernel_rfl) (by rfl) (by rintro w' y1; go_simp) trivial ?_; go_frame
      refine AnyT.takeD (i := 2) (v := .int .i64 k) rfl rfl (by kernel_rfl) (by kernel_rfl) (by kernel_rfl) (by first | exact (fun _ _ _ h => h) | exact (fun _ _ _ h => absurd h.1 (by simp))) (by kernel_rfl) (by rfl) (by rintro w' y1; go_simp) trivial ?_; go_frame
      refine AnyT.takeD (i := 3) (v := .slice (some ⟨g, k * 2, none⟩) (N - k) (N - k)) rfl rfl (by kernel_rfl) (by kernel_rfl) (by kernel_rfl) (by first | exact (fun _ _ _ h => h) | exact (fun _ _ _ h => absurd h.1 (by simp))) (by kernel_rfl) (by rfl) (by rintro w' y1; go_simp) trivial ?_; go_frame
      refine AnyT.takeD (i := 4) (v := .slice (some ⟨g, 0, none⟩) N N) rfl rfl (by kernel_rfl) (by kernel_rfl) (by kernel_rfl) (by first | exact (fun _ _ _ h => h) | exact (fun _ _ _ h => absurd h.1 (by simp))) (by kernel_rfl) (by rfl) (by rintro w' y1; go_simp) trivial ?_; go_frame
      refine AnyT.takeD (i := 5) (v := .int .i64 k) rfl rfl (by kernel_rfl) (by kernel_rfl) (by kernel_rfl) (by first | exact (fun _ _ _ h => h) | exact (fun _ _ _ h => absurd h.1 (by simp))) (by kernel_rfl) (by rfl) (by rintro w' y1; go_simp) trivial ?_; go_frame
      refine AnyT.takeD (i := 6) (v := .slice (some ⟨g, 0, none⟩) k N) rfl rfl (by kernel_rfl) (by kernel_rfl) (by kernel_rfl) (by first | exact (fun _ _ _ h => h) | exact (fun _ _ _ h => absurd h.1 (by simp))) (by kernel_rfl) (by rfl) (by rintro w' y1; go_simp) trivial ?_; go_frame
      refine AnyT.next (i := 7) (by kernel_rfl) rfl (wpOp_of_list rfl ?_)
      obtain ⟨m, hm⟩ : ∃ m, m = Nat.min k (N - k) := ⟨_, rfl⟩
      have hm1 : 1 ≤ m ∧ k + m ≤ N := by rw [hm]; show 1 ≤ min k (N - k) ∧ k + min k (N - k) ≤ N; omega
      have hcl : (ratVals (List.replicate m r)).length = m * 2 := by rw [ratVals_length, List.length_replicate]
      refine wpList_copyN rfl (.tmp 41) (.tmp 44) 31 31 rfl 57 2 (by kernel_rfl) info_ratio2 g (k * 2) (N - k) (N - k) ⟨g, 0, none⟩ k N rfl rfl (ratVals (List.replicate k r ++ List.replicate (N - k) (0, 0))) 57 HRD.out (ratVals (List.replicate m r)) m hm hcl ?_ ?_ ?_ w.heap.size w HBD.out (by rw [HG.out]; exact Nat.le_refl _) ?_
      · intro j v hv
        have hj : j < m * 2 := by rw [← hcl]; exact (List.getElem?_eq_some_iff.1 hv).1
        have e1 : ((⟨g, 0, none⟩ : Addr).add j) = ⟨g, j, none⟩ := by unfold Addr.add; split <;> simp_all
        have hb0 := HRD.out
        unfold RatBlk at hb0
        rw [e1]
        have hsame : (ratVals (List.replicate k r ++ List.replicate (N - k) (0, 0)))[j]? = (ratVals (List.replicate m r))[j]? := by
          have e2 : List.replicate k r ++ List.replicate (N - k) ((0 : Int), (0 : Int)) = List.replicate m r ++ (List.replicate (k - m) r ++ List.replicate (N - k) (0, 0)) := by
            have : m ≤ k := by rw [hm]; exact Nat.min_le_left _ _
            rw [← List.append_assoc, List.replicate_append_replicate, show m + (k - m) = k by omega]
          rw [e2, ratVals_app, List.getElem?_append_left (by omega)]
        simp [World.cell?, hb0, hsame, hv]
      · rw [hcl, ratVals_length, List.length_append, List.length_replicate, List.length_replicate]; omega
      · intro u hu
        obtain ⟨x, _, hx⟩ := List.mem_flatMap.1 hu
        exact rat_one x u hx
      · intro w6 h6 hb6
        have HR6 := hid (show RatBlk w6 g (List.replicate (k + m) r ++ List.replicate (N - (k + m)) (0, 0)) from by
          unfold RatBlk
          rw [h6.out]
          have e := splice_rat (List.replicate k r ++ List.replicate (N - k) ((0 : Int), (0 : Int))) [] k (List.replicate m r) (by simp; omega)
          rw [e]
          congr 3
          rw [List.take_append_of_le_length (by simp), List.take_of_length_le (by simp), List.length_replicate, List.drop_append, List.drop_of_length_le (by simp), List.nil_append, List.drop_replicate, List.length_replicate, ← List.append_assoc, List.replicate_append_replicate]
          rw [show N - k - (k + m - k) = N - (k + m) by omega])
        have HB6 := hid hb6
        have i5 : (k : Int) + (m : Int) ≤ N := by omega
        clear h6 hb6 hm hcl
        go_wp2
        refine ⟨fun _ => trivial, ?_⟩
        refine AnyT.next (i := 8) (by kernel_rfl) rfl (wpOp_of_list rfl ?_)
        go_wp2
        refine ⟨fun _ => trivial, ?_⟩
        refine AnyT.next (i := 9) (by kernel_rfl) rfl (wpOp_of_list rfl ?_)
        go_wp2
        refine ⟨fun _ => trivial, ?_⟩
        refine AnyT.done (by kernel_rfl) ?_ _
        go_wp2
        refine ⟨⟨k + m, by omega, by omega, by go_num, HR6.out, HB6.out⟩, by simp [intOf]; omega⟩
    · obtain rfl : k = N := by omega
      have hni : ¬ (k : Int) < (k : Int) := by omega
      rw [Nat.sub_self] at hrk
      simp only [List.replicate_zero, List.append_nil] at hrk
      go_wp2
      go_ret
      exact ⟨g, rfl, by rw [HG.out]; exact Nat.le_refl _, hrk, hbk⟩
end Go.Proofs.YtfipebkhomppmaaGreat

namespace Go.Proofs.YtfipebkhomppmaaGreat
section
set_option linter.unusedVariables false

theorem ratioF_eq {a b c d : Int} (hb : 0 < b) (hd : 0 < d) (h : a * d = c * b) : ratioF a b = ratioF c d := by
  have g1 : 0 < Int.gcd a b := Nat.pos_of_ne_zero fun e => by have := (Int.gcd_eq_zero_iff.1 e).2; omega
  have g2 : 0 < Int.gcd c d := Nat.pos_of_ne_zero fun e => by have := (Int.gcd_eq_zero_iff.1 e).2; omega
  have k1 : Int.gcd (a * d) (b * d) = Int.gcd a b * d.natAbs := Int.gcd_mul_right _ _ _
  have k2 : Int.gcd (c * b) (d * b) = Int.gcd c d * b.natAbs := Int.gcd_mul_right _ _ _
  rw [h, Int.mul_comm b d, k2] at k1
  obtain ⟨a1, ha⟩ := Int.gcd_dvd_left a b
  obtain ⟨b1, hb1⟩ := Int.gcd_dvd_right a b
  obtain ⟨c1, hc⟩ := Int.gcd_dvd_left c d
  obtain ⟨d1, hd1⟩ := Int.gcd_dvd_right c d
  unfold ratioF
  obtain ⟨G, hG⟩ : ∃ G : Int, G = ((Int.gcd a b : Nat) : Int) := ⟨_, rfl⟩
  obtain ⟨H, hH⟩ : ∃ G : Int, G = ((Int.gcd c d : Nat) : Int) := ⟨_, rfl⟩
  have k3 : H * b = G * d := by
    have := congrArg (fun n : Nat => (n : Int)) k1
    simp only [Int.natCast_mul] at this
    rw [← hG, ← hH] at this
    rw [show ((b.natAbs : Nat) : Int) = b by omega, show ((d.natAbs : Nat) : Int) = d by omega] at this
    exact this
  rw [← hG] at ha hb1 ⊢
  rw [← hH] at hc hd1 ⊢
  have hG0 : G ≠ 0 := by omega
  have hH0 : H ≠ 0 := by omega
  have e1 : b1 = d1 := by
    rw [hb1, hd1] at k3
    have : (H * G) * b1 = (H * G) * d1 := by grind
    exact Int.eq_of_mul_eq_mul_left (Int.mul_ne_zero hH0 hG0) this
  have hb10 : b1 ≠ 0 := fun e => by rw [e] at hb1; omega
  have e2 : a1 = c1 := by
    rw [ha, hd1, hc, hb1, ← e1] at h
    have : (G * H * b1) * a1 = (G * H * b1) * c1 := by grind
    exact Int.eq_of_mul_eq_mul_left (Int.mul_ne_zero (Int.mul_ne_zero hG0 hH0) hb10) this
  rw [Int.tdiv_eq_of_eq_mul_left hG0 (c := a1) (by rw [ha]; exact Int.mul_comm _ _), Int.tdiv_eq_of_eq_mul_left hG0 (c := b1) (by rw [hb1]; exact Int.mul_comm _ _),
    Int.tdiv_eq_of_eq_mul_left hH0 (c := c1) (by rw [hc]; exact Int.mul_comm _ _), Int.tdiv_eq_of_eq_mul_left hH0 (c := d1) (by rw [hd1]; exact Int.mul_comm _ _), e1, e2]

theorem vec_drop (l : List Int) (n i : Nat) : vec (l.drop n) i = vec l (n + i) := by unfold vec; rw [List.getElem?_drop]

end

section
section
open Go.RowKit
set_option linter.unusedVariables false

theorem unit1 (w : World) (b N : Nat) (hN : N ≤ 1000) (hc : w.cell? ⟨b, 0, none⟩ = some (.int .i64 N)) (hb : b < w.heap.size) :
    MoreP Tryz.prog 84 #[.pointer (some ⟨b, 0, none⟩)] w N (fun i => unitF N i) := by
  intro i W hi hW
  have hc' : W.cell? ⟨b, 0, none⟩ = some (.int .i64 N) := (hW.cell (p := ⟨b, 0, none⟩) hb).trans hc
  rw [unitF_len]
  show Calls Tryz.prog 84 #[.int .i64 i, .pointer (some ⟨b, 0, none⟩)] W fun e W' => ∃ a c, e = .returned (.slice a N c) ∧ IntsAt W' a (unitF N i) ∧ Below W.heap.size W W'
  have hmk : ∀ w, (Instr.makeSlice 24 (.int .i64 (N : Int)) (.int .i64 (N : Int))).run Tryz.prog w = .ok (.slice (some ⟨w.heap.size, 0, none⟩) N N) (w.alloc (.cells (madeCells #[.int .i64 0] N) 3)) :=
    fun w => run_make_row' 24 3 (.int .i64 0) 8 Tryz.underlying24 li_int rfl .i64 .i64 N (by omega) (by omega) w
  have hmsz : (madeCells #[Value.int .i64 0] N).size = N := by rw [size_madeCells]
  have HSP := hid (sp_made_set W N i 1)
  have i1 : (i : Int) < (N : Int) := by omega
  have i0 : (0 : Int) ≤ (i : Int) := by omega
  clear hc hN
  go_enter Tryz.func84, Tryz.ntmps84
  go_wp2
  go_ret
  refine ⟨some ⟨W.heap.size, 0, none⟩, N, rfl, HSP.out.ints, (Below.refl _ _).alloc (Nat.le_refl _) _⟩

theorem unit_c (w : World) (N : Nat) : Calls Tryz.prog 52 #[.int .i64 N] w
    fun e w' => e = .returned (.func (.func 84) #[] #[.pointer (some ⟨w.heap.size, 0, none⟩)]) ∧ w' = w.alloc (.cells #[.int .i64 N] 3) := by
  have hmf : ∀ (fn : Fn) (first cap : Array Value) (w : World), (Instr.makeFunc fn first cap).run Tryz.prog w = .ok (.func fn first cap) w := fun _ _ _ _ => rfl
  go_enter Tryz.func52, Tryz.ntmps52
  go_wp2
  go_ret
  exact ⟨rfl, rfl⟩

theorem chosenF_unit {M : List (List Int)} {W : Nat} (h : ∀ r ∈ M, r.length = W) : chosenF M (allI W) (fun i => unitF M.length i) = extF M := by
  unfold chosenF extF
  refine List.ext_getElem (by simp) fun i h1 h2 => ?_
  have hi : i < M.length := by simpa using h1
  simp only [List.getElem_mapIdx]
  congr 1
  have := congrArg (fun l => l[i]?) (cols_all h)
  unfold colsF at this
  simp only [List.getElem?_map, List.getElem?_eq_getElem hi, Option.map_some, Option.some.injEq] at this
  exact this

def SeenAt (w : World) (g0 : Nat) (M : Mask) (W : Nat) : Prop :=
  ∀ i, i < M.length → ∃ gi x, w.cell? ⟨g0, i, none⟩ = some (.slice (some ⟨gi, 0, none⟩) (W + M.length) (W + M.length + x)) ∧ g0 < w.heap.size ∧ gi < w.heap.size ∧ IntsAt w (some ⟨gi, 0, none⟩) ((RE M W)[i]?.getD []) ∧ ((RE M W)[i]?.getD []).length = W + M.length
theorem SeenAt.below {w w' : World} {g0 : Nat} {M : Mask} {W : Nat} (h : SeenAt w g0 M W) (hb : Below w.heap.size w w') : SeenAt w' g0 M W := by
  intro i hi
  obtain ⟨gi, x, h1, h2, h3, h4, h5⟩ := h i hi
  exact ⟨gi, x, (hb.cell (p := ⟨g0, i, none⟩) h2).trans h1, Nat.lt_of_lt_of_le h2 hb.size, Nat.lt_of_lt_of_le h3 hb.size, h4.below hb, h5⟩

set_option maxRecDepth 100000 in
set_option maxHeartbeats 4000000 in
theorem seen_c (w : World) (a : Option Addr) (n cap : Nat) (M : Mask) (hn : M.length = n) (H : RowsAt w a M) (hok : okM M = true) :
    Calls Tryz.prog 22 #[.slice a n cap] w fun e w' => ∃ g0 c0 ja jc, e = .returned (.tuple #[.slice (some ⟨g0, 0, none⟩) n c0, .slice ja (JP M (colsM M)).length jc]) ∧
      SeenAt w' g0 M (colsM M) ∧ n ≤ c0 ∧ IntsAt w' ja (intsJ (JP M (colsM M))) ∧ Below w.heap.size w w' := by
  obtain ⟨hM, h1, h6, hc1, hc10⟩ := okM_ok hok
  obtain ⟨b, off, ra, rc, rfl, hb, hc⟩ := rows_head H (by omega)
  have hn6 : n ≤ 6 := by omega
  have hn1 : 1 ≤ n := by omega
  obtain ⟨W, hW⟩ : ∃ W, W = colsM M := ⟨_, rfl⟩
  rw [← hW] at hM hc1 hc10 hc ⊢
  have hS : ∀ r ∈ M, ∀ j ∈ allI W, 0 ≤ j ∧ j < r.length := fun r hr j hj => by rw [hM.wid r hr]; exact allI_mem hj
  have HCh := hid (fun (X : World) (hX : Below w.heap.size w X) (va : Option Addr) (vc q : Nat) (hI : IntsAt X va (allI W)) (hq : X.cell? ⟨q, 0, none⟩ = some (.int .i64 n)) (hqs : q < X.heap.size) =>
    chosen_c X (some ⟨b, off, none⟩) n cap M hn (by omega) (H.below hX) va W vc (allI W) (allI_len W) (by omega) hI hS 84 #[.pointer (some ⟨q, 0, none⟩)] (enters_of Tryz.func84 (by kernel_rfl) rfl) (fun i => unitF n i)
      (unit1 X q n (by omega) hq hqs) (fun i _ => ⟨by rw [unitF_len]; omega, by omega⟩))
  have hcu : chosenF M (allI W) (fun i => unitF n i) = extF M := by rw [← hn]; exact chosenF_unit hM.wid
  rw [hcu] at HCh
  have hEl : (extF M).length = n := by rw [extF_len, hn]
  have hle : ∀ t, t ≤ W → ∀ r ∈ (pRed (extF M) t).1, r.length = W + n ∧ BndL 1073741824 r := fun t ht r hr => by
    have h2 := (hM.einv t).wid r hr
    rw [hn] at h2
    refine ⟨h2, fun x hx => ?_⟩
    obtain ⟨c, hc, rfl⟩ := List.mem_iff_getElem.1 hx
    obtain ⟨k, hk, rfl⟩ := List.mem_iff_getElem.1 hr
    have := hM.re_le (t := t) k c
    rw [List.getElem?_eq_getElem hk] at this
    simp only [Option.getD_some] at this
    rw [vec_lt hc] at this
    omega
  have HRd := hid (fun (W1 : World) (base : Nat) (v0 : Value) (hO : OwnT W1 base W1.heap.size v0 (extF M)) (hb : base ≤ W1.heap.size) => reduce_c W1 base v0 (extF M) (W + n) hO hb (fun r hr => by have := hM.ext.wid r hr; rw [hn] at this; exact this) (by omega) (by omega) (by omega) W (by omega) hle)
  have hJE : (pRed (extF M) W).2 = JP M W := hM.ext_same.1
  rw [hJE] at HRd
  have hRl : (pRed (extF M) W).1.length = n := by rw [pRed_len, hEl]
  have hRw : ∀ r ∈ (pRed (extF M) W).1, r.length = W + n := fun r hr => (hle W (Nat.le_refl _) r hr).1
  have HN := hid hn
  have HRL := hid hRl
  have HRW := hid hRw
  have HCC := hid (fun (X : World) (hX : Below w.heap.size w X) => show X.cell? ⟨b, off, none⟩ = some (.slice ra W rc) from (hX.cell (p := ⟨b, off, none⟩) hb).trans hc)
  obtain ⟨K, hK⟩ : ∃ K, K = (JP M W).length := ⟨_, rfl⟩
  have HKJ := hid hK
  rw [← hK] at HRd ⊢
  have i0 : (0 : Int) < (n : Int) := by omega
  clear hn H hok hM h1 h6 hb hc hS hcu hEl hle hRl hRw hJE hK hW
  go_enter Tryz.func22, Tryz.ntmps22
  have c0 := HCC.out w (Below.refl _ _)
  go_wp2_with (go_at_call 45; refine (all_c _ W (by omega)).mono ?_; rintro e w2 ⟨v, rfl, ho2, hb2⟩; refine Stop.of ?_)
  refine Stop.go ?_
  obtain ⟨va, vc, rfl, hi2, hm2⟩ := ints_of_own ho2 (allI_len W)
  have HI2 := hid hi2
  have HB2 := hid hb2
  clear hi2 ho2 hb2 c0
  have hb23 : Below w2.heap.size w2 (w2.alloc (.cells #[.int .i64 n] 3)) := (Below.refl _ _).alloc (Nat.le_refl _) _
  have HB3 := hid (chain HB2.out hb23)
  have HC3 := hid (HCh.out (w2.alloc (.cells #[.int .i64 n] 3)) HB3.out va vc w2.heap.size (HI2.out.below hb23) (by rw [World.cell?_alloc_at _ _ _ _ rfl]; rfl) (by simp))
  clear HCh hb23 HI2 HB2
  go_wp2_with (go_at_call 52; refine (unit_c w2 n).mono ?_; rintro e w3 ⟨rfl, rfl⟩; refine Stop.of ?_)
  refine Stop.go ?_
  go_wp2_with (go_at_call 51; refine HC3.out.mono ?_; rintro e w4 ⟨v0, rfl, hO4, hb4⟩; refine Stop.of ?_)
  refine Stop.go ?_
  have HRd1 := hid (HRd.out w4 _ v0 (OwnT.of hO4) hb4.size)
  have HB4 := hid (chain HB3.out hb4)
  have c4 := HCC.out w4 HB4.out
  have HB34 := hid hb4
  clear hO4 HRd HC3 hb4
  go_wp2_with (go_at_call 53; refine HRd1.out.mono ?_; rintro e w5 ⟨vJ, rfl, hJo, hT5, hb5⟩; refine Stop.of ?_)
  refine Stop.go ?_
  rw [intsJ_vals] at hJo
  obtain ⟨ja, jc, rfl, hJI, hJm⟩ := ints_of_own hJo (by rw [intsJ_len, HKJ.out])
  have hv0 : ∃ g0 c0, v0 = .slice (some ⟨g0, 0, none⟩) n c0 := by
    obtain ⟨g0, c0, _, _, e, _⟩ := hT5.at 0 (by rw [HRL.out]; omega)
    exact ⟨g0, c0, by rw [e, HRL.out]⟩
  obtain ⟨g0, cc, rfl⟩ := hv0
  have hinf := hT5.info HRL.out
  have hSE : SeenAt w5 g0 M W := by
    intro i hi
    have hiR : i < (pRed (extF M) W).1.length := by rw [HRL.out, ← HN.out]; exact hi
    obtain ⟨gi, x, hx1, hx2, hx3⟩ := hT5.caps HRL.out i hiR
    have hlen := HRW.out _ (List.getElem_mem hiR)
    rw [List.getElem?_eq_getElem hiR]
    simp only [Option.getD_some]
    refine ⟨gi, x, ?_, hinf.2.2.1, hx2, hx3.ints, by rw [hlen, HN.out]⟩
    rw [hx1, hlen, HN.out]
  have HSE := hid hSE
  have HJI := hid hJI
  have HBF := hid (show Below w.heap.size w w5 from HB3.out.trans ((HB34.out.trans hb5).mono HB3.out.size))
  have hcc := hinf.2.2.2.1
  clear hSE hJI hinf hT5 hJo hb5
  go_wp2
  go_ret2
  exact ⟨g0, cc, ja, jc, rfl, HSE.out, hcc, HJI.out, HBF.out⟩
end

section
open Go.RowKit
set_option linter.unusedVariables false

theorem ints_drop {w : World} {g o W : Nat} {l : List Int} (h : IntsAt w (some ⟨g, o, none⟩) l) : IntsAt w (some ⟨g, o + W, none⟩) (l.drop W) := by
  intro j hj
  obtain ⟨b, off, e, hb, hc⟩ := h (W + j) (by rw [List.length_drop] at hj; omega)
  cases e
  refine ⟨g, o + W, rfl, hb, ?_⟩
  rw [List.getElem?_drop, ← hc, show o + W + j = o + (W + j) by omega]

end

section
open Go.RowKit
set_option linter.unusedVariables false

end

section
open Go.RowKit
set_option linter.unusedVariables false

theorem clone_c (w : World) (a : Option Addr) (n cap : Nat) (l : List Int) (hn : l.length = n) (hm : n * 8 ≤ 140737488355328) (H : IntsAt w a l) :
    Calls Tryz.prog 50 #[.slice a n cap] w fun e w' => ∃ v, e = .returned v ∧ w'.ownsRow w.heap.size 3 1 v n (l.map (Value.int .i64)) ∧ Below w.heap.size w w' := by
  obtain ⟨i0, hi, hz0, hz1, hz2⟩ := info_parts li_int
  have heq := fun (w : World) (a : Option Addr) (n c : Nat) => Lib.run_eql_slice_nil (P := Tryz.prog) w 24 3 a n c 0 0 Tryz.underlying24
  cases a with
  | none =>
    have h0 : n = 0 := by
      rcases Nat.eq_zero_or_pos n with h | h
      · exact h
      · obtain ⟨_, _, e, _⟩ := H 0 (by omega); cases e
    subst h0
    have hl : l = [] := List.eq_nil_of_length_eq_zero hn
    subst hl
    clear hn H hm
    go_enter Tryz.func50, Tryz.ntmps50
    go_wp2
    go_ret
    exact ⟨_, rfl, World.ownsRow_nil _ _ _ _, Below.refl _ _⟩
  | some ad =>
    have HN := hid hn
    have hnews : ∀ j u, (l.map (Value.int .i64))[j]? = some u → (w.alloc (.cells #[] 3)).cell? (ad.add j) = some u := by
      intro j u hu
      rw [List.getElem?_map] at hu
      obtain ⟨x, hx, rfl⟩ := Option.map_eq_some_iff.1 hu
      obtain ⟨hjl, e⟩ := List.getElem?_eq_some_iff.1 hx
      obtain ⟨b, off, ea, hb, hc⟩ := H j hjl
      cases ea
      rw [Addr.add_lit]
      refine (((Below.refl _ w).alloc (Nat.le_refl _) (.cells #[] 3)).cell (p := ⟨b, off + j, none⟩) hb).trans ?_
      rw [hc, hx]; rfl
    have HNews := hid hnews
    clear hnews H hn
    go_enter Tryz.func50, Tryz.ntmps50
    go_wp2_with (at_builtin; refine wpList_append_own _ rfl _ _ 24 rfl w.heap.size 3 i0 (.int .i64 0) 1 8 Tryz.underlying24 hi hz0 hz1 hz2 rfl (by decide) _ 0 [] rfl (World.ownsRow_made _ _ 0 (Nat.le_refl _) (by unfold maxLen; omega) rfl) ad n cap (l.map (Value.int .i64)) rfl (by rw [List.length_map, HN.out]; omega) HNews.out (ints_one _) (by unfold maxLen; omega) (by omega) (by simp) ?_; intro v' w1 hown' hgrow _)
    go_ret
    refine ⟨_, rfl, by simpa using hown', ((Below.refl _ w).alloc (Nat.le_refl _) _).grown hgrow (by simp) (fun k hk => by cases hk; exact Nat.le_refl _)⟩

theorem pdot_c (w : World) (a a2 : Option Addr) (n cap n2 cap2 : Nat) (r h : List Int) (hn : r.length = n) (hn2 : h.length = n2) (hm : n ≤ 1000) (hle : n ≤ n2) (H : IntsAt w a r) (H2 : IntsAt w a2 h) (hr : BndL 67108864 r) (hh : BndL 67108864 h) :
    Calls Tryz.prog 42 #[.slice a n cap, .slice a2 n2 cap2] w fun e w' => e = .returned (.int .i64 (dotV r h)) ∧ ∃ k, w' = w.drewN k := by
  have HN := hid hn
  have HN2 := hid hn2
  have HH := hid H
  have HH2 := hid H2
  have HDL := hid (dot_le hr hh)
  have HR := hid hr
  have HHB := hid hh
  have HD := hid (show dotV r h = sm (fun c => vec r c * vec h c) n by unfold dotV; rw [hn])
  clear hn hn2 H H2 hr hh
  go_enter Tryz.func42, Tryz.ntmps42
  go_wp2
  go_loopw [5, 10] (fun s i wr => ∃ k : Nat, k ≤ n ∧ i = .int .i64 k ∧ s = .int .i64 (sm (fun c => vec r c * vec h c) k) ∧ ∃ q, wr = w.drewN q) (fun _ i _ => n - (intOf i).toNat)
  case atStart => exact ⟨0, Nat.zero_le _, rfl, rfl, 0, rfl⟩
  case round =>
    obtain ⟨k, hk, rfl, rfl, q, rfl⟩ := hrel
    by_cases hlt : k < n
    · have hkl : k < r.length := by rw [HN.out]; exact hlt
      have hkl2 : k < h.length := by rw [HN2.out]; omega
      obtain ⟨b, off, rfl, hbs, hc⟩ := HH.out k hkl
      obtain ⟨b2, off2, rfl, hbs2, hc2⟩ := HH2.out k hkl2
      have g1 := HR.out.get hkl
      have g2 := HHB.out.get hkl2
      have e1 := HDL.out k
      have e2 := HDL.out (k + 1)
      have es : sm (fun c => vec r c * vec h c) (k + 1) = sm (fun c => vec r c * vec h c) k + r[k]?.getD 0 * h[k]?.getD 0 := rfl
      obtain ⟨x, hx⟩ : ∃ x, x = r[k]?.getD 0 := ⟨_, rfl⟩
      obtain ⟨y, hy⟩ : ∃ x, x = h[k]?.getD 0 := ⟨_, rfl⟩
      rw [← hx] at hc g1 es
      rw [← hy] at hc2 g2 es
      obtain ⟨s0, hs0⟩ : ∃ x, x = sm (fun c => vec r c * vec h c) k := ⟨_, rfl⟩
      rw [← hs0] at es e1 ⊢
      rw [es] at e2
      have e3 := mul_bnd (show -(67108864 : Int) ≤ x ∧ x ≤ 67108864 by omega) (show -(67108864 : Int) ≤ y ∧ y ≤ 67108864 by omega)
      obtain ⟨m, hmm⟩ : ∃ m, m = x * y := ⟨_, rfl⟩
      rw [← hmm] at es e2 e3
      have w1 : IntKind.i64.wrap (x * y) = m := by rw [← hmm]; exact IntWalk.i64_in _ (by omega)
      have w2 : IntKind.i64.wrap (s0 + m) = s0 + m := IntWalk.i64_in _ (by omega)
      have w1' : wrap64 (x * y) = m := by rw [← hmm]; unfold wrap64; omega
      have w2' : wrap64 (s0 + m) = s0 + m := by unfold wrap64; omega
      have HES := hid es
      have i1 : (0 : Int) ≤ (k : Int) := by omega
      have i2 : (k : Int) < (n : Int) := by omega
      have i3 : (k : Int) < (n2 : Int) := by omega
      clear hx hy hs0 hmm es e1 e2 e3 g1 g2 hkl hkl2
      go_wp2
      exact ⟨⟨k + 1, by omega, by go_num, by rw [HES.out], _, rfl⟩, by simp [intOf]; omega⟩
    · obtain rfl : n = k := by omega
      go_wp2
      go_ret
      exact ⟨ret_int HD.out.symm, q, rfl⟩
end

section
open Go.RowKit
set_option linter.unusedVariables false

def confZ (M : Mask) (W q : Nat) : List Int := ((RE M W)[q]?.getD []).drop W
def conflictF (M : Mask) (y : List Int) : Option (List Int) :=
  ((List.range' (JP M (colsM M)).length (M.length - (JP M (colsM M)).length)).find? (fun q => decide (dotV (confZ M (colsM M) q) y ≠ 0))).map (confZ M (colsM M))
def ConfPost (M : Mask) (y : List Int) (n : Nat) (e : Ending) (w' : World) : Prop :=
  (conflictF M y = none ∧ e = .returned (.slice none 0 0)) ∨ (∃ z a cap, conflictF M y = some z ∧ e = .returned (.slice (some a) n cap) ∧ IntsAt w' (some a) z)
theorem conf_at {M : Mask} {y : List Int} {q : Nat} (h1 : (JP M (colsM M)).length ≤ q) (h2 : q < M.length) (h3 : dotV (confZ M (colsM M) q) y ≠ 0) (h4 : ∀ i, (JP M (colsM M)).length ≤ i → i < q → dotV (confZ M (colsM M) i) y = 0) :
    conflictF M y = some (confZ M (colsM M) q) := by
  unfold conflictF
  have : (List.range' (JP M (colsM M)).length (M.length - (JP M (colsM M)).length)).find? (fun q => decide (dotV (confZ M (colsM M) q) y ≠ 0)) = some q := by
    rw [List.find?_eq_some_iff_getElem]
    refine ⟨by simpa using h3, q - (JP M (colsM M)).length, by simp; omega, by simp; omega, fun j hj => ?_⟩
    simp only [List.getElem_range', Nat.one_mul]
    have := h4 ((JP M (colsM M)).length + j) (by omega) (by omega)
    simpa using this
  rw [this]; rfl
theorem conf_no {M : Mask} {y : List Int} (h4 : ∀ i, (JP M (colsM M)).length ≤ i → i < M.length → dotV (confZ M (colsM M) i) y = 0) : conflictF M y = none := by
  unfold conflictF
  have : (List.range' (JP M (colsM M)).length (M.length - (JP M (colsM M)).length)).find? (fun q => decide (dotV (confZ M (colsM M) q) y ≠ 0)) = none := by
    rw [List.find?_eq_none]
    intro i hi
    rw [List.mem_range'_1] at hi
    have := h4 i hi.1 (by omega)
    simpa using this
  rw [this]; rfl
theorem confZ_len {M : Mask} (hok : okM M = true) {q : Nat} (hq : q < M.length) : (confZ M (colsM M) q).length = M.length ∧ ∀ i, -720 ≤ vec (confZ M (colsM M) q) i ∧ vec (confZ M (colsM M) q) i ≤ 720 := by
  obtain ⟨hM, _⟩ := okM_ok hok
  have hl : (RE M (colsM M)).length = M.length := by rw [pRed_len, extF_len]
  have hw : ((RE M (colsM M))[q]?.getD []).length = colsM M + M.length := by
    rw [List.getElem?_eq_getElem (by omega)]; exact (hM.einv (colsM M)).wid _ (List.getElem_mem _)
  refine ⟨by unfold confZ; rw [List.length_drop]; omega, fun i => ?_⟩
  unfold confZ
  rw [vec_drop]
  exact hM.re_le q _
theorem confZ_bnd {M : Mask} (hok : okM M = true) {q : Nat} (hq : q < M.length) : BndL 67108864 (confZ M (colsM M) q) :=
  mem_vec (P := fun x => -((67108864 : Nat) : Int) ≤ x ∧ x ≤ ((67108864 : Nat) : Int)) fun c => by have := (confZ_len hok hq).2 c; omega

set_option maxRecDepth 100000 in
set_option maxHeartbeats 4000000 in
theorem conflict_c (w : World) (a a2 : Option Addr) (n cap cap2 : Nat) (M : Mask) (y : List Int) (hn : M.length = n) (hn2 : y.length = n) (H : RowsAt w a M) (H2 : IntsAt w a2 y) (hok : okM M = true) (hmil : milB y = true) :
    Calls Tryz.prog 21 #[.slice a n cap, .slice a2 n cap2] w fun e w' => Below w.heap.size w w' ∧ ConfPost M y n e w' := by
  have HSN := hid (seen_c w a n cap M hn H hok)
  have HZL := hid (fun q (hq : q < M.length) => confZ_len hok hq)
  have HZB := hid (fun q (hq : q < M.length) => confZ_bnd hok hq)
  have HYB := hid (mil_bnd hmil)
  have HAT := hid (fun q => conf_at (M := M) (y := y) (q := q))
  have HNO := hid (conf_no (M := M) (y := y))
  have HZD := hid (fun q => show confZ M (colsM M) q = ((RE M (colsM M))[q]?.getD []).drop (colsM M) from rfl)
  obtain ⟨hM, h1, h6, hc1, hc10⟩ := okM_ok hok
  obtain ⟨b, off, ra, rc, rfl, hb, hc⟩ := rows_head H (by omega)
  have hKn : (JP M (colsM M)).length ≤ n := by
    have : (JP M (colsM M)).length ≤ M.length := (hM.inv (colsM M)).K_le
    omega
  obtain ⟨W, hW⟩ : ∃ W, W = colsM M := ⟨_, rfl⟩
  rw [← hW] at HSN HZL HZB HAT HNO HZD hM hc1 hc10 hc hKn
  obtain ⟨K, hK⟩ : ∃ K, K = (JP M W).length := ⟨_, rfl⟩
  rw [← hK] at HSN HAT HNO hKn
  have HCC := hid (fun (X : World) (hX : Below w.heap.size w X) => show X.cell? ⟨b, off, none⟩ = some (.slice ra W rc) from (hX.cell (p := ⟨b, off, none⟩) hb).trans hc)
  have HYI := hid (fun (X : World) (hX : Below w.heap.size w X) => H2.below hX)
  have HN := hid hn
  have HN2 := hid hn2
  have i0 : (0 : Int) < (n : Int) := by omega
  have hn6 : n ≤ 6 := by omega
  clear hn hn2 H H2 hok hM h1 h6 hb hc hK hW hmil
  go_enter Tryz.func21, Tryz.ntmps21
  go_wp2_with (go_at_call 22; refine HSN.out.mono ?_; rintro e w1 ⟨g0, c0, ja, jc, rfl, hSE, hcc, hJI, hb1⟩; refine Stop.of ?_)
  refine Stop.go ?_
  have HSE := hid hSE
  have HB1 := hid hb1
  clear hSE hJI hb1 HSN
  have i1 : (K : Int) ≤ (n : Int) := by omega
  have i2 : (n : Int) ≤ (c0 : Int) := by omega
  have i3 : (K : Int) ≤ (c0 : Int) := by omega
  have i4 : (0 : Int) ≤ (K : Int) := by omega
  rcases Nat.lt_or_ge K n with hlt | hge
  · have hcK : ¬ (c0 = K) := by omega
    obtain ⟨m, hm⟩ : ∃ m, m = n - K := ⟨_, rfl⟩
    have hmk : n - K = m := hm.symm
    clear hm
    go_wp2
    go_loopw [20] (fun i wr => ∃ t : Nat, t ≤ m ∧ i = .int .i64 t ∧ (∃ q, wr = w1.drewN q) ∧ Hid (∀ q, K ≤ q → q < K + t → dotV (confZ M W q) y = 0)) (fun i _ => m - (intOf i).toNat)
    case atStart => exact ⟨0, Nat.zero_le _, rfl, ⟨0, rfl⟩, hid (fun q h1 h2 => by omega)⟩
    case round =>
      obtain ⟨t, ht, rfl, ⟨q0, rfl⟩, HZ⟩ := hrel
      by_cases htm : t < m
      · obtain ⟨gi, x, hh, hg0, hgi, hri, hrl⟩ := HSE.out (K + t) (by rw [HN.out]; omega)
        rw [HN.out] at hh hrl
        have hqM : K + t < M.length := by rw [HN.out]; omega
        have hzl := (HZL.out (K + t) hqM).1
        have HZE := hid (ints_drop (W := W) hri)
        rw [← HZD.out] at HZE
        have HZB2 := hid (HZB.out (K + t) hqM)
        have HAT2 := hid (fun (h : dotV (confZ M W (K + t)) y ≠ 0) => HAT.out (K + t) (by omega) hqM h (fun i h1 h2 => HZ.out i h1 (by omega)))
        have HNX := hid (fun (h : dotV (confZ M W (K + t)) y = 0) => show ∀ q, K ≤ q → q < K + (t + 1) → dotV (confZ M W q) y = 0 from fun q h1 h2 => by
          rcases Nat.lt_or_ge q (K + t) with h3 | h3
          · exact HZ.out q h1 h3
          · obtain rfl : q = K + t := by omega
            exact h)
        obtain ⟨Z, hZ⟩ : ∃ Z, Z = confZ M W (K + t) := ⟨_, rfl⟩
        rw [← hZ] at hzl HZE HZB2 HAT2 HNX
        rw [HN.out] at hzl
        have hm1 := HCC.out (w1.drewN q0) (below_drewN HB1.out q0)
        have hh2 : (w1.drewN q0).cell? ⟨g0, K + t, none⟩ = some (.slice (some ⟨gi, 0, none⟩) (W + n) (W + n + x)) := hh
        have HDT := hid (fun (X : World) (hX : Below w1.heap.size w1 X) => pdot_c X (some ⟨gi, 0 + W, none⟩) a2 n (W + n + x - W) n cap2 Z y hzl HN2.out (by omega) (Nat.le_refl _) (HZE.out.below hX) (HYI.out X (chain HB1.out hX)) HZB2.out HYB.out)
        have HZE2 := hid (fun (X : World) (hX : Below w1.heap.size w1 X) => HZE.out.below hX)
        obtain ⟨d, hd⟩ : ∃ d, d = dotV Z y := ⟨_, rfl⟩
        rw [← hd] at HDT HAT2 HNX
        have HZL2 := hid hzl
        rw [Nat.zero_add] at HDT HZE2
        obtain ⟨L, hL⟩ : ∃ L, L = W + n := ⟨_, rfl⟩
        rw [← hL] at hh2 HDT
        obtain ⟨C, hC⟩ : ∃ C, C = L + x := ⟨_, rfl⟩
        rw [← hC] at hh2 HDT
        have hLn : L - W = n := by omega
        have j1 : (W : Int) ≤ (L : Int) := by omega
        have j2 : (L : Int) ≤ (C : Int) := by omega
        have j3 : (W : Int) ≤ (C : Int) := by omega
        have j4 : ¬ (C = W) := by omega
        have j5 : (t : Int) < (m : Int) := by omega
        have j0 : (0 : Int) ≤ (W : Int) := by omega
        clear hh hri hrl hgi hzl hZ hd hL hC HZE hqM
        have hb0 : Below w1.heap.size w1 (w1.drewN q0) := below_drewN (Below.refl _ _) q0
        have HDT2 := hid (HDT.out _ hb0)
        go_wp2_with (go_at_call 42; refine HDT2.out.mono ?_; rintro e w3 ⟨rfl, k3, rfl⟩; refine Stop.of ?_)
        refine Stop.go ?_
        have hb3 : Below w1.heap.size w1 (w1.drewN (q0 + k3)) := below_drewN (Below.refl _ _) (q0 + k3)
        by_cases h0 : d = 0
        · have hd0 : (d != 0) = false := by simpa using h0
          have HX := hid (HNX.out h0)
          clear HNX HAT2 HDT HDT2
          go_wp2
          exact ⟨⟨t + 1, by omega, by go_num, ⟨_, rfl⟩, HX⟩, by simp [intOf]; omega⟩
        · have hd0 : (d != 0) = true := by simpa using h0
          have HX := hid (HAT2.out h0)
          have HCL := hid (clone_c (w1.drewN (q0 + k3)) (some ⟨gi, W, none⟩) n (C - W) Z HZL2.out (by omega) (HZE2.out _ hb3))
          clear HNX HAT2 HDT HDT2
          go_wp2_with (go_at_call 50; refine HCL.out.mono ?_; rintro e w4 ⟨v4, rfl, ho4, hb4⟩; refine Stop.of ?_)
          refine Stop.go ?_
          obtain ⟨g4, c4, rfl, _, hs4⟩ := spRow_own ho4 HZL2.out (by omega)
          have hbf := chain HB1.out (chain hb3 hb4)
          have HI4 := hid hs4.ints
          clear ho4 hs4
          go_wp2
          go_ret
          exact ⟨hbf, Or.inr ⟨Z, _, c4, HX.out, rfl, HI4.out⟩⟩
      · obtain rfl : t = m := by omega
        have HX := hid (HNO.out fun i h1 h2 => HZ.out i h1 (by have := HN.out; omega))
        go_wp2
        go_ret
        exact ⟨below_drewN HB1.out q0, Or.inl ⟨HX.out, rfl⟩⟩
  · obtain rfl : K = n := by omega
    have HZ := hid (HNO.out fun i h1 h2 => by have := HN.out; omega)
    by_cases hcK : c0 = K
    all_goals
      go_wp2
      trace_state
      go_loop [20] (fun i => i = .int .i64 0) (fun i => 0)
      case atStart => rfl
      case round =>
        subst hrel
        go_wp2
        go_ret
        exact ⟨HB1.out, Or.inl ⟨HZ.out, rfl⟩⟩
end

section
open Go.RowKit
set_option linter.unusedVariables false

end
end
end Go.Proofs.YtfipebkhomppmaaGreat

namespace Go.Proofs.YtfipebkhomppmaaGreat
section
set_option linter.unusedVariables false

theorem dotV_confZ {M : Mask} (hok : okM M = true) {y : List Int} {q : Nat} (hq : q < M.length) : dotV (confZ M (colsM M) q) y = dotY (colsM M) (rowv (RE M (colsM M)) q) (vec y) M.length := by
  have hl := (confZ_len hok hq).1
  unfold dotV dotY
  rw [hl]
  refine sm_congr fun i _ => ?_
  unfold confZ
  rw [vec_drop]; rfl
theorem conf_none_iff {M : Mask} (hok : okM M = true) {y : List Int} : conflictF M y = none ↔ ¬ confF M (colsM M) y := by
  unfold conflictF confF
  rw [Option.map_eq_none_iff, List.find?_eq_none]
  constructor
  · rintro h ⟨q, h1, h2, h3⟩
    have := h q (by rw [List.mem_range'_1]; omega)
    rw [dotV_confZ hok h2] at this
    simp at this
    exact h3 this
  · intro h q hq
    rw [List.mem_range'_1] at hq
    have h2 : q < M.length := by omega
    rw [dotV_confZ hok h2]
    simp only [decide_eq_true_eq]
    exact fun h3 => h ⟨q, hq.1, h2, h3⟩

theorem foldl_set_len {α : Type} (f : Nat → α) (g : Nat → Nat) (l : List α) : ∀ (K : Nat), ((List.range K).foldl (fun out i => out.set (g i) (f i)) l).length = l.length
  | 0 => by simp
  | K + 1 => by rw [List.range_succ, List.foldl_append]; simp [foldl_set_len f g l K]
theorem foldl_set_at {α : Type} (f : Nat → α) (g : Nat → Nat) (l : List α) : ∀ (K i : Nat), i < K → g i < l.length → (∀ a b, a < b → b < K → g a ≠ g b) → ((List.range K).foldl (fun out i => out.set (g i) (f i)) l)[g i]? = some (f i)
  | 0, i, h, _, _ => by omega
  | K + 1, i, h, hl, hd => by
    rw [List.range_succ, List.foldl_append]
    simp only [List.foldl_cons, List.foldl_nil]
    by_cases e : i = K
    · subst e
      rw [List.getElem?_set_self (by rw [foldl_set_len]; exact hl)]
    · rw [List.getElem?_set_ne (fun e2 => hd i K (by omega) (by omega) e2.symm)]
      exact foldl_set_at f g l K i (by omega) hl (fun a b h1 h2 => hd a b h1 (by omega))

theorem solved_conf {M : Mask} {y : List Int} (hok : okM M = true) (hy : y.length = M.length) : (solvedR (withY M y) (colsM M)).2.2 = (conflictF M y).isNone := by
  obtain ⟨hM, _⟩ := okM_ok hok
  have h1 := conf_none_iff hok (y := y)
  have h2 := hM.conf_iff hy
  unfold solvedR
  simp only []
  by_cases h : colsM M ∈ (rRed (withY M y) (colsM M + 1)).piv
  · rw [if_pos h]
    have : conflictF M y ≠ none := fun e => h1.1 e (h2.2 h)
    cases e : conflictF M y with
    | none => exact absurd e this
    | some z => rfl
  · rw [if_neg h, h1.2 (fun e => h (h2.1 e))]; rfl

end

section
open Go.RowKit
set_option linter.unusedVariables false

theorem allI_ok (n : Nat) : SetOk n (allI n) := by
  refine ⟨?_, fun j hj => ?_⟩
  · unfold allI
    rw [List.pairwise_map]
    exact List.pairwise_lt_range.imp fun h => by omega
  · exact allI_mem hj

theorem r3every_c (w : World) (a : Option Addr) (N cap : Nat) (M : Mask) (hN : M.length = N) (H : RowsAt w a M) (hok : okM M = true) :
    Calls Tryz.prog 27 #[.slice a N cap] w fun e w' => ∃ v, e = .returned v ∧ w'.ownsRow w.heap.size 3 1 v (colsM M) ((allI (colsM M)).map (Value.int .i64)) ∧ Below w.heap.size w w' := by
  obtain ⟨hM, h1, h6, hc1, hc10⟩ := okM_ok hok
  obtain ⟨b, off, ra, rc, rfl, hb, hc⟩ := rows_head H (by omega)
  obtain ⟨n, hn⟩ : ∃ n, n = colsM M := ⟨_, rfl⟩
  rw [← hn] at hc hc10 ⊢
  have i0 : (0 : Int) < (N : Int) := by omega
  clear hM hN H hok h1 h6 hn
  go_enter Tryz.func27, Tryz.ntmps27
  go_wp2
  clear hc
  go_loopw [3, 9] (fun v i wr => ∃ k : Nat, k ≤ n ∧ i = .int .i64 k ∧ wr.ownsRow w.heap.size 3 1 v k ((allI k).map (Value.int .i64)) ∧ Below w.heap.size w wr) (fun _ i _ => n - (intOf i).toNat)
  case atStart => exact ⟨0, Nat.zero_le _, rfl, World.ownsRow_nil _ _ _ _, Below.refl _ _⟩
  case round =>
    obtain ⟨k, hk, rfl, hown, hbk⟩ := hrel
    by_cases hlt : k < n
    · obtain ⟨va, vc, rfl⟩ := ownsRow_slice hown
      have HO := hid hown
      have M1 := hid (show k + 1 ≤ maxLen by unfold maxLen; omega)
      have M2 := hid (show (k + 1) * 8 ≤ 140737488355328 by omega)
      have M3 := hid (Nat.le_trans hbk.size (le_alloc wr (.cells #[.int .i64 (k : Int)] 3)))
      clear hown
      go_wp2_with (at_builtin; refine wpList_app _ rfl (.tmp 12) (.tmp 14) 24 rfl w.heap.size 3 (.int .i64 0) 1 8 Tryz.underlying24 li_int rfl Nat.one_pos (.slice va k vc) k _ rfl (HO.out.alloc _) (some ⟨wr.heap.size, 0, none⟩) 1 1 [.int .i64 (k : Int)] rfl rfl no_none (one_news wr _ _) (li_one _) M1.out M2.out M3.out ?_; refine Stop.of ?_)
      refine Stop.go ?_
      intro a3 c3 w3 own3 g3
      have hB3 : Below w.heap.size w w3 := (hbk.alloc hbk.size _).grown g3 M3.out (fun k hk => (HO.out.lt k hk).1)
      go_wp2
      refine ⟨⟨k + 1, by omega, by go_num, ?_, hB3⟩, by simp [intOf]; omega⟩
      rw [allI_succ]
      simpa using own3
    · obtain rfl : k = n := by omega
      go_wp2
      go_ret
      exact ⟨_, rfl, hown, hbk⟩

def rdE (M : Mask) (y : List Int) : Int := if okM M = true then readE M y else 1
theorem rd_check (M : Mask) (y : List Int) : rdE M y = checkE M y [] := by
  unfold rdE checkE readE pixE namedE
  cases okM M <;> simp [ascB]
theorem rd_ok {M : Mask} {y : List Int} (h : rdE M y = 0) : okM M = true ∧ y.length = M.length ∧ milB y = true := by
  rw [rd_check] at h
  obtain ⟨h1, h2, h3, _⟩ := check_ok h
  exact ⟨h1, h2, h3⟩

theorem r3Read_c (w : World) (a a2 : Option Addr) (n cap n2 cap2 : Nat) (M : Mask) (y : List Int) (hn : M.length = n) (hn2 : y.length = n2) (hm : n ≤ maxLen) (hm2 : n2 ≤ maxLen) (H : RowsAt w a M) (H2 : IntsAt w a2 y) :
    Calls Tryz.prog 25 #[.slice a n cap, .slice a2 n2 cap2] w fun e w' => e = .returned (.int .i64 (rdE M y)) ∧ w = w' := by
  have HV := hid (r2Valid_c w a n cap M hn hm H)
  have HR := hid (r3reading_c w a2 n cap n2 cap2 M y a hn hn2 hm2 H2)
  unfold rdE
  cases hok : okM M
  · rw [hok] at HV
    simp only [Bool.false_eq_true, if_false]
    clear hn hn2 H H2 hok HR
    go_enter Tryz.func25, Tryz.ntmps25
    go_wp2_with (go_at_call 57; refine HV.out.mono ?_; rintro e w1 ⟨rfl, rfl⟩)
    go_ret
    exact ⟨rfl, rfl⟩
  · rw [hok] at HV
    simp only [if_true]
    clear hn hn2 H H2 hok
    go_enter Tryz.func25, Tryz.ntmps25
    go_wp2_with (go_at_call 57; refine HV.out.mono ?_; rintro e w1 ⟨rfl, rfl⟩; refine Stop.of ?_)
    refine Stop.go ?_
    go_wp2_with (go_at_call 58; refine HR.out.mono ?_; rintro e w1 ⟨rfl, rfl⟩; refine Stop.of ?_)
    refine Stop.go ?_
    go_wp2
    go_ret
    exact ⟨rfl, rfl⟩

def anyV (M : Mask) (y : List Int) : List Rt × Int :=
  if rdE M y = 0 then (if (solvedR (withY M y) (colsM M)).2.2 = true then ((solvedR (withY M y) (colsM M)).1, 0) else ([], 10)) else ([], rdE M y)

set_option maxRecDepth 100000 in
set_option maxHeartbeats 4000000 in
theorem r3Any_c (w : World) (a a2 : Option Addr) (n cap n2 cap2 : Nat) (M : Mask) (y : List Int) (hn : M.length = n) (hn2 : y.length = n2) (hm : n ≤ maxLen) (hm2 : n2 ≤ maxLen) (H : RowsAt w a M) (H2 : IntsAt w a2 y) :
    Calls Tryz.prog 10 #[.slice a n cap, .slice a2 n2 cap2] w fun e w' => ∃ v base, e = .returned (.tuple #[v, .int .i64 (anyV M y).2]) ∧ w.heap.size ≤ base ∧ RatsO w' base v (anyV M y).1 ∧ Below w.heap.size w w' := by
  have HR := hid (r3Read_c w a a2 n cap n2 cap2 M y hn hn2 hm hm2 H H2)
  by_cases h0 : rdE M y = 0
  · obtain ⟨hok, hyl, hmil⟩ := rd_ok h0
    obtain ⟨hM, h1, h6, hc1, hc10⟩ := okM_ok hok
    have hav : anyV M y = (if (solvedR (withY M y) (colsM M)).2.2 = true then ((solvedR (withY M y) (colsM M)).1, 0) else ([], 10)) := by unfold anyV; rw [if_pos h0]
    rw [h0] at HR
    have HE := hid (fun (X : World) (hX : Below w.heap.size w X) => r3every_c X a n cap M hn (H.below hX) hok)
    obtain rfl : n2 = n := by omega
    have HSO := hid (fun (X : World) (hX : Below w.heap.size w X) (ea : Option Addr) (ec : Nat) (hI : IntsAt X ea (allI (colsM M))) => r3solved_c X a ea a2 n2 cap (colsM M) ec cap2 M (allI (colsM M)) y hn (allI_len _) hn2 (H.below hX) hI (H2.below hX) hok hmil (allI_ok _))
    rw [cols_all hM.wid] at HSO
    obtain ⟨⟨S1, S2, S3⟩, hS⟩ : ∃ S, S = solvedR (withY M y) (colsM M) := ⟨_, rfl⟩
    rw [← hS] at HSO hav
    obtain ⟨⟨A1, A2⟩, hA⟩ : ∃ A, A = anyV M y := ⟨_, rfl⟩
    rw [← hA] at hav ⊢
    obtain ⟨W, hW⟩ : ∃ W, W = colsM M := ⟨_, rfl⟩
    rw [← hW] at HSO HE
    simp only [] at HSO hav ⊢
    have HAV := hid hav
    have HAL := hid (allI_len W)
    clear hn hn2 H H2 hok hyl hmil hM h1 h6 hc1 hc10 hav hS hA hW h0
    go_enter Tryz.func10, Tryz.ntmps10
    go_wp2_with (go_at_call 25; refine HR.out.mono ?_; rintro e w1 ⟨rfl, rfl⟩; refine Stop.of ?_)
    refine Stop.go ?_
    have HB1 := hid (Below.refl w.heap.size w)
    go_wp2_with (go_at_call 27; refine (HE.out _ HB1.out).mono ?_; rintro e w2 ⟨v2, rfl, ho2, hb2⟩; refine Stop.of ?_)
    refine Stop.go ?_
    obtain ⟨ea, ec, rfl, hi2, _⟩ := ints_of_own ho2 HAL.out
    have HB2 := hid (chain HB1.out hb2)
    have HS2 := hid (HSO.out _ HB2.out ea ec hi2)
    clear hb2 ho2 hi2 HSO HE HR
    go_wp2_with (go_at_call 26; refine HS2.out.mono ?_; rintro e w3 ⟨v, base, rfl, hbs, hO, hb3⟩; refine Stop.of ?_)
    refine Stop.go ?_
    have hb := chain HB2.out hb3
    have hbs' : w.heap.size ≤ base := Nat.le_trans HB2.out.size hbs
    obtain ⟨va, vc, rfl⟩ := ownsRow_slice hO
    have HO := hid hO
    have HBF := hid hb
    clear hb3 hbs hO hb
    cases S3
    · obtain ⟨rfl, rfl⟩ := Prod.mk.inj (HAV.out.trans (if_neg (by decide)))
      go_wp2
      go_ret2
      first | exact ⟨.slice none 0 0, w.heap.size, rfl, Nat.le_refl _, RatsO.nil _ _, HBF.out⟩ | exact ⟨.slice none 0 0, rfl, w.heap.size, Nat.le_refl _, RatsO.nil _ _, HBF.out⟩
    · obtain ⟨rfl, rfl⟩ := Prod.mk.inj (HAV.out.trans (if_pos rfl))
      go_wp2
      go_ret2
      first | exact ⟨_, base, rfl, hbs', HO.out, HBF.out⟩ | exact ⟨_, rfl, base, hbs', HO.out, HBF.out⟩
  · have hav : anyV M y = ([], rdE M y) := by unfold anyV; rw [if_neg h0]
    rw [hav]
    obtain ⟨E, hE⟩ : ∃ E, E = rdE M y := ⟨_, rfl⟩
    rw [← hE] at HR h0 ⊢
    have hpb : (E != 0) = true := by simpa using h0
    clear hn hn2 H H2 hav hE
    go_enter Tryz.func10, Tryz.ntmps10
    go_wp2_with (go_at_call 25; refine HR.out.mono ?_; rintro e w1 ⟨rfl, rfl⟩)
    go_ret2
    exact ⟨.slice none 0 0, w.heap.size, rfl, Nat.le_refl _, RatsO.nil _ _, Below.refl w.heap.size w⟩
end

section
open Go.RowKit
set_option linter.unusedVariables false

end

section
open Go.RowKit
set_option linter.unusedVariables false

end
end Go.Proofs.YtfipebkhomppmaaGreat
