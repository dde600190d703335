/- Walks and plain laws for BitTextsRow, part 4. -/
import Derived.Deep.AppendLies
import Derived.ChangeOld
import Derived.Deep.Slices
import Derived.Lib.SmallJoins
import Derived.Test.YtofcpmfbeobgiaaDoorPkBitTextsRow3
namespace Go.Proofs.YtofcpmfbeobgiaaDoor
open Go.RowKit Go.Shelf
set_option linter.unusedVariables false

def linesB (l : List UInt8) : List ByteArray := (linesF l).map (fun x => ⟨x.toArray⟩)
def LineV (lo : Nat) (S : Nat → Prop) (x : ByteArray) (v : Value) (W : World) : Prop := v = .string x
def boxLen (W : World) (b : Nat) : Nat := match W.cell? ⟨b, 0, none⟩ with | some v => strV v | none => 0

set_option maxRecDepth 100000 in
set_option maxHeartbeats 4000000 in
theorem lines_iter (w0 : World) (tb : Nat) (s : ByteArray) (hs : s.size ≤ 65536) (htb : tb < w0.heap.size) (hc : w0.heap[tb]? = some (.cells #[.string s] 9 (0, 0))) (fp : Nat → Prop) (hfp : fp tb) :
    IterT Tryd.prog 33 #[.pointer (some ⟨tb, 0, none⟩)] LineV (linesB s.data.toList) fp (fun q => q = tb) w0 := by
  intro l J Jx W hb hJx hJ hY h0
  have hcW : W.heap[tb]? = some (.cells #[.string s] 9 (0, 0)) := (hb.block tb htb).trans hc
  have htW : tb < W.heap.size := Nat.lt_of_lt_of_le htb hb.size
  have HJ := hid hJ
  have HY := hid hY
  have H0 := hid h0
  have HC := hid hcW
  clear hJ hJx hY h0 hb hc hcW
  refine callsIn_of_wp Tryd.func33 rfl trivial ?_ rfl
  simp only [Tryd.ntmps33, List.size_toArray, List.length_cons, List.length_nil, Nat.reduceAdd, Nat.reduceSub, Array.replicate_succ, Array.replicate_zero, List.push_toArray, List.append_toArray, List.nil_append, List.cons_append]
  gi_wp2
  gi_loopw [] (fun wr => ∃ (R : ByteArray) (pre : List ByteArray), pre ++ linesB R.data.toList = linesB s.data.toList ∧ R.size ≤ s.size ∧ wr.heap[tb]? = some (.cells #[.string R] 9 (0, 0)) ∧ J (fun _ => False) pre wr ∧ W.heap.size ≤ wr.heap.size) (fun wr => boxLen wr tb)
  case atStart => exact ⟨s, [], rfl, Nat.le_refl _, HC.out, H0.out, Nat.le_refl _⟩
  case round =>
    obtain ⟨R, pre, hpre, hRs, hcr, hj, hsz⟩ := hrel
    have hcell : wr.cell? ⟨tb, 0, none⟩ = some (.string R) := by simp [World.cell?, hcr]
    by_cases hR0 : R.size = 0
    · have hRe := bytes_nil hR0
      subst hRe
      have hpe : pre = linesB s.data.toList := by rw [← hpre]; simp [linesB, linesF_nil]
      gi_wp2
      refine bodyPost_end (results_none rfl _ _ _) rfl ?_
      exact ⟨⟨_, rfl⟩, .inl ⟨fun _ => False, fun _ h => h.elim, by rw [← hpe]; exact hj⟩⟩
    · have hlt : (0 : Int) < (R.size : Int) := by omega
      have hRn : R.data.toList ≠ [] := by intro h; apply hR0; rw [Lib.size_eq, h]; rfl
      have hbl : boxLen wr tb = R.size := by simp [boxLen, hcell, strV]
      have hfz : wr.frozen? ⟨tb, 0, none⟩ = false := by simp [World.frozen?, hcr]
      have HIB := hid (fun W => Tryd.strings_IndexByte R 10 W)
      have hst : linesB R.data.toList = ⟨(lineT R.data.toList).toArray⟩ :: linesB (Lib.cut R.data.toList [10]).2.1 := by unfold linesB; rw [linesF_step hRn]; rfl
      rcases idx_split 10 R.data.toList with ⟨i1, i2⟩ | ⟨a, b, i1, i2, i3⟩
      · have hix : Lib.indexByte R.data.toList (10 : Int).toNat.toUInt8 = -1 := i1
        obtain ⟨l1, l2⟩ := line_miss i2
        rw [l1, l2] at hst
        have hRR : (⟨R.data.toList.toArray⟩ : ByteArray) = R := rfl
        rw [hRR] at hst
        rw [hix] at HIB
        obtain ⟨W1, hW1⟩ : ∃ W1, W1 = wr.setCell ⟨tb, 0, none⟩ (.string ⟨#[]⟩) := ⟨_, rfl⟩
        have hk1 : Keep (fun k => k ≠ tb) wr W1 := by rw [hW1]; exact Keep.set wr tb 0 _
        have hc1 : W1.heap[tb]? = some (.cells #[.string ⟨#[]⟩] 9 (0, 0)) := by rw [hW1]; have := cells_set hcr 0 (.string ⟨#[]⟩); simpa using this
        have hj1 := HJ.out _ _ _ _ W1 hj (fun _ h => h) (fun _ h => .inl h) (hk1.mono fun k hk => hk.2)
        have hyk := HY.out (fun _ => False) pre R (.string R) W1 (by rw [← hpre, hst]; exact ⟨linesB [], by simp⟩) (fun _ h => h.elim) (Nat.le_trans hsz hk1.size) hj1 rfl
        have hpre2 : (pre ++ [R]) ++ linesB [] = linesB s.data.toList := by rw [← hpre, hst]; simp
        have HP := hid hpre2
        have HW1 := hid hW1
        have HS1 := hid (Nat.le_trans hsz hk1.size)
        have HC1 := hid hc1
        have HBL := hid hbl
        clear hix hst hRR i1 i2 l1 l2 hpre hj hj1 hk1 hc1 hW1 hcr hsz hbl hpre2
        gi_wp2_with (refine ⟨trivial, rfl, ?_⟩; gi_at_call 34; refine (callsIn_wide.2 (HIB.out _)).mono ?_; rintro e w1 ⟨rfl, rfl⟩; refine Stop.of ?_)
        refine Stop.go ?_
        obtain ⟨fn, tmps, assign, body, hy, hR⟩ := hyk
        rw [HW1.out] at hy
        gi_wp2
        refine ⟨rfl, ?_⟩
        rw [← HW1.out]
        refine hR.mono ?_
        clear hR hy
        rintro e W3 ⟨⟨hs3, hk3⟩, ⟨rfl, hJ3⟩ | ⟨rfl, hJx⟩⟩
        · have hc3 := (hk3 tb (Or.inl hfp)).trans HC1.out
          gi_wp2
          refine ⟨⟨⟨#[]⟩, pre ++ [R], HP.out, Nat.zero_le _, hc3, hJ3, Nat.le_trans HS1.out hs3⟩, ?_⟩
          rw [HBL.out]
          have : boxLen W3 tb = 0 := by simp [boxLen, World.cell?, hc3, strV]; rfl
          omega
        · gi_wp2
          refine bodyPost_ret (results_none rfl _ _ _) rfl ?_
          exact ⟨⟨_, rfl⟩, .inr ⟨fun _ => False, pre ++ [R], by rw [← HP.out]; exact List.prefix_append _ _, hJx⟩⟩
      · have hix : Lib.indexByte R.data.toList (10 : Int).toNat.toUInt8 = (a.length : Int) := i3
        rw [i1] at hst
        obtain ⟨l1, l2⟩ := line_hit (b := b) i2
        rw [l1, l2] at hst
        have hlen : R.size = a.length + 1 + b.length := by rw [Lib.size_eq, i1, List.length_append, List.length_cons]; omega
        obtain ⟨m, hm⟩ : ∃ m, m = a.length := ⟨_, rfl⟩
        rw [hix, ← hm] at HIB
        have hm0 : (0 : Int) ≤ (m : Int) := by omega
        have hm1 : m + 1 ≤ R.size := by omega
        have p0 : (0 : Int) ≤ (m : Int) + 1 := by omega
        have p1 : (m : Int) + 1 ≤ (R.size : Int) := by omega
        have hwr : IntKind.i64.wrap ((m : Int) + 1) = (m : Int) + 1 := IntWalk.i64_in _ (by omega)
        have HM := hid hm
        have HL := hid hlen
        have HST := hid hst
        have HI1 := hid i1
        have HBL := hid hbl
        have HCR := hid hcr
        have HJ0 := hid hj
        clear hm hlen i1 i2 i3 hix l1 l2 hst hbl hj
        gi_wp2_with (refine ⟨trivial, rfl, ?_⟩; gi_at_call 34; refine (callsIn_wide.2 (HIB.out _)).mono ?_; rintro e w1 ⟨rfl, hw1⟩; have HW1 := hid hw1; clear hw1; refine Stop.of ?_)
        refine Stop.go ?_
        gi_wp2
        refine wide_regionK (fun j X => decide (j < 9) = true → X.cell? ⟨tb, 0, none⟩ = some (.string R)) 0 (by kernel_rfl) ?_
        have hd : w1.drew.heap[tb]? = some (.cells #[.string R] 9 (0, 0)) := by rw [HW1.out]; exact HCR.out
        have HD := hid hd
        obtain ⟨wd, hwd⟩ : ∃ wd, wd = w1.drew := ⟨_, rfl⟩
        rw [← hwd]
        rw [← hwd] at hd
        have HWD := hid hwd
        clear hwd HD
        have hcd : wd.cell? ⟨tb, 0, none⟩ = some (.string R) := by simp [World.cell?, hd]
        have HCD := hid hcd
        clear hcd
        refine AnyT.takeD (i := 0) (v := .string R) rfl rfl (by kernel_rfl) (by kernel_rfl) (by kernel_rfl) (by first | exact (fun _ _ _ h => h) | exact (fun _ _ _ h => absurd h.1 (by simp))) (by kernel_rfl) (by rfl) (by rintro w' q0; go_simp) (HCD.out) ?_; go_frame
        refine AnyT.takeD (i := 1) (v := .int .i64 m) rfl rfl (by kernel_rfl) (by kernel_rfl) (by kernel_rfl) (by first | exact (fun _ _ _ h => h) | exact (fun _ _ _ h => absurd h.1 (by simp))) (by kernel_rfl) (by rfl) (by rintro w' q0; go_simp) (HCD.out) ?_; go_frame
        refine AnyT.takeD (i := 2) (v := .int .i64 ((m : Int) + 1)) rfl rfl (by kernel_rfl) (by kernel_rfl) (by kernel_rfl) (by first | exact (fun _ _ _ h => h) | exact (fun _ _ _ h => absurd h.1 (by simp))) (by kernel_rfl) (by rfl) (by rintro w' q0; go_simp) (HCD.out) ?_; go_frame
        refine AnyT.takeD (i := 3) (v := .string (R.extract 0 (m + 1))) rfl rfl (by kernel_rfl) (by kernel_rfl) (by kernel_rfl) (by first | exact (fun _ _ _ h => h) | exact (fun _ _ _ h => absurd h.1 (by simp))) (by kernel_rfl) (by rfl) (by rintro w' q0; go_simp) (HCD.out) ?_; go_frame
        refine AnyT.takeD (i := 4) (v := .string R) rfl rfl (by kernel_rfl) (by kernel_rfl) (by kernel_rfl) (by first | exact (fun _ _ _ h => h) | exact (fun _ _ _ h => absurd h.1 (by simp))) (by kernel_rfl) (by rfl) (by rintro w' q0; go_simp) (HCD.out) ?_; go_frame
        refine AnyT.takeD (i := 5) (v := .int .i64 m) rfl rfl (by kernel_rfl) (by kernel_rfl) (by kernel_rfl) (by first | exact (fun _ _ _ h => h) | exact (fun _ _ _ h => absurd h.1 (by simp))) (by kernel_rfl) (by rfl) (by rintro w' q0; go_simp) (HCD.out) ?_; go_frame
        refine AnyT.takeD (i := 6) (v := .int .i64 ((m : Int) + 1)) rfl rfl (by kernel_rfl) (by kernel_rfl) (by kernel_rfl) (by first | exact (fun _ _ _ h => h) | exact (fun _ _ _ h => absurd h.1 (by simp))) (by kernel_rfl) (by rfl) (by rintro w' q0; go_simp) (HCD.out) ?_; go_frame
        refine AnyT.takeD (i := 7) (v := .string (R.extract (m + 1) R.size)) rfl rfl (by kernel_rfl) (by kernel_rfl) (by kernel_rfl) (by first | exact (fun _ _ _ h => h) | exact (fun _ _ _ h => absurd h.1 (by simp))) (by kernel_rfl) (by rfl) (by rintro w' q0; go_simp) (HCD.out) ?_; go_frame
        refine AnyT.next (i := 8) (by kernel_rfl) rfl (wpOp_of_list rfl ?_)
        go_wp2
        refine ⟨fun _ => HCD.out, ?_⟩
        refine AnyT.next (i := 9) (by kernel_rfl) rfl (wpOp_of_list rfl ?_)
        have hcd := HCD.out
        have hfd : wd.frozen? ⟨tb, 0, none⟩ = false := by simp [World.frozen?, hd]
        obtain ⟨Z1, hZ1⟩ : ∃ Z, Z = R.extract 0 (m + 1) := ⟨_, rfl⟩
        obtain ⟨Z2, hZ2⟩ : ∃ Z, Z = R.extract (m + 1) R.size := ⟨_, rfl⟩
        have z1 : Z1.data.toList = a ++ [10] := by
          rw [hZ1, HM.out]
          simp [ByteArray.data_extract, HI1.out, List.take_append]
          exact List.take_of_length_le (by omega)
        have z2 : Z2.data.toList = b := by
          rw [hZ2, HM.out]
          have := HL.out
          simp [ByteArray.data_extract, HI1.out, List.drop_append, this]
          rw [List.drop_eq_nil_of_le (by omega), List.nil_append, List.take_length]
        obtain ⟨W2, hW2⟩ : ∃ W2, W2 = wd.setCell ⟨tb, 0, none⟩ (.string Z2) := ⟨_, rfl⟩
        have hkd : Keep (fun _ => True) wr wd := by rw [HWD.out, HW1.out]; exact Keep.of_below (Below.refl _ _).drew
        have hk2 : Keep (fun k => k ≠ tb) wd W2 := by rw [hW2]; exact Keep.set wd tb 0 _
        have hkk : Keep (fun k => k ≠ tb) wr W2 := (hkd.mono fun _ _ => trivial).trans hk2
        have hc2 : W2.heap[tb]? = some (.cells #[.string Z2] 9 (0, 0)) := by rw [hW2]; have := cells_set hd 0 (.string Z2); simpa using this
        have hj2 := HJ.out _ _ _ _ W2 HJ0.out (fun _ h => h) (fun _ h => .inl h) (hkk.mono fun k hk => hk.2)
        have e1 : (⟨(a ++ [10]).toArray⟩ : ByteArray) = Z1 := by rw [← z1]
        have hst2 : linesB R.data.toList = Z1 :: linesB Z2.data.toList := by rw [z2, ← e1, HI1.out]; exact HST.out
        have hyk := HY.out (fun _ => False) pre Z1 (.string Z1) W2 (by rw [← hpre, hst2]; exact ⟨linesB Z2.data.toList, by simp⟩) (fun _ h => h.elim) (Nat.le_trans hsz hkk.size) hj2 rfl
        have HP := hid (show (pre ++ [Z1]) ++ linesB Z2.data.toList = linesB s.data.toList by rw [← hpre, hst2]; simp)
        have HZ := hid (show Z2.size < R.size by have h1 := HL.out; rw [Lib.size_eq Z2, z2]; omega)
        have HS2 := hid (Nat.le_trans hsz hkk.size)
        have HC2 := hid hc2
        have HWW2 := hid hW2
        rw [← hZ1, ← hZ2]
        clear z1 z2 hW2 hkd hk2 hkk hc2 hj2 e1 hst2 hZ1 hZ2 HI1 HST hd
        go_wp2
        refine ⟨fun h => absurd h (by decide), ?_⟩
        refine AnyT.done (by kernel_rfl) ?_ _
        obtain ⟨fn, tmps, assign, body, hy, hR⟩ := hyk
        rw [HWW2.out] at hy
        gi_wp2
        refine ⟨rfl, ?_⟩
        rw [← HWW2.out]
        refine hR.mono ?_
        clear hR hy
        rintro e W3 ⟨⟨hs3, hk3⟩, ⟨rfl, hJ3⟩ | ⟨rfl, hJx⟩⟩
        · have hc3 := (hk3 tb (Or.inl hfp)).trans HC2.out
          have hz2 : Z2.size ≤ s.size := by have := HZ.out; omega
          gi_wp2
          refine ⟨⟨Z2, pre ++ [Z1], HP.out, hz2, hc3, hJ3, Nat.le_trans HS2.out hs3⟩, ?_⟩
          rw [HBL.out]
          have : boxLen W3 tb = Z2.size := by simp [boxLen, World.cell?, hc3, strV]
          have := HZ.out
          omega
        · gi_wp2
          refine bodyPost_ret (results_none rfl _ _ _) rfl ?_
          exact ⟨⟨_, rfl⟩, .inr ⟨fun _ => False, pre ++ [Z1], by rw [← HP.out]; exact List.prefix_append _ _, hJx⟩⟩
end Go.Proofs.YtofcpmfbeobgiaaDoor

namespace Go.Proofs.YtofcpmfbeobgiaaDoor
open Go Go.Lib
set_option linter.unusedVariables false

theorem step_line (acc : List Cel) {s : List UInt8} (hs : s ≠ []) : rstepB acc s = (rstepB acc (lineT s)).map (fun q => (q.1, (cut s [10]).2.1)) := by
  apply Option.ext
  rintro ⟨x, r⟩
  rw [rstepB_iff, Option.map_eq_some_iff]
  constructor
  · rintro ⟨h, rfl⟩
    refine ⟨(x, []), (rstepB_iff _ _ _ _).2 ⟨h, ?_⟩, ?_⟩
    · unfold lineT; rw [cut_lineC]; simp [lineCL]
    · rw [cut_lineC]
  · rintro ⟨⟨y, q⟩, h1, h2⟩
    obtain ⟨h3, h4⟩ := (rstepB_iff _ _ _ _).1 h1
    simp only [Prod.mk.injEq] at h2
    obtain ⟨rfl, rfl⟩ := h2
    refine ⟨h3, ?_⟩
    rcases idx_split 10 s with ⟨_, n2⟩ | ⟨a, b, rfl, n2, _⟩
    · rw [(line_miss n2).1] at h4
      exact absurd (by rw [h4]; simp [lineCL]) n2
    · obtain ⟨l1, l2⟩ := line_hit (b := b) n2
      rw [l1] at h4
      rw [l2]
      have e1 := cut_one a [] 10 n2
      have e2 := cut_lineC y q
      rw [← h4, e1] at e2
      simp only [Prod.mk.injEq] at e2
      rw [e2.1]; simp [lineCL]
def readL : List Cel → List (List UInt8) → Option (List Cel)
  | acc, [] => some acc
  | acc, t :: ts => match rstepB acc t with | some (x, _) => readL (acc ++ [x]) ts | none => none
theorem readL_snoc : ∀ (ts : List (List UInt8)) (acc acc' : List Cel) (t : List UInt8) (x : Cel) (r : List UInt8), readL acc ts = some acc' → rstepB acc' t = some (x, r) → readL acc (ts ++ [t]) = some (acc' ++ [x])
  | [], acc, acc', t, x, r, h, h2 => by cases h; simp [readL, h2]
  | u :: ts, acc, acc', t, x, r, h, h2 => by
    rw [List.cons_append, readL]
    rw [readL] at h
    cases hp : rstepB acc u with
    | none => rw [hp] at h; cases h
    | some q => rw [hp] at h; obtain ⟨y, z⟩ := q; exact readL_snoc ts _ _ t x r h h2
theorem readL_len : ∀ (ts : List (List UInt8)) (acc acc' : List Cel), readL acc ts = some acc' → acc'.length = acc.length + ts.length
  | [], acc, acc', h => by cases h; simp
  | u :: ts, acc, acc', h => by
    rw [readL] at h
    cases hp : rstepB acc u with
    | none => rw [hp] at h; cases h
    | some q =>
      rw [hp] at h; obtain ⟨y, z⟩ := q
      have := readL_len ts _ _ h
      rw [this]; simp; omega
theorem parse_ok : ∀ (f : Nat) (acc acc' : List Cel) (s : List UInt8), s.length ≤ f → readL acc (linesF s) = some acc' → parseB f acc s = (acc', 0, 0)
  | f, acc, acc', [], _, h => by rw [linesF_nil] at h; cases h; exact parseB_end f acc
  | 0, acc, acc', c :: s, h, _ => by simp at h
  | f + 1, acc, acc', c :: s, h, hr => by
    have hne : c :: s ≠ [] := by simp
    rw [linesF_step hne, readL] at hr
    cases hp : rstepB acc (lineT (c :: s)) with
    | none => rw [hp] at hr; cases hr
    | some q =>
      rw [hp] at hr
      obtain ⟨x, z⟩ := q
      have h1 : rstepB acc (c :: s) = some (x, (cut (c :: s) [10]).2.1) := by rw [step_line acc hne, hp]; rfl
      have := rest_less hne
      rw [parseB_step hne h1]
      exact parse_ok f _ _ _ (by omega) hr
theorem parse_bad : ∀ (pre : List (List UInt8)) (f : Nat) (acc acc' : List Cel) (s t : List UInt8) (rest : List (List UInt8)), s.length ≤ f → linesF s = pre ++ t :: rest → readL acc pre = some acc' → rstepB acc' t = none → parseB f acc s = ([], acc'.length, 2)
  | pre, f, acc, acc', [], t, rest, _, h, _, _ => by rw [linesF_nil] at h; simp at h
  | pre, 0, acc, acc', c :: s, t, rest, h, _, _, _ => by simp at h
  | [], f + 1, acc, acc', c :: s, t, rest, h, hl, hr, ht => by
    have hne : c :: s ≠ [] := by simp
    cases hr
    rw [linesF_step hne] at hl
    have : lineT (c :: s) = t := by simpa using (List.cons.inj hl).1
    exact parseB_bad hne (by rw [step_line acc hne, this, ht]; rfl)
  | u :: pre, f + 1, acc, acc', c :: s, t, rest, h, hl, hr, ht => by
    have hne : c :: s ≠ [] := by simp
    rw [linesF_step hne] at hl
    obtain ⟨e1, e2⟩ := List.cons.inj hl
    rw [readL] at hr
    cases hp : rstepB acc u with
    | none => rw [hp] at hr; cases hr
    | some q =>
      rw [hp] at hr
      obtain ⟨x, z⟩ := q
      have h1 : rstepB acc (c :: s) = some (x, (cut (c :: s) [10]).2.1) := by rw [step_line acc hne, e1, hp]; rfl
      have := rest_less hne
      rw [parseB_step hne h1]
      exact parse_bad pre f _ _ _ t rest (by omega) e2 hr ht
end Go.Proofs.YtofcpmfbeobgiaaDoor

namespace Go.Proofs.YtofcpmfbeobgiaaDoor
open Go.RowKit Go.Shelf
set_option linter.unusedVariables false

def ErrV (s : List UInt8) (ev : Value) : Prop := (ev = .nilIface ∧ ∃ v, Lib.atoiAll s = .ok v) ∨ ((∃ t p, ev = .iface t p) ∧ ∀ v, Lib.atoiAll s ≠ .ok v)
theorem atoiE_c (w : World) (hX : TabX w) (s : ByteArray) (hs : s.size ≤ 281474976710656) :
    Calls Tryd.prog 17 #[.string s] w fun e w' => ∃ ev, e = .returned (.tuple #[.int .i64 (atV s.data.toList), ev]) ∧ Below w.heap.size w w' ∧ ErrV s.data.toList ev := by
  obtain ⟨_, _, ⟨e1, h3, h4⟩, e2, h5, h6⟩ := hX
  unfold atV ErrV
  rcases h : Lib.atoiAll s.data.toList with v | _ | _
  · refine (Tryd.strconv_Atoi_ok s (by omega) v h w).mono ?_
    rintro e w' ⟨rfl, hw⟩
    refine ⟨_, rfl, ?_, .inl ⟨rfl, v, rfl⟩⟩
    rcases hw with rfl | ⟨t, rfl⟩
    · exact Below.refl _ _
    · exact Lib.bytesWorld_below _ _ _
  · refine (Tryd.strconv_Atoi_syntax s hs h e1 w h3 h4).mono ?_
    rintro e w' ⟨N, rfl, _, _, hb⟩
    exact ⟨_, rfl, hb, .inr ⟨⟨_, _, rfl⟩, fun v hv => by cases hv⟩⟩
  · refine (Tryd.strconv_Atoi_range s hs h e2 w h5 h6).mono ?_
    rintro e w' ⟨N, rfl, _, _, hb⟩
    exact ⟨_, rfl, hb, .inr ⟨⟨_, _, rfl⟩, fun v hv => by cases hv⟩⟩
end Go.Proofs.YtofcpmfbeobgiaaDoor

namespace Go.Proofs.YtofcpmfbeobgiaaDoor
open Go Go.Lib
set_option linter.unusedVariables false

theorem trim_line (s : List UInt8) : trimSuffix (lineT s) [10] = (cut s [10]).1 := by
  rcases idx_split 10 s with ⟨_, n2⟩ | ⟨a, b, rfl, n2, _⟩
  · rw [(line_miss n2).1, cut_none n2]
    unfold trimSuffix
    have h : hasSuffix s [10] = false := by
      cases hf : hasSuffix s [10] with
      | false => rfl
      | true =>
        unfold hasSuffix at hf
        obtain ⟨u, hu⟩ := List.isSuffixOf_iff_suffix.1 hf
        exact absurd (by rw [← hu]; simp) n2
    rw [h]; rfl
  · rw [(line_hit n2).1, cut_one a b 10 n2]
    unfold trimSuffix
    have h : hasSuffix (a ++ [10]) [10] = true := by unfold hasSuffix; exact List.isSuffixOf_iff_suffix.2 ⟨a, rfl⟩
    rw [h]
    simp
end Go.Proofs.YtofcpmfbeobgiaaDoor

namespace Go.Proofs.YtofcpmfbeobgiaaDoor
open Go.RowKit Go.Shelf
set_option linter.unusedVariables false

theorem lines_c (w : World) (s : ByteArray) :
    Calls Tryd.prog 14 #[.string s] w fun e w' => e = .returned (.func (.func 33) #[] #[.pointer (some ⟨w.heap.size, 0, none⟩)]) ∧ w' = w.alloc (.cells #[.string s] 9) := by
  have hmf : ∀ (fn : Fn) (first cap : Array Value) (w : World), (Instr.makeFunc fn first cap).run Tryd.prog w = .ok (.func fn first cap) w := fun _ _ _ _ => rfl
  go_enter Tryd.func14, Tryd.ntmps14
  go_wp2
  go_ret
  exact ⟨rfl, rfl⟩
end Go.Proofs.YtofcpmfbeobgiaaDoor

namespace Go.Proofs.YtofcpmfbeobgiaaDoor
open Go.RowKit
set_option linter.unusedVariables false

def markL (hs : List Nat) : List Deferred := hs.map fun h => { target := .collected h, args := #[] }
theorem marks_leave {F : Fence} {n : Nat} {P : Program} {fn : Func} {tmps : Array Value} {R : Ending → World → Prop} : ∀ (hs : List Nat) (w : World), hs.Nodup → (∀ h ∈ hs, w.heap[h]? = some (.deferred (some []))) →
    (∀ w', Keep (fun k => k ∉ hs) w w' → LeavesIn F n P fn tmps R [] .returning w') → LeavesInM F n P fn tmps R (markL hs) .returning w
  | [], w, _, _, h => h w (Keep.refl _ _)
  | k :: hs, w, hd, hm, h => by
    obtain ⟨h1, h2⟩ := List.nodup_cons.1 hd
    refine ⟨by simp [markL], .inl ⟨k, _, by rfl, run_takeDeferred (hm k (by simp)), ?_⟩⟩
    refine marks_leave hs _ h2 (fun q hq => (World.putObj_heap_other (by rintro rfl; exact h1 hq)).trans (hm q (by simp [hq]))) fun w' hk => h w' ?_
    have hp := Keep.put w k (.deferred none)
    refine ⟨hk.os.trans hp.os, hk.tape.trans hp.tape, hk.output.trans hp.output, Nat.le_trans hp.size hk.size, fun i hi hs' => ?_⟩
    have hne : i ≠ k := fun e => hs' (by simp [e])
    exact (hk.block i (Nat.lt_of_lt_of_le hi hp.size) (fun h => hs' (by simp [h]))).trans (World.putObj_heap_other hne)

end Go.Proofs.YtofcpmfbeobgiaaDoor

namespace Go.Proofs.YtofcpmfbeobgiaaDoor
open Go.RowKit Go.Shelf Go.Lib
set_option linter.unusedVariables false

theorem lineT_idem (s : List UInt8) : lineT (lineT s) = lineT s := by
  rcases idx_split 10 s with ⟨_, n2⟩ | ⟨a, b, rfl, n2, _⟩
  · rw [(line_miss n2).1]; exact (line_miss n2).1
  · rw [(line_hit n2).1]; exact (line_hit (b := []) n2).1
theorem lineT_len (s : List UInt8) : (lineT s).length ≤ s.length := by
  rcases idx_split 10 s with ⟨_, n2⟩ | ⟨a, b, rfl, n2, _⟩
  · rw [(line_miss n2).1]; exact Nat.le_refl _
  · rw [(line_hit n2).1]; simp
theorem lines_mem : ∀ (n : Nat) (s : List UInt8), s.length ≤ n → ∀ t ∈ linesF s, lineT t = t ∧ t.length ≤ s.length
  | 0, s, h, t, ht => by
    have : s = [] := List.eq_nil_of_length_eq_zero (by omega)
    subst this; rw [linesF_nil] at ht; cases ht
  | n + 1, s, h, t, ht => by
    by_cases hs : s = []
    · subst hs; rw [linesF_nil] at ht; cases ht
    · rw [linesF_step hs] at ht
      have hl := rest_less hs
      rcases List.mem_cons.1 ht with rfl | ht
      · exact ⟨lineT_idem s, lineT_len s⟩
      · obtain ⟨h1, h2⟩ := lines_mem n _ (by omega) t ht
        exact ⟨h1, by omega⟩
theorem readL_few : ∀ (ts : List (List UInt8)) (acc acc' : List Cel), acc.length ≤ 30 → readL acc ts = some acc' → acc'.length ≤ 30
  | [], acc, acc', h, hr => by cases hr; exact h
  | t :: ts, acc, acc', h, hr => by
    rw [readL] at hr
    cases hp : rstepB acc t with
    | none => rw [hp] at hr; cases hr
    | some q =>
      rw [hp] at hr; obtain ⟨x, z⟩ := q
      exact readL_few ts _ _ (stepB_bound ((rstepB_iff _ _ _ _).1 hp).1) hr
def bytesL (l : List ByteArray) : List (List UInt8) := l.map (fun x => x.data.toList)
theorem bytes_linesB (l : List UInt8) : bytesL (linesB l) = linesF l := by
  unfold bytesL linesB
  rw [List.map_map]
  conv => rhs; rw [← List.map_id (linesF l)]
  exact List.map_congr_left fun x _ => rfl
theorem linesB_mem {s x : ByteArray} (h : x ∈ linesB s.data.toList) : lineT x.data.toList = x.data.toList ∧ x.size ≤ s.size := by
  have h1 : x.data.toList ∈ bytesL (linesB s.data.toList) := List.mem_map_of_mem h
  rw [bytes_linesB] at h1
  have h2 := lines_mem _ _ (Nat.le_refl _) _ h1
  exact ⟨h2.1, by rw [Lib.size_eq, Lib.size_eq]; exact h2.2⟩
theorem parse_small {s : ByteArray} (h : s.size ≤ 65536) : parseBF s.data.toList = parseB s.size [] s.data.toList := by
  unfold parseBF; rw [← Lib.size_eq, if_neg (by omega)]
theorem pt_ok {s : ByteArray} {acc : List Cel} (hs : s.size ≤ 65536) (h : readL [] (bytesL (linesB s.data.toList)) = some acc) : parseBF s.data.toList = (acc, 0, 0) := by
  rw [bytes_linesB] at h
  rw [parse_small hs]
  exact parse_ok _ _ _ _ (by rw [Lib.size_eq]; exact Nat.le_refl _) h
theorem pt_bad {s x : ByteArray} {pre : List ByteArray} {acc : List Cel} (hs : s.size ≤ 65536) (hp : pre ++ [x] <+: linesB s.data.toList) (h : readL [] (bytesL pre) = some acc) (hn : rstepB acc x.data.toList = none) : parseBF s.data.toList = ([], pre.length, 2) := by
  obtain ⟨t, ht⟩ := hp
  have e : linesF s.data.toList = bytesL pre ++ x.data.toList :: bytesL t := by
    rw [← bytes_linesB, ← ht]; simp [bytesL]
  have hl := readL_len _ _ _ h
  rw [parse_small hs, parse_bad _ _ _ _ _ _ _ (by rw [Lib.size_eq]; exact Nat.le_refl _) e h hn, hl]
  simp [bytesL]
theorem readL_more {pre : List ByteArray} {x : ByteArray} {acc : List Cel} {c : Cel} {r : List UInt8} (h : readL [] (bytesL pre) = some acc) (hn : rstepB acc x.data.toList = some (c, r)) : readL [] (bytesL (pre ++ [x])) = some (acc ++ [c]) := by
  have := readL_snoc _ _ _ _ _ _ h hn
  unfold bytesL at this ⊢
  rw [List.map_append]; exact this
theorem readL_pre {pre : List ByteArray} {acc : List Cel} (h : readL [] (bytesL pre) = some acc) : acc.length = pre.length ∧ acc.length ≤ 30 := by
  have h1 := readL_len _ _ _ h
  exact ⟨by rw [h1]; simp [bytesL], readL_few _ _ _ (by simp) h⟩
theorem step_yes {acc : List Cel} {t : List UInt8} {l : List Int} (hline : lineT t = t) (hl : RowP ((wordsF (cut t [10]).1)[2]?.getD []) l) (h1 : listB (acc ++ [celW l (wordsF (cut t [10]).1)]) = true) (h2 : lineCL (celW l (wordsF (cut t [10]).1)) = t) :
    ∃ r, rstepB acc t = some (celW l (wordsF (cut t [10]).1), r) := by
  cases h : rstepB acc t with
  | none => exact absurd ⟨h1, by rw [hline]; exact h2⟩ (bit_no h)
  | some q =>
    obtain ⟨x, r⟩ := q
    have := (bit_yes h).2.2.2.2.2 l hl
    exact ⟨r, by rw [this]⟩
theorem step_no3 {acc : List Cel} {t : List UInt8} (h : (wordsF (cut t [10]).1).length ≠ 3) : rstepB acc t = none := by
  cases h2 : rstepB acc t with
  | none => rfl
  | some q => obtain ⟨x, r⟩ := q; exact absurd (bit_yes h2).1 h
theorem step_noE {acc : List Cel} {t : List UInt8} (h : (∀ u, atoiAll ((wordsF (cut t [10]).1)[0]?.getD []) ≠ .ok u) ∨ (∀ u, atoiAll ((wordsF (cut t [10]).1)[1]?.getD []) ≠ .ok u)) : rstepB acc t = none := by
  cases h2 : rstepB acc t with
  | none => rfl
  | some q =>
    obtain ⟨x, r⟩ := q
    obtain ⟨u, v, e1, e2⟩ := (bit_yes h2).2.1
    rcases h with h | h
    · exact absurd e1 (h u)
    · exact absurd e2 (h v)
theorem step_noL {acc : List Cel} {t : List UInt8} {l : List Int} (hl : RowP ((wordsF (cut t [10]).1)[2]?.getD []) l) (hline : lineT t = t) (h : ¬ (listB (acc ++ [celW l (wordsF (cut t [10]).1)]) = true ∧ lineCL (celW l (wordsF (cut t [10]).1)) = t)) : rstepB acc t = none := by
  cases h2 : rstepB acc t with
  | none => rfl
  | some q =>
    obtain ⟨x, r⟩ := q
    have hb := bit_yes h2
    have e := hb.2.2.2.2.2 l hl
    rw [hline] at hb
    exact absurd ⟨by rw [e]; exact hb.2.2.1, by rw [e]; exact hb.2.2.2.1⟩ h

theorem boxB_below {W W' : World} {b : Nat} {T : TypeId} {v : Value} (h : Boxed W b T v) (hb : Below W.heap.size W W') : Boxed W' b T v := (hb.block b h.lt).trans h
theorem boxB_keep {W W' : World} {b : Nat} {T : TypeId} {v : Value} {K : Nat → Prop} (h : Boxed W b T v) (hk : Keep K W W') (hb : K b) : Boxed W' b T v := (hk.block b h.lt hb).trans h
structure ParI (w : World) (base : Nat) (Sr : Nat → Prop) (pre : List ByteArray) (Z : World) : Prop where
  b : Below w.heap.size w Z
  z : base ≤ Z.heap.size
  e : Boxed Z (w.heap.size + 2) 27 (.int .i64 0)
  k : Boxed Z (w.heap.size + 1) 3 (.int .i64 (pre.length : Nat))
  o : ∃ v acc, Boxed Z w.heap.size 24 v ∧ CelT Z w.heap.size (fun q => base ≤ q ∧ ¬ Sr q) v acc ∧ readL [] (bytesL pre) = some acc
theorem ParI.keep {w A B : World} {base : Nat} {S S' : Nat → Prop} {pre : List ByteArray} (h : ParI w base S pre A) (hn : ∀ k, S' k → S k ∨ A.heap.size ≤ k) (hl : ∀ k, S' k → base ≤ k) (hb : w.heap.size + 3 ≤ base)
    (hk : Keep (fun k => (k < w.heap.size + 3 ∨ base ≤ k) ∧ ¬ S' k) A B) : ParI w base S' pre B := by
  have hns : ∀ k, k < base → ¬ S' k := fun k hk hs => by have := hl k hs; omega
  obtain ⟨v, acc, h1, h2, h3⟩ := h.o
  refine ⟨hk.below h.b h.b.size fun k hk => ⟨by omega, hns k (by omega)⟩, Nat.le_trans h.z hk.size, boxB_keep h.e hk ⟨by omega, hns _ (by omega)⟩, boxB_keep h.k hk ⟨by omega, hns _ (by omega)⟩, v, acc, boxB_keep h1 hk ⟨by omega, hns _ (by omega)⟩, h2.keep hk fun q hq hlt => ?_, h3⟩
  have h4 : ¬ S' q := fun hs => by
    rcases hn q hs with h | h
    · exact hq.2 h
    · omega
  exact ⟨⟨.inr hq.1, h4⟩, hq.1, h4⟩
def ParX (w : World) (base : Nat) (PT : List Cel × Nat × Int) (Sr : Nat → Prop) (c : Code) (pre : List ByteArray) (Z : World) : Prop :=
  c = .ret ∧ Below w.heap.size w Z ∧ Boxed Z w.heap.size 24 (.slice none 0 0) ∧ Boxed Z (w.heap.size + 1) 3 (.int .i64 (PT.2.1 : Nat)) ∧ Boxed Z (w.heap.size + 2) 27 (.int .i64 PT.2.2) ∧ PT.1 = []
theorem ParX.keep {w A B : World} {base : Nat} {PT : List Cel × Nat × Int} {S S' : Nat → Prop} {c : Code} {pre : List ByteArray} (h : ParX w base PT S c pre A) (hl : ∀ k, S' k → base ≤ k) (hb : w.heap.size + 3 ≤ base)
    (hk : Keep (fun k => (k < w.heap.size + 3 ∨ base ≤ k) ∧ ¬ S' k) A B) : ParX w base PT S' c pre B := by
  have hns : ∀ k, k < base → ¬ S' k := fun k hk hs => by have := hl k hs; omega
  obtain ⟨h1, h2, h3, h4, h5, h6⟩ := h
  exact ⟨h1, hk.below h2 h2.size fun k hk => ⟨by omega, hns k (by omega)⟩, boxB_keep h3 hk ⟨by omega, hns _ (by omega)⟩, boxB_keep h4 hk ⟨by omega, hns _ (by omega)⟩, boxB_keep h5 hk ⟨by omega, hns _ (by omega)⟩, h6⟩
theorem three_set {W : World} {b : Nat} {S T U : TypeId} {u v x : Value} (h1 : Boxed W b S u) (h2 : Boxed W (b + 1) T v) (h3 : Boxed W (b + 2) U x) (u' v' x' : Value) (W' : World) (hW : W' = ((W.setCell ⟨b, 0, none⟩ u').setCell ⟨b + 1, 0, none⟩ v').setCell ⟨b + 2, 0, none⟩ x') :
    Boxed W' b S u' ∧ Boxed W' (b + 1) T v' ∧ Boxed W' (b + 2) U x' ∧ Keep (fun k => k ≠ b ∧ k ≠ b + 1 ∧ k ≠ b + 2) W W' := by
  subst hW
  have k1 := Keep.set W b 0 u'
  have k2 := Keep.set (W.setCell ⟨b, 0, none⟩ u') (b + 1) 0 v'
  have k3 := Keep.set ((W.setCell ⟨b, 0, none⟩ u').setCell ⟨b + 1, 0, none⟩ v') (b + 2) 0 x'
  have a1 := h1.set u'
  have a2 := (boxB_keep h2 k1 (by omega)).set v'
  have a3 := (boxB_keep (boxB_keep h3 k1 (by omega)) k2 (by omega)).set x'
  exact ⟨boxB_keep (boxB_keep a1 k2 (by omega)) k3 (by omega), boxB_keep a2 k3 (by omega), a3, ((k1.mono fun k hk => hk.1).trans (k2.mono fun k hk => hk.2.1)).trans (k3.mono fun k hk => hk.2.2)⟩
theorem three_new (w : World) (c : Int) (W3 : World) (hW3 : W3 = ((w.alloc (.cells #[.slice none 0 0] 24)).alloc (.cells #[.int .i64 0] 3)).alloc (.cells #[.int .i64 c] 27)) :
    W3.heap.size = w.heap.size + 3 ∧ Boxed W3 w.heap.size 24 (.slice none 0 0) ∧ Boxed W3 (w.heap.size + 1) 3 (.int .i64 0) ∧ Boxed W3 (w.heap.size + 2) 27 (.int .i64 c) ∧ Below w.heap.size w W3 := by
  refine ⟨by rw [hW3]; simp, ?_, ?_, ?_, by rw [hW3]; exact (((Below.refl _ w).alloc (Nat.le_refl _) _).alloc (by simp) _).alloc (by simp; omega) _⟩
  · rw [hW3]; unfold Boxed
    rw [Below.heap_alloc _ _ _ (by simp; omega), Below.heap_alloc _ _ _ (by simp)]; exact World.alloc_heap_new _ _
  · rw [hW3]; unfold Boxed
    rw [Below.heap_alloc _ _ _ (by simp)]
    have := World.alloc_heap_new (w.alloc (.cells #[.slice none 0 0] 24)) (.cells #[.int .i64 0] 3)
    rwa [World.size_alloc] at this
  · rw [hW3]; unfold Boxed
    have := World.alloc_heap_new ((w.alloc (.cells #[.slice none 0 0] 24)).alloc (.cells #[.int .i64 0] 3)) (.cells #[.int .i64 c] 27)
    rwa [World.size_alloc, World.size_alloc] at this
theorem three_of {α : Type} : ∀ {L : List α}, L.length = 3 → ∃ a b c, L = [a, b, c]
  | [a, b, c], _ => ⟨a, b, c, rfl⟩
end Go.Proofs.YtofcpmfbeobgiaaDoor

namespace Go.Proofs.YtofcpmfbeobgiaaDoor
open Go.RowKit Go.Shelf
set_option linter.unusedVariables false
attribute [local go_sem] Oper.semAt_some

def ParPost (w : World) (PT : List Cel × Nat × Int) (e : Ending) (w' : World) : Prop :=
  ∃ v, e = .returned (.tuple #[v, .int .i64 (PT.2.1 : Nat), .int .i64 PT.2.2]) ∧ CelT w' w.heap.size (fun _ => True) v PT.1 ∧ Below w.heap.size w w'

set_option maxRecDepth 100000 in
set_option maxHeartbeats 8000000 in
theorem bParse_c (w : World) (hX : TabX w) (s : ByteArray) (hsm : s.size ≤ 9223372036854775807) :
    Calls Tryd.prog 6 #[.string s] w (ParPost w (parseBF s.data.toList)) := by
  by_cases hbig : 65536 < s.size
  · have HE := hid (show parseBF s.data.toList = ([], 0, 3) by unfold parseBF; rw [← Lib.size_eq, if_pos hbig])
    clear hX
    obtain ⟨W4, hW4⟩ : ∃ W4, W4 = ((w.alloc (.cells #[.slice none 0 0] 24)).alloc (.cells #[.int .i64 0] 3)).alloc (.cells #[.int .i64 3] 27) := ⟨_, rfl⟩
    have HR := hid (three_new w 3 W4 hW4)
    have HW4 := hid hW4
    clear hW4
    have hb2 : (65536 : Int) < (s.size : Int) := by omega
    refine callsIn_wide (n := 0) |>.1 ?_
    refine callsIn_of_wp_marks Tryd.func6 rfl trivial ?_ rfl
    simp only [Tryd.ntmps6, List.size_toArray, List.length_cons, List.length_nil, Nat.reduceAdd, Nat.reduceSub, Array.replicate_succ, Array.replicate_zero, List.push_toArray, List.append_toArray, List.nil_append, List.cons_append]
    gi_wp2
    rw [← HW4.out]
    obtain ⟨_, x0, x1, x2, hb⟩ := HR.out
    have r0 := x0.cell
    have r1 := x1.cell
    have r2 : W4.cell? ⟨w.heap.size + 1 + 1, 0, none⟩ = some (.int .i64 3) := x2.cell
    refine ⟨.tuple #[.slice none 0 0, .int .i64 0, .int .i64 3], by simp [results, Tryd.results6, go_sem, r0, r1, r2], .slice none 0 0, by rw [HE.out]; rfl, by rw [HE.out]; exact CelT.nil _ _ _, hb⟩
  have hs6 : s.size ≤ 65536 := by omega
  obtain ⟨W3, hW3⟩ : ∃ W3, W3 = ((w.alloc (.cells #[.slice none 0 0] 24)).alloc (.cells #[.int .i64 0] 3)).alloc (.cells #[.int .i64 0] 27) := ⟨_, rfl⟩
  have HR := hid (three_new w 0 W3 hW3)
  have HW3 := hid hW3
  obtain ⟨PT, hPT⟩ : ∃ PT, PT = parseBF s.data.toList := ⟨_, rfl⟩
  have HOK := hid (fun (acc : List Cel) (h : readL [] (bytesL (linesB s.data.toList)) = some acc) => show PT = (acc, 0, 0) from hPT.trans (pt_ok hs6 h))
  have HBAD := hid (fun (pre : List ByteArray) (x : ByteArray) (acc : List Cel) (hp : pre ++ [x] <+: linesB s.data.toList) (h : readL [] (bytesL pre) = some acc) (hn : rstepB acc x.data.toList = none) => show PT = ([], pre.length, 2) from hPT.trans (pt_bad hs6 hp h hn))
  rw [← hPT]
  have HX := hid hX
  clear hX hPT hW3 hbig
  refine callsIn_wide (n := 0) |>.1 ?_
  refine callsIn_of_wp_marks Tryd.func6 rfl trivial ?_ rfl
  simp only [Tryd.ntmps6, List.size_toArray, List.length_cons, List.length_nil, Nat.reduceAdd, Nat.reduceSub, Array.replicate_succ, Array.replicate_zero, List.push_toArray, List.append_toArray, List.nil_append, List.cons_append]
  have hs60 : ¬ 65536 < (s.size : Int) := by omega
  gi_wp2_with (refine ⟨trivial, rfl, ?_⟩; gi_at_call 14; refine (callsIn_wide.2 (lines_c _ s)).mono ?_; rintro e w1 ⟨rfl, hw1⟩; have HW1 := hid hw1; clear hw1; refine Stop.of ?_)
  refine Stop.go ?_
  obtain ⟨hs3, b0, b1, b2, hb3⟩ := HR.out
  have hw1 : w1 = W3.alloc (.cells #[.string s] 9) := by rw [HW3.out]; exact HW1.out
  have hs1 : w1.heap.size = w.heap.size + 4 := by rw [hw1, World.size_alloc, hs3]
  have htb : w1.heap[w.heap.size + 3]? = some (.cells #[.string s] 9 (0, 0)) := by rw [hw1, ← hs3]; exact World.alloc_heap_new _ _
  have hb31 : Below W3.heap.size W3 w1 := by rw [hw1]; exact (Below.refl _ _).alloc (Nat.le_refl _) _
  have hbw1 : Below w.heap.size w w1 := chain hb3 hb31
  have HH0 := hid (fun (Z : World) (hk : Keep (fun k => k < w1.heap.size) w1 Z) (hZ : w1.heap.size + 2 ≤ Z.heap.size) => show ParI w (w1.heap.size + 2) (fun _ => False) [] Z from
    ⟨hk.below hbw1 hbw1.size (fun k hk => by omega), hZ, boxB_keep (boxB_below b2 hb31) hk (by show _ < _; omega), boxB_keep (boxB_below b1 hb31) hk (by show _ < _; omega), .slice none 0 0, [], boxB_keep (boxB_below b0 hb31) hk (by show _ < _; omega), CelT.nil _ _ _, rfl⟩)
  obtain ⟨fp, hfp⟩ : ∃ fp : Nat → Prop, fp = fun q => q < w1.heap.size ∧ q ≠ w.heap.size ∧ q ≠ w.heap.size + 1 ∧ q ≠ w.heap.size + 2 := ⟨_, rfl⟩
  have HFP := hid hfp
  have HIT := hid (lines_iter w1 (w.heap.size + 3) s hs6 (by omega) htb fp (by rw [hfp]; exact ⟨by omega, by omega, by omega, by omega⟩))
  have HS1 := hid hs1
  have HBW1 := hid hbw1
  clear hfp hw1 hs1 htb hb31 hbw1 hs3 b0 b1 b2 hb3 HW1 HR HW3
  gi_wp2
  refine range_t (gf := 33) (lb := #[.pointer (some ⟨w.heap.size + 3, 0, none⟩)]) (xs := linesB s.data.toList) (fp := fp) (T := fun q => q = w.heap.size + 3) (V := LineV) rfl (enters_of Tryd.func33 (by kernel_rfl) rfl)
    HIT.out (Below.refl _ _) (by rw [HFP.out]; exact fun q h => h.1) (by intro k hk; have := HS1.out; omega)
    (fun Sr pre Z => ParI w (w1.heap.size + 2) Sr pre Z)
    (ParX w (w1.heap.size + 2) PT) ?hI ?hIx ?hV ?h0
    (fun v a' Z => ∃ x : ByteArray, v = .string x ∧ a' = { tmps := #[.string s, undef, .pointer (some ⟨w.heap.size, 0, none⟩), .pointer (some ⟨w.heap.size + 1, 0, none⟩), .pointer (some ⟨w.heap.size + 1 + 1, 0, none⟩), .string x, undef, undef, undef, undef, undef, .string s, .int .i64 s.size, .bool false, .string s, .func (.func 33) #[] #[.pointer (some ⟨w.heap.size + 1 + 1 + 1, 0, none⟩)], .string x, undef, undef, undef, undef, undef, undef, undef, undef, undef, undef, undef, undef, undef, undef, undef, undef, undef, undef, undef, undef, undef, undef, undef, undef, undef, undef, undef, undef, undef, undef, undef, undef, undef, undef, undef, undef, undef, undef, undef, undef, undef, undef, undef, undef, undef, undef, undef, undef, undef, undef, undef, undef, undef, undef, undef], defers := [] }) ?hAx ?hassign ?hbody ?hdone ?hstop
  case hI =>
    intro S S' s A B hIA h1 h2 h3 h4 hk
    exact hIA.keep h2 h3 (by have := HS1.out; omega) (hk.mono fun k hk => by have := HS1.out; exact ⟨by omega, by omega, hk.2, by omega⟩)
  case hIx =>
    intro S S' c s A B hIA h1 h2 h3 h4 hk
    exact hIA.keep h3 (by have := HS1.out; omega) (hk.mono fun k hk => by have := HS1.out; exact ⟨by omega, by omega, hk.2, by omega⟩)
  case hV =>
    intro S x v A B hv hk
    exact hv
  case h0 =>
    intro Z hk hZ
    exact HH0.out Z hk hZ
  case hAx =>
    rintro v a' A B h hk
    exact h
  case hassign =>
    rintro l Sr x v Z K hZ hv hK
    have hv' : v = .string x := hv
    subst hv'
    gi_wp2
    exact hK _ _ (Below.refl _ _) ⟨x, rfl, rfl⟩
  case hbody =>
    rintro l' Sr pre x v _ Z hpre hSr hI hv ⟨x', hv2, rfl⟩ hZ hDo hLo
    have hv' : v = .string x := hv
    obtain rfl : x' = x := by rw [hv'] at hv2; exact (Value.string.inj hv2).symm
    clear hv hv2 hv'
    obtain ⟨hline, hxs⟩ := linesB_mem (hpre.subset (List.mem_append_right _ (List.mem_singleton.2 rfl)))
    have HTX := hid (HX.out.below hI.b)
    obtain ⟨v, acc, hv0, hcel, hread⟩ := hI.o
    obtain ⟨hal, ha30⟩ := readL_pre hread
    obtain ⟨va, vc, rfl⟩ := hcel.slice
    have htrim : Lib.trimSuffix x'.data.toList [10] = (Lib.cut x'.data.toList [10]).1 := by have := trim_line x'.data.toList; rwa [hline] at this
    have hl1 := cut_rest_le x'.data.toList [10]
    obtain ⟨c1, hc1⟩ : ∃ c, c = (Lib.cut x'.data.toList [10]).1 := ⟨_, rfl⟩
    obtain ⟨T1, hT1⟩ : ∃ T : ByteArray, T = ⟨c1.toArray⟩ := ⟨_, rfl⟩
    have hT1d : T1.data.toList = c1 := by rw [hT1]
    have hxz : x'.data.toList.length = x'.size := (Lib.size_eq x').symm
    have hT1z : T1.size ≤ 65536 := by rw [hT1, bytes_size, hc1]; omega
    have HTR := hid (fun (X : World) => show Calls Tryd.prog 16 #[.string x', .string ⟨#[10]⟩] X fun e w' => e = .returned (.string T1) ∧ X = w' from by
      have := Tryd.strings_TrimSuffix x' ⟨#[10]⟩ X (by omega)
      rw [show (⟨#[10]⟩ : ByteArray).data.toList = [10] from rfl, htrim, ← hc1, ← hT1] at this
      exact this.mono fun _ _ h => ⟨h.1, h.2.symm⟩)
    have HSp := hid (fun (W : World) (hb : Below Z.heap.size Z W) => split_c W (HTX.out.below hb) T1 hT1z)
    rw [hT1d] at HSp
    have hwl := fun x hx => word_le c1 x hx
    have hw1 := words_le c1
    have hc1z : c1.length ≤ 65536 := by rw [hc1]; omega
    obtain ⟨ws, hws⟩ : ∃ ws, ws = wordsF c1 := ⟨_, rfl⟩
    have HWS := hid (show ws = wordsF (Lib.cut x'.data.toList [10]).1 by rw [hws, hc1])
    rw [← hws] at HSp hwl hw1
    have HE := hid (show rstepB acc x'.data.toList = none → PT = ([], pre.length, 2) from HBAD.out pre x' acc hpre hread)
    have HPRE := hid hpre
    have HLN := hid hline
    have HI := hid hI
    have HV0 := hid hv0
    have HCL := hid hcel
    have HRD := hid hread
    have HAL := hid hal
    have HSR := hid hSr
    have HZ := hid hZ
    have HDO := hid hDo
    have HLO := hid hLo
    have HWL := hid hwl
    have HC1Z := hid hc1z
    obtain ⟨k, hk⟩ : ∃ k, k = acc.length := ⟨_, rfl⟩
    have HK := hid hk
    rw [← hk] at HV0 HCL ha30
    have HK1 := hid (show Boxed Z (w.heap.size + 1) 3 (.int .i64 (k : Nat)) by have := hI.k; rw [← hal, ← hk] at this; exact this)
    clear hpre hline hI hv0 hcel hread hal hSr hZ hDo hLo htrim hl1 hc1 hT1 hT1d hT1z hxz hwl hws hc1z hk
    gi_wp2_with (refine ⟨trivial, rfl, ?_⟩; gi_at_call 16; refine (CallsIn.inRound l' (callsIn_wide.2 (HTR.out _))).mono ?_; rintro e w2 ⟨rfl, rfl⟩; refine Stop.of ?_)
    refine Stop.go ?_
    gi_wp2_with (refine ⟨trivial, rfl, ?_⟩; gi_at_call 15; refine (CallsIn.inRound l' (callsIn_wide.2 (HSp.out _ (Below.refl _ _)))).mono ?_; rintro e w3 ⟨L, hL, rfl, hw3⟩; have HW3 := hid hw3; clear hw3; refine Stop.of ?_)
    refine Stop.go ?_
    have hLl : L.length = ws.length := by rw [← hL, List.length_map]
    have HL := hid hL
    have HHE := hid (show ws.length ≠ 3 → PT = ([], pre.length, 2) from fun h => HE.out (step_no3 (by rw [← HWS.out]; exact h)))
    have hb3 : Below Z.heap.size Z w3 := by rw [HW3.out]; exact (Below.refl _ _).alloc (Nat.le_refl _) _
    have HB3 := hid hb3
    by_cases hL3 : L.length = 3
    · --M
      have hNL : L.length = 3 := hL3
      rw [hL3]
      obtain ⟨t0, t1, t2, rfl⟩ : ∃ a b c, L = [a, b, c] := three_of hL3
      have hwse : ws = [t0.data.toList, t1.data.toList, t2.data.toList] := by rw [← HL.out]; rfl
      have hx3 : w3 = Z.alloc (.cells #[.string t0, .string t1, .string t2] 9) := HW3.out
      have hblk : w3.heap[Z.heap.size]? = some (.cells #[.string t0, .string t1, .string t2] 9 (0, 0)) := by rw [hx3]; exact World.alloc_heap_new _ _
      have hzlt : Z.heap.size < w3.heap.size := (Array.getElem?_eq_some_iff.1 hblk).1
      have HCW := hid (fun (X : World) (hb : Below w3.heap.size w3 X) => show X.cell? ⟨Z.heap.size, 0, none⟩ = some (.string t0) ∧ X.cell? ⟨Z.heap.size, 1, none⟩ = some (.string t1) ∧ X.cell? ⟨Z.heap.size, 2, none⟩ = some (.string t2) from by
        have := (hb.block _ hzlt).trans hblk
        exact ⟨by simp [World.cell?, this], by simp [World.cell?, this], by simp [World.cell?, this]⟩)
      have hz : t0.size ≤ 65536 ∧ t1.size ≤ 65536 ∧ t2.size ≤ 65536 := by
        have h := HWL.out
        rw [hwse] at h
        have h0 := h t0.data.toList (by simp)
        have h1 := h t1.data.toList (by simp)
        have h2 := h t2.data.toList (by simp)
        have h3 := HC1Z.out
        rw [← Lib.size_eq] at h0 h1 h2
        exact ⟨by omega, by omega, by omega⟩
      have HAT := hid (fun (y : ByteArray) (hy : y.size ≤ 65536) (X : World) (hb : Below Z.heap.size Z X) => atoiE_c X (HTX.out.below hb) y (by omega))
      have HY := hid hz
      have hn0 : acc.length = pre.length := HAL.out
      have HROW := hid (fun (X : World) => row_c X t2 hz.2.2)
      obtain ⟨lo, hlo⟩ : ∃ x, x = atV t0.data.toList := ⟨_, rfl⟩
      obtain ⟨hi, hhi⟩ : ∃ x, x = atV t1.data.toList := ⟨_, rfl⟩
      have hcel : ∀ l, celW l ws = ⟨l, lo, hi⟩ := fun l => by rw [hwse, hlo, hhi]; rfl
      have HYES := hid (fun (l : List Int) (hl : RowP t2.data.toList l) (h1 : listB (acc ++ [⟨l, lo, hi⟩]) = true) (h2 : lineCL ⟨l, lo, hi⟩ = x'.data.toList) => show readL [] (bytesL (pre ++ [x'])) = some (acc ++ [⟨l, lo, hi⟩]) from by
        obtain ⟨r, hr⟩ := step_yes (acc := acc) (l := l) HLN.out (by rw [← HWS.out, hwse]; exact hl) (by rw [← HWS.out, hcel]; exact h1) (by rw [← HWS.out, hcel]; exact h2)
        rw [← HWS.out, hcel] at hr
        exact readL_more HRD.out hr)
      have HNOL := hid (fun (l : List Int) (hl : RowP t2.data.toList l) (h : ¬ (listB (acc ++ [⟨l, lo, hi⟩]) = true ∧ lineCL ⟨l, lo, hi⟩ = x'.data.toList)) => show PT = ([], pre.length, 2) from
        HE.out (step_noL (acc := acc) (l := l) (by rw [← HWS.out, hwse]; exact hl) HLN.out (by rw [← HWS.out, hcel]; exact h)))
      have HNOE := hid (fun (h : (∀ u, Lib.atoiAll t0.data.toList ≠ .ok u) ∨ (∀ u, Lib.atoiAll t1.data.toList ≠ .ok u)) => show PT = ([], pre.length, 2) from
        HE.out (step_noE (by rw [← HWS.out, hwse]; exact h)))
      have HII := hid (show isInt lo ∧ isInt hi from ⟨by rw [hlo]; exact atV_isInt _, by rw [hhi]; exact atV_isInt _⟩)
      have HLO := hid hlo
      have HHI := hid hhi
      have HBL := hid hblk
      obtain ⟨v0, v1, v2⟩ := HCW.out w3 (Below.refl _ _)
      clear hb3 hL hLl hwse hx3 hblk hzlt hz hlo hhi hcel hn0 hNL HHE HL HWL hL3
      gi_wp2_with (refine ⟨trivial, rfl, ?_⟩; gi_at_call 17; refine (CallsIn.inRound l' (callsIn_wide.2 (HAT.out t0 HY.out.1 _ HB3.out))).mono ?_; rintro e w4 ⟨ev0, rfl, hb4, hev0⟩; refine Stop.of ?_)
      refine Stop.go ?_
      rw [← HLO.out]
      have HEV0 := hid hev0
      have HB4 := hid hb4
      clear v0 v1 v2
      obtain ⟨v0, v1, v2⟩ := HCW.out w4 hb4
      clear hev0 hb4
      gi_wp2_with (refine ⟨trivial, rfl, ?_⟩; gi_at_call 17; refine (CallsIn.inRound l' (callsIn_wide.2 (HAT.out t1 HY.out.2.1 _ (chain HB3.out HB4.out)))).mono ?_; rintro e w5 ⟨ev1, rfl, hb5, hev1⟩; refine Stop.of ?_)
      refine Stop.go ?_
      rw [← HHI.out]
      have HEV1 := hid hev1
      obtain ⟨wd, hwd⟩ : ∃ wd, wd = w5.drew := ⟨_, rfl⟩
      have hbd : Below w3.heap.size w3 wd := by rw [hwd]; exact (chain HB4.out hb5).drew
      have HWD := hid hwd
      have HBD := hid hbd
      have HBZ := hid (chain HB3.out hbd)
      clear v0 v1 v2 hb5 hev1 hwd hbd
      gi_wp2
      refine round_region (fun j X => decide (j < 10) = true → X.cell? ⟨w.heap.size, 0, none⟩ = some (.slice va k vc) ∧ X.cell? ⟨Z.heap.size, 2, none⟩ = some (.string t2)) l' 0 (by kernel_rfl) (by kernel_rfl) (fun ⟨_, _, h⟩ => h) ?_
      rw [← HWD.out]
      have HS := hid (fun (X : World) (hb : Below Z.heap.size Z X) (hb2 : Below w3.heap.size w3 X) => show X.cell? ⟨w.heap.size, 0, none⟩ = some (.slice va k vc) ∧ X.cell? ⟨Z.heap.size, 2, none⟩ = some (.string t2) from ⟨(boxB_below HV0.out hb).cell, (HCW.out X hb2).2.2⟩)
      refine AnyT.takeD (i := 0) (v := .slice va k vc) rfl rfl (by kernel_rfl) (by kernel_rfl) (by kernel_rfl) (by first | exact (fun _ _ _ h => h) | exact (fun _ _ _ h => absurd h.1 (by simp))) (by kernel_rfl) (by rfl) (by rintro w' ⟨q0, q1⟩; go_simp) (HS.out _ HBZ.out HBD.out) ?_; go_frame
      refine AnyT.takeD (i := 1) (v := .slice (some ⟨Z.heap.size, 0, none⟩) 3 3) rfl rfl (by kernel_rfl) (by kernel_rfl) (by kernel_rfl) (by first | exact (fun _ _ _ h => h) | exact (fun _ _ _ h => absurd h.1 (by simp))) (by kernel_rfl) (by rfl) (by rintro w' ⟨q0, q1⟩; go_simp) (HS.out _ HBZ.out HBD.out) ?_; go_frame
      refine AnyT.takeD (i := 2) (v := .pointer (some ⟨Z.heap.size, 2, none⟩)) rfl rfl (by kernel_rfl) (by kernel_rfl) (by kernel_rfl) (by first | exact (fun _ _ _ h => h) | exact (fun _ _ _ h => absurd h.1 (by simp))) (by kernel_rfl) (by rfl) (by rintro w' ⟨q0, q1⟩; go_simp) (HS.out _ HBZ.out HBD.out) ?_; go_frame
      refine AnyT.takeD (i := 3) (v := .string t2) rfl rfl (by kernel_rfl) (by kernel_rfl) (by kernel_rfl) (by first | exact (fun _ _ _ h => h) | exact (fun _ _ _ h => absurd h.1 (by simp))) (by kernel_rfl) (by rfl) (by rintro w' ⟨q0, q1⟩; go_simp) (HS.out _ HBZ.out HBD.out) ?_; go_frame
      refine AnyT.takeD (i := 5) (v := .int .i64 lo) rfl rfl (by kernel_rfl) (by kernel_rfl) (by kernel_rfl) (by first | exact (fun _ _ _ h => h) | exact (fun _ _ _ h => absurd h.1 (by simp))) (by kernel_rfl) (by rfl) (by rintro w' ⟨q0, q1⟩; go_simp) (HS.out _ HBZ.out HBD.out) ?_; go_frame
      refine AnyT.takeD (i := 6) (v := .int .i64 hi) rfl rfl (by kernel_rfl) (by kernel_rfl) (by kernel_rfl) (by first | exact (fun _ _ _ h => h) | exact (fun _ _ _ h => absurd h.1 (by simp))) (by kernel_rfl) (by rfl) (by rintro w' ⟨q0, q1⟩; go_simp) (HS.out _ HBZ.out HBD.out) ?_; go_frame
      refine AnyT.next (i := 4) (by kernel_rfl) rfl (wpOp_of_list rfl ?_)
      go_wp2_with (go_at_call 18; refine (HROW.out _).mono ?_; rintro e w6 ⟨rv, l, rfl, hRP, hRi, hRl, hRo, hb6⟩; refine Stop.of ?_)
      refine Stop.go ?_
      go_wp2
      obtain ⟨ra, rc, rfl⟩ := ownsRow_slice hRo
      refine ⟨fun _ => HS.out _ (chain HBZ.out hb6) (chain HBD.out hb6), ?_⟩
      refine AnyT.next (i := 7) (by kernel_rfl) rfl (wpOp_of_list rfl ?_)
      go_wp2
      refine ⟨fun _ => HS.out _ (chain HBZ.out hb6) (chain HBD.out hb6), ?_⟩
      refine AnyT.next (i := 8) (by kernel_rfl) rfl (wpOp_of_list rfl ?_)
      go_wp2
      have HB6 := hid (chain HBZ.out hb6)
      have HB36 := hid (chain HBD.out hb6)
      have HBD6 := hid hb6
      have HRP := hid hRP
      have HRI := hid hRi
      have HRO := hid hRo
      have HRL := hid hRl
      clear hb6 hRP hRi hRo hRl
      obtain ⟨w7, hw7⟩ : ∃ w7, w7 = w6.alloc (.cells #[.slice ra l.length rc, .int .i64 lo, .int .i64 hi] 36) := ⟨_, rfl⟩
      have hb67 : Below w6.heap.size w6 w7 := by rw [hw7]; exact (Below.refl _ _).alloc (Nat.le_refl _) _
      refine ⟨fun _ => by have := HS.out w7 (chain HB6.out hb67) (chain HB36.out hb67); rw [hw7] at this; exact this, ?_⟩
      refine AnyT.next (i := 9) (by kernel_rfl) rfl (wpOp_of_list rfl ?_)
      obtain ⟨xs, ho, hgS, he⟩ := HCL.out.below HB6.out
      rw [← HK.out] at ho
      obtain ⟨i0, hi0, hz0, hz1, hz2⟩ := info_parts info_cell
      have hs1 := HS1.out
      have hzz := HZ.out
      have hz6 := HB6.out.size
      refine wpList_append_lies _ rfl (.tmp 38) (.tmp 46) 24 rfl w.heap.size 36 i0 (.agg #[.slice none 0 0, .int .i64 0, .int .i64 0]) 3 40 Tryd.underlying24 hi0 hz0 hz1 hz2 rfl (by decide) (.slice va k vc) k xs rfl (ho.alloc _) ⟨w6.heap.size, 0, none⟩ 1 1 [.slice ra l.length rc, .int .i64 lo, .int .i64 hi] rfl rfl (news3B w6 _ _ _ _ _ rfl) (by intro u hu; simp at hu; rcases hu with rfl | rfl | rfl <;> rfl) (by decide) (by unfold maxLen; omega) (by omega) (by simp; omega) _ rfl ?_
      intro g gc w8 own8 g8 hlies hg8
      have hob : ∀ q, (Value.slice va k vc).ownBlock = some q → w1.heap.size + 2 ≤ q ∧ ¬ Sr q ∧ q < Z.heap.size := fun q hq => by
        obtain ⟨xsZ, hoZ, hgZ, _⟩ := HCL.out
        exact ⟨(hgZ q hq).1, (hgZ q hq).2, (hoZ.lt q hq).2⟩
      have hK8 : Keep (fun q => some q ≠ (Value.slice va k vc).ownBlock) Z w8 := (Keep.of_below (chain HB6.out ((Below.refl _ w6).alloc (Nat.le_refl _) _))).trans (Keep.grown g8)
      have hS8 : ∀ q, (Value.slice (some ⟨g, 0, none⟩) (k + 1) gc).ownBlock = some q → w1.heap.size + 2 ≤ q ∧ ¬ Sr q := fun q hq => by
        obtain rfl : g = q := by simpa [Value.ownBlock] using hq
        rcases hlies with h | h
        · exact ⟨(hob g h).1, (hob g h).2.1⟩
        · rw [World.size_alloc] at h
          exact ⟨by omega, fun hs => by have := (HSR.out g hs).2; omega⟩
      have hwdz : Z.heap.size ≤ wd.heap.size := HBZ.out.size
      have hT8 : CelT w8 w.heap.size (fun q => w1.heap.size + 2 ≤ q ∧ ¬ Sr q) (.slice (some ⟨g, 0, none⟩) (k + 1) gc) (acc ++ [⟨l, lo, hi⟩]) := CelT.snoc (f := ⟨l, lo, hi⟩) (u := .slice ra l.length rc) (W := w6) (w1 := w6.alloc (.cells #[.slice ra l.length rc, .int .i64 lo, .int .i64 hi] 36)) (v := .slice va k vc) (by rw [← HK.out]; exact ho) he
        (ElemI.own' HRO.out rfl rfl (by have := HRL.out; have := HY.out.2.2; unfold maxLen; omega) (fun b hb => ⟨by omega, fun hs => by have := (HSR.out b hs).2; omega⟩)) ((Below.refl _ w6).alloc (Nat.le_refl _) _) g8 (by rw [← HK.out]; exact own8) hS8
      have hb8 : Below w.heap.size w w8 := hK8.below HI.out.b HI.out.b.size (fun q hq e => by have := (hob q e.symm).1; omega)
      have o0 := boxB_keep HV0.out hK8 (by intro e; have := (hob _ e.symm).1; omega)
      have o1 := boxB_keep HK1.out hK8 (by intro e; have := (hob _ e.symm).1; omega)
      have o2 := boxB_keep HI.out.e hK8 (by intro e; have := (hob _ e.symm).1; omega)
      have z2 : w8.cell? ⟨Z.heap.size, 2, none⟩ = some (.string t2) := by
        have h1 : w6.heap[Z.heap.size]? = some (.cells #[.string t0, .string t1, .string t2] 9 (0, 0)) := (HB36.out.block _ (Array.getElem?_eq_some_iff.1 HBL.out).1).trans HBL.out
        have h2 := (g8.block Z.heap.size (Nat.lt_of_lt_of_le (Array.getElem?_eq_some_iff.1 h1).1 (by simp)) (by intro e; have := (hob _ e.symm).2.2; omega)).trans (Below.heap_alloc _ _ _ (Array.getElem?_eq_some_iff.1 h1).1)
        have h3 := h2.trans h1
        simp [World.cell?, h3]
      refine And.intro (fun h => ⟨o0.cell, z2⟩) ?_
      have c0 := o0.cell
      have f0 := o0.frozen
      obtain ⟨w9, hw9⟩ : ∃ w9, w9 = w8.setCell ⟨w.heap.size, 0, none⟩ (.slice (some ⟨g, 0, none⟩) (k + 1) gc) := ⟨_, rfl⟩
      have k9 : Keep (fun q => q ≠ w.heap.size) w8 w9 := by rw [hw9]; exact Keep.set w8 _ 0 _
      have n0 : Boxed w9 w.heap.size 24 (.slice (some ⟨g, 0, none⟩) (k + 1) gc) := by rw [hw9]; exact o0.set _
      have hT9 := hT8.keep k9 (S' := fun q => w1.heap.size + 2 ≤ q ∧ ¬ Sr q) fun q hq _ => ⟨by have := hq.1; omega, hq⟩
      have F9 := hid (And.intro n0 (And.intro (boxB_keep o1 k9 (by omega)) (And.intro (boxB_keep o2 k9 (by omega)) (And.intro
        (show Keep (fun q => (q < w1.heap.size + 2 ∧ q ≠ w.heap.size ∧ q ≠ w.heap.size + 1 ∧ q ≠ w.heap.size + 2) ∨ Sr q) Z w9 from (hK8.mono fun q hq e => by
          have := hob q e.symm
          rcases hq with h | h
          · omega
          · exact this.2.1 h).trans (k9.mono fun q hq => by
          rcases hq with h | h
          · exact h.2.1
          · have := (HSR.out q h).1; omega))
        (And.intro hT9 (k9.below hb8 hb8.size fun q hq => by omega))))))
      have HW9 := hid hw9
      clear own8 g8 hlies hg8 hob hK8 hS8 hT8 hb8 o0 o1 o2 z2 hw9 k9 n0 hT9 ho hgS he hs1 hzz hz6 hwdz hw7 hb67 hi0 hz0 hz1 hz2
      refine AnyT.next (i := 10) (by kernel_rfl) rfl (wpOp_of_list rfl ?_)
      go_wp2
      refine ⟨fun h => absurd h (by decide), ?_⟩
      refine AnyT.done (by kernel_rfl) ?_ _
      rw [← HW9.out]
      clear c0 f0
      have HB9 := hid F9.out.2.2.2.2.2
      obtain ⟨a9, c9, e9, hm9, hcs9⟩ := F9.out.2.2.2.2.1.reads
      have hl9 : (acc ++ [(⟨l, lo, hi⟩ : Cel)]).length = k + 1 := by rw [List.length_append, ← HK.out]; rfl
      rw [hl9] at e9 hm9
      cases e9
      have HLST := hid (fun (X : World) (hb : Below w9.heap.size w9 X) => listed_bc X (some ⟨g, 0, none⟩) (k + 1) gc (acc ++ [⟨l, lo, hi⟩]) hl9 hm9 (hcs9.below hb))
      have HNL := hid (HNOL.out l HRP.out)
      have HYL := hid (HYES.out l HRP.out)
      have hsr := hcs9 k (by rw [hl9]; omega)
      have hgk : (acc ++ [(⟨l, lo, hi⟩ : Cel)])[k]'(by rw [hl9]; omega) = ⟨l, lo, hi⟩ := by simp [HK.out]
      rw [hgk] at hsr
      obtain ⟨bb, off, sa, sn, sc, hbe, hblt, q0, q1, q2, q3, q4, q5⟩ := hsr
      cases hbe
      have HQ := hid (fun (X : World) (hb : Below w9.heap.size w9 X) => show X.cell? ⟨g, 0 + k * 3, none⟩ = some (.slice sa sn sc) ∧ X.cell? ⟨g, 0 + k * 3 + 1, none⟩ = some (.int .i64 lo) ∧ X.cell? ⟨g, 0 + k * 3 + 2, none⟩ = some (.int .i64 hi) ∧ X.cell? ⟨w.heap.size, 0, none⟩ = some (.slice (some ⟨g, 0, none⟩) (k + 1) gc) ∧ X.cell? ⟨w.heap.size + 1, 0, none⟩ = some (.int .i64 (k : Nat)) from
        ⟨(hb.cell (p := ⟨g, 0 + k * 3, none⟩) hblt).trans q0, (hb.cell (p := ⟨g, 0 + k * 3 + 1, none⟩) hblt).trans q1, (hb.cell (p := ⟨g, 0 + k * 3 + 2, none⟩) hblt).trans q2, (boxB_below F9.out.1 hb).cell, (boxB_below F9.out.2.1 hb).cell⟩)
      have HWR := hid (fun (hv : listB (acc ++ [(⟨l, lo, hi⟩ : Cel)]) = true) (X : World) (hb : Below w9.heap.size w9 X) => by
        have hc := (list_all hv).2 ⟨l, lo, hi⟩ (by simp)
        exact bwritten_c X ((HX.out.below (chain HB9.out hb)).1) sa sn sc l lo hi q3 (by rw [← q3]; exact hc.2.2.2) (q5.below hb) hc.1 HII.out.1 HII.out.2)
      clear hcs9 hsr hgk q0 q1 q2 q3 q4 q5 hblt hl9 hm9
      rcases HEV0.out with ⟨rfl, _⟩ | ⟨⟨et, ep, rfl⟩, hbad0⟩
      case inr =>
        have HPB := hid (HNOE.out (.inl hbad0))
        clear hbad0
        gi_wp2
        refine ⟨trivial, ?_⟩
        gi_wp2
        refine ⟨trivial, ?_⟩
        gi_wp2
        obtain ⟨wd, hwd⟩ : ∃ wd, wd = w9.drew := ⟨_, rfl⟩
        have HWD := hid hwd
        have hbd : Below w9.heap.size w9 wd := by rw [hwd]; exact (Below.refl _ w9).drew
        have y0 := boxB_below F9.out.1 hbd
        have y1 := boxB_below F9.out.2.1 hbd
        have y2 := boxB_below F9.out.2.2.1 hbd
        have hkz : Keep (fun q => (q < w1.heap.size + 2 ∧ q ≠ w.heap.size ∧ q ≠ w.heap.size + 1 ∧ q ≠ w.heap.size + 2) ∨ Sr q) Z wd := F9.out.2.2.2.1.trans (Keep.of_below hbd)
        have hPT := HPB.out
        clear hwd hbd
        obtain ⟨Z4, hZ4⟩ : ∃ Z4, Z4 = ((wd.setCell ⟨w.heap.size, 0, none⟩ (.slice none 0 0)).setCell ⟨w.heap.size + 1, 0, none⟩ (.int .i64 (k : Nat))).setCell ⟨w.heap.size + 2, 0, none⟩ (.int .i64 2) := ⟨_, rfl⟩
        have HX4 := hid (three_set y0 y1 y2 (.slice none 0 0) (.int .i64 (k : Nat)) (.int .i64 2) Z4 hZ4)
        have k1 := Keep.set wd w.heap.size 0 (.slice none 0 0)
        have k2 := Keep.set (wd.setCell ⟨w.heap.size, 0, none⟩ (.slice none 0 0)) (w.heap.size + 1) 0 (.int .i64 (k : Nat))
        have d0 := y0.cell
        have e0 := y0.frozen
        have q1 := boxB_keep y1 k1 (by omega)
        have d1 := q1.cell
        have e1 := q1.frozen
        have q2 := boxB_keep (boxB_keep y2 k1 (by omega)) k2 (by omega)
        have d2 : ((wd.setCell ⟨w.heap.size, 0, none⟩ (.slice none 0 0)).setCell ⟨w.heap.size + 1, 0, none⟩ (.int .i64 (k : Nat))).cell? ⟨w.heap.size + 1 + 1, 0, none⟩ = some (.int .i64 0) := q2.cell
        have e2 : ((wd.setCell ⟨w.heap.size, 0, none⟩ (.slice none 0 0)).setCell ⟨w.heap.size + 1, 0, none⟩ (.int .i64 (k : Nat))).frozen? ⟨w.heap.size + 1 + 1, 0, none⟩ = false := q2.frozen
        have HZ4 := hid (show Z4 = ((wd.setCell ⟨w.heap.size, 0, none⟩ (.slice none 0 0)).setCell ⟨w.heap.size + 1, 0, none⟩ (.int .i64 (k : Nat))).setCell ⟨w.heap.size + 1 + 1, 0, none⟩ (.int .i64 2) from hZ4)
        have C1 := hid y1.cell
        have HKZ := hid hkz
        have HPT := hid hPT
        clear y0 y1 y2 hZ4 k1 k2 q1 q2 hkz hPT
        refine round_region (fun j X => decide (j < 2) = true → X.cell? ⟨w.heap.size + 1, 0, none⟩ = some (.int .i64 (k : Nat))) l' 0 (by kernel_rfl) (by kernel_rfl) (fun ⟨_, _, h⟩ => h) ?_
        rw [← HWD.out]
        refine AnyT.takeD (i := 0) (v := .int .i64 (k : Nat)) rfl rfl (by kernel_rfl) (by kernel_rfl) (by kernel_rfl) (by first | exact (fun _ _ _ h => h) | exact (fun _ _ _ h => absurd h.1 (by simp))) (by kernel_rfl) (by rfl) (by rintro w' hw'; go_simp) C1.out ?_; go_frame
        refine AnyT.next (i := 1) (by kernel_rfl) rfl (wpOp_of_list rfl ?_)
        go_wp2
        refine ⟨fun _ => d1, ?_⟩
        refine AnyT.next (i := 2) (by kernel_rfl) rfl (wpOp_of_list rfl ?_)
        go_wp2
        refine ⟨fun h => absurd h (by decide), ?_⟩
        refine AnyT.next (i := 3) (by kernel_rfl) rfl (wpOp_of_list rfl ?_)
        go_wp2
        refine ⟨fun h => absurd h (by decide), ?_⟩
        refine AnyT.done (by kernel_rfl) ?_ _
        gi_wp2
        rw [← HZ4.out]
        obtain ⟨x0, x1, x2, x3⟩ := HX4.out
        have hs1 := HS1.out
        have hzz := HZ.out
        refine ⟨Nat.le_trans HKZ.out.size x3.size, fun q hq => ?_, ?_⟩
        · have hq2 : (q < w1.heap.size + 2 ∧ q ≠ w.heap.size ∧ q ≠ w.heap.size + 1 ∧ q ≠ w.heap.size + 2) ∨ Sr q := by
            rcases hq with h | h | h | h
            · rw [HFP.out] at h; exact .inl ⟨by omega, by omega, by omega, by omega⟩
            · exact .inl ⟨by omega, by omega, by omega, by omega⟩
            · exact .inl ⟨by omega, by omega, by omega, by omega⟩
            · exact .inr h
          have hqz : q < Z.heap.size := by
            rcases hq2 with h | h
            · omega
            · exact (HSR.out q h).2
          have hqn : q ≠ w.heap.size ∧ q ≠ w.heap.size + 1 ∧ q ≠ w.heap.size + 2 := by
            rcases hq2 with h | h
            · exact h.2
            · have := (HSR.out q h).1; exact ⟨by omega, by omega, by omega⟩
          exact (x3.block q (Nat.lt_of_lt_of_le hqz HKZ.out.size) hqn).trans (HKZ.out.block q hqz hq2)
        · unfold ParX
          rw [HPT.out]
          refine ⟨rfl, x3.below (HKZ.out.below HI.out.b HI.out.b.size fun q hq => .inl ⟨by omega, by omega, by omega, by omega⟩) (Nat.le_trans HI.out.b.size HKZ.out.size) fun q hq => ⟨by omega, by omega, by omega⟩, x0, ?_, x2, rfl⟩
          have := HAL.out
          have := HK.out
          rw [show (([], pre.length, 2) : List Cel × Nat × Int).2.1 = k from by show pre.length = k; omega]
          exact x1

      case inl =>
        rcases HEV1.out with ⟨rfl, _⟩ | ⟨⟨et, ep, rfl⟩, hbad1⟩
        case inr =>
          have HPB := hid (HNOE.out (.inr hbad1))
          clear hbad1
          gi_wp2
          refine ⟨trivial, ?_⟩
          gi_wp2
          refine ⟨trivial, ?_⟩
          gi_wp2
          obtain ⟨wd, hwd⟩ : ∃ wd, wd = w9.drew := ⟨_, rfl⟩
          have HWD := hid hwd
          have hbd : Below w9.heap.size w9 wd := by rw [hwd]; exact (Below.refl _ w9).drew
          have y0 := boxB_below F9.out.1 hbd
          have y1 := boxB_below F9.out.2.1 hbd
          have y2 := boxB_below F9.out.2.2.1 hbd
          have hkz : Keep (fun q => (q < w1.heap.size + 2 ∧ q ≠ w.heap.size ∧ q ≠ w.heap.size + 1 ∧ q ≠ w.heap.size + 2) ∨ Sr q) Z wd := F9.out.2.2.2.1.trans (Keep.of_below hbd)
          have hPT := HPB.out
          clear hwd hbd
          obtain ⟨Z4, hZ4⟩ : ∃ Z4, Z4 = ((wd.setCell ⟨w.heap.size, 0, none⟩ (.slice none 0 0)).setCell ⟨w.heap.size + 1, 0, none⟩ (.int .i64 (k : Nat))).setCell ⟨w.heap.size + 2, 0, none⟩ (.int .i64 2) := ⟨_, rfl⟩
          have HX4 := hid (three_set y0 y1 y2 (.slice none 0 0) (.int .i64 (k : Nat)) (.int .i64 2) Z4 hZ4)
          have k1 := Keep.set wd w.heap.size 0 (.slice none 0 0)
          have k2 := Keep.set (wd.setCell ⟨w.heap.size, 0, none⟩ (.slice none 0 0)) (w.heap.size + 1) 0 (.int .i64 (k : Nat))
          have d0 := y0.cell
          have e0 := y0.frozen
          have q1 := boxB_keep y1 k1 (by omega)
          have d1 := q1.cell
          have e1 := q1.frozen
          have q2 := boxB_keep (boxB_keep y2 k1 (by omega)) k2 (by omega)
          have d2 : ((wd.setCell ⟨w.heap.size, 0, none⟩ (.slice none 0 0)).setCell ⟨w.heap.size + 1, 0, none⟩ (.int .i64 (k : Nat))).cell? ⟨w.heap.size + 1 + 1, 0, none⟩ = some (.int .i64 0) := q2.cell
          have e2 : ((wd.setCell ⟨w.heap.size, 0, none⟩ (.slice none 0 0)).setCell ⟨w.heap.size + 1, 0, none⟩ (.int .i64 (k : Nat))).frozen? ⟨w.heap.size + 1 + 1, 0, none⟩ = false := q2.frozen
          have HZ4 := hid (show Z4 = ((wd.setCell ⟨w.heap.size, 0, none⟩ (.slice none 0 0)).setCell ⟨w.heap.size + 1, 0, none⟩ (.int .i64 (k : Nat))).setCell ⟨w.heap.size + 1 + 1, 0, none⟩ (.int .i64 2) from hZ4)
          have C1 := hid y1.cell
          have HKZ := hid hkz
          have HPT := hid hPT
          clear y0 y1 y2 hZ4 k1 k2 q1 q2 hkz hPT
          refine round_region (fun j X => decide (j < 2) = true → X.cell? ⟨w.heap.size + 1, 0, none⟩ = some (.int .i64 (k : Nat))) l' 0 (by kernel_rfl) (by kernel_rfl) (fun ⟨_, _, h⟩ => h) ?_
          rw [← HWD.out]
          refine AnyT.takeD (i := 0) (v := .int .i64 (k : Nat)) rfl rfl (by kernel_rfl) (by kernel_rfl) (by kernel_rfl) (by first | exact (fun _ _ _ h => h) | exact (fun _ _ _ h => absurd h.1 (by simp))) (by kernel_rfl) (by rfl) (by rintro w' hw'; go_simp) C1.out ?_; go_frame
          refine AnyT.next (i := 1) (by kernel_rfl) rfl (wpOp_of_list rfl ?_)
          go_wp2
          refine ⟨fun _ => d1, ?_⟩
          refine AnyT.next (i := 2) (by kernel_rfl) rfl (wpOp_of_list rfl ?_)
          go_wp2
          refine ⟨fun h => absurd h (by decide), ?_⟩
          refine AnyT.next (i := 3) (by kernel_rfl) rfl (wpOp_of_list rfl ?_)
          go_wp2
          refine ⟨fun h => absurd h (by decide), ?_⟩
          refine AnyT.done (by kernel_rfl) ?_ _
          gi_wp2
          rw [← HZ4.out]
          obtain ⟨x0, x1, x2, x3⟩ := HX4.out
          have hs1 := HS1.out
          have hzz := HZ.out
          refine ⟨Nat.le_trans HKZ.out.size x3.size, fun q hq => ?_, ?_⟩
          · have hq2 : (q < w1.heap.size + 2 ∧ q ≠ w.heap.size ∧ q ≠ w.heap.size + 1 ∧ q ≠ w.heap.size + 2) ∨ Sr q := by
              rcases hq with h | h | h | h
              · rw [HFP.out] at h; exact .inl ⟨by omega, by omega, by omega, by omega⟩
              · exact .inl ⟨by omega, by omega, by omega, by omega⟩
              · exact .inl ⟨by omega, by omega, by omega, by omega⟩
              · exact .inr h
            have hqz : q < Z.heap.size := by
              rcases hq2 with h | h
              · omega
              · exact (HSR.out q h).2
            have hqn : q ≠ w.heap.size ∧ q ≠ w.heap.size + 1 ∧ q ≠ w.heap.size + 2 := by
              rcases hq2 with h | h
              · exact h.2
              · have := (HSR.out q h).1; exact ⟨by omega, by omega, by omega⟩
            exact (x3.block q (Nat.lt_of_lt_of_le hqz HKZ.out.size) hqn).trans (HKZ.out.block q hqz hq2)
          · unfold ParX
            rw [HPT.out]
            refine ⟨rfl, x3.below (HKZ.out.below HI.out.b HI.out.b.size fun q hq => .inl ⟨by omega, by omega, by omega, by omega⟩) (Nat.le_trans HI.out.b.size HKZ.out.size) fun q hq => ⟨by omega, by omega, by omega⟩, x0, ?_, x2, rfl⟩
            have := HAL.out
            have := HK.out
            rw [show (([], pre.length, 2) : List Cel × Nat × Int).2.1 = k from by show pre.length = k; omega]
            exact x1

        case inl =>
          obtain ⟨vb, hvb⟩ : ∃ b, b = listB (acc ++ [(⟨l, lo, hi⟩ : Cel)]) := ⟨_, rfl⟩
          rw [← hvb] at HLST HNL HYL HWR
          have HSB := hid (show vb = true → k + 1 ≤ 30 from fun h => by
            have := stepB_bound (hvb.symm.trans h)
            rw [List.length_append, ← HK.out] at this
            exact this)
          clear hvb
          cases vb with
          | false =>
            have HPB := hid (HNL.out (by simp))
            have g4 := F9.out.1.cell
            gi_wp2_with (refine ⟨trivial, rfl, ?_⟩; gi_at_call 19; refine (CallsIn.inRound l' (callsIn_wide.2 (HLST.out _ (Below.refl _ _)))).mono ?_; rintro e w10 ⟨rfl, hb10⟩; refine Stop.of ?_)
            refine Stop.go ?_
            clear g4
            gi_wp2
            refine ⟨trivial, ?_⟩
            gi_wp2
            obtain ⟨wd, hwd⟩ : ∃ wd, wd = w10.drew := ⟨_, rfl⟩
            have HWD := hid hwd
            have hbd : Below w9.heap.size w9 wd := by rw [hwd]; exact (hb10).drew
            have y0 := boxB_below F9.out.1 hbd
            have y1 := boxB_below F9.out.2.1 hbd
            have y2 := boxB_below F9.out.2.2.1 hbd
            have hkz : Keep (fun q => (q < w1.heap.size + 2 ∧ q ≠ w.heap.size ∧ q ≠ w.heap.size + 1 ∧ q ≠ w.heap.size + 2) ∨ Sr q) Z wd := F9.out.2.2.2.1.trans (Keep.of_below hbd)
            have hPT := HPB.out
            clear hwd hbd
            obtain ⟨Z4, hZ4⟩ : ∃ Z4, Z4 = ((wd.setCell ⟨w.heap.size, 0, none⟩ (.slice none 0 0)).setCell ⟨w.heap.size + 1, 0, none⟩ (.int .i64 (k : Nat))).setCell ⟨w.heap.size + 2, 0, none⟩ (.int .i64 2) := ⟨_, rfl⟩
            have HX4 := hid (three_set y0 y1 y2 (.slice none 0 0) (.int .i64 (k : Nat)) (.int .i64 2) Z4 hZ4)
            have k1 := Keep.set wd w.heap.size 0 (.slice none 0 0)
            have k2 := Keep.set (wd.setCell ⟨w.heap.size, 0, none⟩ (.slice none 0 0)) (w.heap.size + 1) 0 (.int .i64 (k : Nat))
            have d0 := y0.cell
            have e0 := y0.frozen
            have q1 := boxB_keep y1 k1 (by omega)
            have d1 := q1.cell
            have e1 := q1.frozen
            have q2 := boxB_keep (boxB_keep y2 k1 (by omega)) k2 (by omega)
            have d2 : ((wd.setCell ⟨w.heap.size, 0, none⟩ (.slice none 0 0)).setCell ⟨w.heap.size + 1, 0, none⟩ (.int .i64 (k : Nat))).cell? ⟨w.heap.size + 1 + 1, 0, none⟩ = some (.int .i64 0) := q2.cell
            have e2 : ((wd.setCell ⟨w.heap.size, 0, none⟩ (.slice none 0 0)).setCell ⟨w.heap.size + 1, 0, none⟩ (.int .i64 (k : Nat))).frozen? ⟨w.heap.size + 1 + 1, 0, none⟩ = false := q2.frozen
            have HZ4 := hid (show Z4 = ((wd.setCell ⟨w.heap.size, 0, none⟩ (.slice none 0 0)).setCell ⟨w.heap.size + 1, 0, none⟩ (.int .i64 (k : Nat))).setCell ⟨w.heap.size + 1 + 1, 0, none⟩ (.int .i64 2) from hZ4)
            have C1 := hid y1.cell
            have HKZ := hid hkz
            have HPT := hid hPT
            clear y0 y1 y2 hZ4 k1 k2 q1 q2 hkz hPT
            refine round_region (fun j X => decide (j < 2) = true → X.cell? ⟨w.heap.size + 1, 0, none⟩ = some (.int .i64 (k : Nat))) l' 0 (by kernel_rfl) (by kernel_rfl) (fun ⟨_, _, h⟩ => h) ?_
            rw [← HWD.out]
            refine AnyT.takeD (i := 0) (v := .int .i64 (k : Nat)) rfl rfl (by kernel_rfl) (by kernel_rfl) (by kernel_rfl) (by first | exact (fun _ _ _ h => h) | exact (fun _ _ _ h => absurd h.1 (by simp))) (by kernel_rfl) (by rfl) (by rintro w' hw'; go_simp) C1.out ?_; go_frame
            refine AnyT.next (i := 1) (by kernel_rfl) rfl (wpOp_of_list rfl ?_)
            go_wp2
            refine ⟨fun _ => d1, ?_⟩
            refine AnyT.next (i := 2) (by kernel_rfl) rfl (wpOp_of_list rfl ?_)
            go_wp2
            refine ⟨fun h => absurd h (by decide), ?_⟩
            refine AnyT.next (i := 3) (by kernel_rfl) rfl (wpOp_of_list rfl ?_)
            go_wp2
            refine ⟨fun h => absurd h (by decide), ?_⟩
            refine AnyT.done (by kernel_rfl) ?_ _
            gi_wp2
            rw [← HZ4.out]
            obtain ⟨x0, x1, x2, x3⟩ := HX4.out
            have hs1 := HS1.out
            have hzz := HZ.out
            refine ⟨Nat.le_trans HKZ.out.size x3.size, fun q hq => ?_, ?_⟩
            · have hq2 : (q < w1.heap.size + 2 ∧ q ≠ w.heap.size ∧ q ≠ w.heap.size + 1 ∧ q ≠ w.heap.size + 2) ∨ Sr q := by
                rcases hq with h | h | h | h
                · rw [HFP.out] at h; exact .inl ⟨by omega, by omega, by omega, by omega⟩
                · exact .inl ⟨by omega, by omega, by omega, by omega⟩
                · exact .inl ⟨by omega, by omega, by omega, by omega⟩
                · exact .inr h
              have hqz : q < Z.heap.size := by
                rcases hq2 with h | h
                · omega
                · exact (HSR.out q h).2
              have hqn : q ≠ w.heap.size ∧ q ≠ w.heap.size + 1 ∧ q ≠ w.heap.size + 2 := by
                rcases hq2 with h | h
                · exact h.2
                · have := (HSR.out q h).1; exact ⟨by omega, by omega, by omega⟩
              exact (x3.block q (Nat.lt_of_lt_of_le hqz HKZ.out.size) hqn).trans (HKZ.out.block q hqz hq2)
            · unfold ParX
              rw [HPT.out]
              refine ⟨rfl, x3.below (HKZ.out.below HI.out.b HI.out.b.size fun q hq => .inl ⟨by omega, by omega, by omega, by omega⟩) (Nat.le_trans HI.out.b.size HKZ.out.size) fun q hq => ⟨by omega, by omega, by omega⟩, x0, ?_, x2, rfl⟩
              have := HAL.out
              have := HK.out
              rw [show (([], pre.length, 2) : List Cel × Nat × Int).2.1 = k from by show pre.length = k; omega]
              exact x1

          | true =>
            have g4 := F9.out.1.cell
            gi_wp2_with (refine ⟨trivial, rfl, ?_⟩; gi_at_call 19; refine (CallsIn.inRound l' (callsIn_wide.2 (HLST.out _ (Below.refl _ _)))).mono ?_; rintro e w10 ⟨rfl, hb10⟩; refine Stop.of ?_)
            refine Stop.go ?_
            clear g4
            obtain ⟨g0, g1, g2, g3, g4⟩ := HQ.out w10 hb10
            simp only [Nat.zero_add] at g0 g1 g2
            have HWR2 := hid (HWR.out (by first | rfl | trivial) w10 hb10)
            have HSB2 := HSB.out (by first | rfl | trivial)
            obtain ⟨Z5, hZ5⟩ : ∃ Z5 : ByteArray, Z5 = ⟨(lineCL ⟨l, lo, hi⟩).toArray⟩ := ⟨_, rfl⟩
            rw [← hZ5] at HWR2
            have hZd : Z5.data.toList = lineCL ⟨l, lo, hi⟩ := by rw [hZ5]
            have HZD := hid hZd
            have HB10 := hid hb10
            clear hZ5 hZd hb10
            have k0 : (k : Int) < ((k + 1 : Nat) : Int) := by omega
            have k00 : (0 : Int) ≤ (k : Int) := by omega
            gi_wp2_with (refine ⟨trivial, rfl, ?_⟩; gi_at_call 20; refine (CallsIn.inRound l' (callsIn_wide.2 HWR2.out)).mono ?_; rintro e w11 ⟨rfl, hb11⟩; refine Stop.of ?_)
            refine Stop.go ?_
            clear g0 g1 g2 g3 g4
            have HB11 := hid (chain HB10.out hb11)
            clear hb11
            by_cases hle : Z5.data.toList = x'.data.toList
            · have hq : Z5.toList = x'.toList := by rw [Lib.toList_data, Lib.toList_data, hle]
              have HREAD := hid (HYL.out (by first | rfl | trivial) (by rw [← HZD.out]; exact hle))
              have n1 := boxB_below F9.out.2.1 HB11.out
              have r1 := n1.cell
              have f1 := n1.frozen
              obtain ⟨w12, hw12⟩ : ∃ w12, w12 = w11.setCell ⟨w.heap.size + 1, 0, none⟩ (.int .i64 ((k : Int) + 1)) := ⟨_, rfl⟩
              have k12 : Keep (fun q => q ≠ w.heap.size + 1) w11 w12 := by rw [hw12]; exact Keep.set w11 _ 0 _
              have n12 : Boxed w12 (w.heap.size + 1) 3 (.int .i64 ((k : Int) + 1)) := by rw [hw12]; exact n1.set _
              have X12 := hid (And.intro n12 k12)
              have HW12 := hid hw12
              clear hle n1 hw12 k12 n12
              gi_wp2
              rw [← HW12.out]
              obtain ⟨n12, k12⟩ := X12.out
              have hs1 := HS1.out
              have hzz := HZ.out
              have kz : Keep (fun q => (q < w1.heap.size + 2 ∧ q ≠ w.heap.size ∧ q ≠ w.heap.size + 1 ∧ q ≠ w.heap.size + 2) ∨ Sr q) Z w12 := (F9.out.2.2.2.1.trans (Keep.of_below HB11.out)).trans (k12.mono fun q hq => by
                rcases hq with h | h
                · exact h.2.2.1
                · have := (HSR.out q h).1; omega)
              refine ⟨kz.size, fun q hq => ?_, ?_⟩
              · have hq2 : (q < w1.heap.size + 2 ∧ q ≠ w.heap.size ∧ q ≠ w.heap.size + 1 ∧ q ≠ w.heap.size + 2) ∨ Sr q := by
                  rcases hq with h | h | h | h
                  · rw [HFP.out] at h; exact .inl ⟨by omega, by omega, by omega, by omega⟩
                  · exact .inl ⟨by omega, by omega, by omega, by omega⟩
                  · exact .inl ⟨by omega, by omega, by omega, by omega⟩
                  · exact .inr h
                have hqz : q < Z.heap.size := by
                  rcases hq2 with h | h
                  · omega
                  · exact (HSR.out q h).2
                exact kz.block q hqz hq2
              · refine ⟨kz.below HI.out.b HI.out.b.size fun q hq => .inl ⟨by omega, by omega, by omega, by omega⟩, Nat.le_trans hzz kz.size, boxB_keep (boxB_below F9.out.2.2.1 HB11.out) k12 (by omega), ?_, _, _, boxB_keep (boxB_below F9.out.1 HB11.out) k12 (by omega), (F9.out.2.2.2.2.1.below HB11.out).keep k12 fun q hq _ => ⟨by have := hq.1; omega, hq⟩, HREAD.out⟩
                have hkk : ((pre ++ [x']).length : Int) = (k : Int) + 1 := by have := HAL.out; have := HK.out; simp; omega
                rw [hkk]; exact n12
            · have hq : ¬ Z5.toList = x'.toList := by rw [Lib.toList_data, Lib.toList_data]; exact hle
              have hq2 : (Z5.toList == x'.toList) = false := by simpa using hq
              have hq3 : (Z5.toList != x'.toList) = true := by simpa using hq
              have HPB := hid (HNL.out (fun h => hle (by rw [HZD.out]; exact h.2)))
              clear hle
              gi_wp2
              obtain ⟨wd, hwd⟩ : ∃ wd, wd = w11.drew := ⟨_, rfl⟩
              have HWD := hid hwd
              have hbd : Below w9.heap.size w9 wd := by rw [hwd]; exact (HB11.out).drew
              have y0 := boxB_below F9.out.1 hbd
              have y1 := boxB_below F9.out.2.1 hbd
              have y2 := boxB_below F9.out.2.2.1 hbd
              have hkz : Keep (fun q => (q < w1.heap.size + 2 ∧ q ≠ w.heap.size ∧ q ≠ w.heap.size + 1 ∧ q ≠ w.heap.size + 2) ∨ Sr q) Z wd := F9.out.2.2.2.1.trans (Keep.of_below hbd)
              have hPT := HPB.out
              clear hwd hbd
              obtain ⟨Z4, hZ4⟩ : ∃ Z4, Z4 = ((wd.setCell ⟨w.heap.size, 0, none⟩ (.slice none 0 0)).setCell ⟨w.heap.size + 1, 0, none⟩ (.int .i64 (k : Nat))).setCell ⟨w.heap.size + 2, 0, none⟩ (.int .i64 2) := ⟨_, rfl⟩
              have HX4 := hid (three_set y0 y1 y2 (.slice none 0 0) (.int .i64 (k : Nat)) (.int .i64 2) Z4 hZ4)
              have k1 := Keep.set wd w.heap.size 0 (.slice none 0 0)
              have k2 := Keep.set (wd.setCell ⟨w.heap.size, 0, none⟩ (.slice none 0 0)) (w.heap.size + 1) 0 (.int .i64 (k : Nat))
              have d0 := y0.cell
              have e0 := y0.frozen
              have q1 := boxB_keep y1 k1 (by omega)
              have d1 := q1.cell
              have e1 := q1.frozen
              have q2 := boxB_keep (boxB_keep y2 k1 (by omega)) k2 (by omega)
              have d2 : ((wd.setCell ⟨w.heap.size, 0, none⟩ (.slice none 0 0)).setCell ⟨w.heap.size + 1, 0, none⟩ (.int .i64 (k : Nat))).cell? ⟨w.heap.size + 1 + 1, 0, none⟩ = some (.int .i64 0) := q2.cell
              have e2 : ((wd.setCell ⟨w.heap.size, 0, none⟩ (.slice none 0 0)).setCell ⟨w.heap.size + 1, 0, none⟩ (.int .i64 (k : Nat))).frozen? ⟨w.heap.size + 1 + 1, 0, none⟩ = false := q2.frozen
              have HZ4 := hid (show Z4 = ((wd.setCell ⟨w.heap.size, 0, none⟩ (.slice none 0 0)).setCell ⟨w.heap.size + 1, 0, none⟩ (.int .i64 (k : Nat))).setCell ⟨w.heap.size + 1 + 1, 0, none⟩ (.int .i64 2) from hZ4)
              have C1 := hid y1.cell
              have HKZ := hid hkz
              have HPT := hid hPT
              clear y0 y1 y2 hZ4 k1 k2 q1 q2 hkz hPT
              refine round_region (fun j X => decide (j < 2) = true → X.cell? ⟨w.heap.size + 1, 0, none⟩ = some (.int .i64 (k : Nat))) l' 0 (by kernel_rfl) (by kernel_rfl) (fun ⟨_, _, h⟩ => h) ?_
              rw [← HWD.out]
              refine AnyT.takeD (i := 0) (v := .int .i64 (k : Nat)) rfl rfl (by kernel_rfl) (by kernel_rfl) (by kernel_rfl) (by first | exact (fun _ _ _ h => h) | exact (fun _ _ _ h => absurd h.1 (by simp))) (by kernel_rfl) (by rfl) (by rintro w' hw'; go_simp) C1.out ?_; go_frame
              refine AnyT.next (i := 1) (by kernel_rfl) rfl (wpOp_of_list rfl ?_)
              go_wp2
              refine ⟨fun _ => d1, ?_⟩
              refine AnyT.next (i := 2) (by kernel_rfl) rfl (wpOp_of_list rfl ?_)
              go_wp2
              refine ⟨fun h => absurd h (by decide), ?_⟩
              refine AnyT.next (i := 3) (by kernel_rfl) rfl (wpOp_of_list rfl ?_)
              go_wp2
              refine ⟨fun h => absurd h (by decide), ?_⟩
              refine AnyT.done (by kernel_rfl) ?_ _
              gi_wp2
              rw [← HZ4.out]
              obtain ⟨x0, x1, x2, x3⟩ := HX4.out
              have hs1 := HS1.out
              have hzz := HZ.out
              refine ⟨Nat.le_trans HKZ.out.size x3.size, fun q hq => ?_, ?_⟩
              · have hq2 : (q < w1.heap.size + 2 ∧ q ≠ w.heap.size ∧ q ≠ w.heap.size + 1 ∧ q ≠ w.heap.size + 2) ∨ Sr q := by
                  rcases hq with h | h | h | h
                  · rw [HFP.out] at h; exact .inl ⟨by omega, by omega, by omega, by omega⟩
                  · exact .inl ⟨by omega, by omega, by omega, by omega⟩
                  · exact .inl ⟨by omega, by omega, by omega, by omega⟩
                  · exact .inr h
                have hqz : q < Z.heap.size := by
                  rcases hq2 with h | h
                  · omega
                  · exact (HSR.out q h).2
                have hqn : q ≠ w.heap.size ∧ q ≠ w.heap.size + 1 ∧ q ≠ w.heap.size + 2 := by
                  rcases hq2 with h | h
                  · exact h.2
                  · have := (HSR.out q h).1; exact ⟨by omega, by omega, by omega⟩
                exact (x3.block q (Nat.lt_of_lt_of_le hqz HKZ.out.size) hqn).trans (HKZ.out.block q hqz hq2)
              · unfold ParX
                rw [HPT.out]
                refine ⟨rfl, x3.below (HKZ.out.below HI.out.b HI.out.b.size fun q hq => .inl ⟨by omega, by omega, by omega, by omega⟩) (Nat.le_trans HI.out.b.size HKZ.out.size) fun q hq => ⟨by omega, by omega, by omega⟩, x0, ?_, x2, rfl⟩
                have := HAL.out
                have := HK.out
                rw [show (([], pre.length, 2) : List Cel × Nat × Int).2.1 = k from by show pre.length = k; omega]
                exact x1

    · have hL3' : ((L.length : Int) != 3) = true := by simp; omega
      have hPT := HHE.out (by omega)
      clear hb3 hL
      gi_wp2
      have hbd : Below Z.heap.size Z w3.drew := HB3.out.drew
      --A
      obtain ⟨wd, hwd⟩ : ∃ wd, wd = w3.drew := ⟨_, rfl⟩
      have HWD := hid hwd
      rw [← hwd] at hbd
      clear hwd
      have y0 := boxB_below HV0.out hbd
      have y1 := boxB_below HK1.out hbd
      have y2 := boxB_below HI.out.e hbd
      have hkz : Keep (fun q => (q < w1.heap.size + 2 ∧ q ≠ w.heap.size ∧ q ≠ w.heap.size + 1 ∧ q ≠ w.heap.size + 2) ∨ Sr q) Z wd := Keep.of_below hbd
      clear hbd
      obtain ⟨Z4, hZ4⟩ : ∃ Z4, Z4 = ((wd.setCell ⟨w.heap.size, 0, none⟩ (.slice none 0 0)).setCell ⟨w.heap.size + 1, 0, none⟩ (.int .i64 (k : Nat))).setCell ⟨w.heap.size + 2, 0, none⟩ (.int .i64 2) := ⟨_, rfl⟩
      have HX4 := hid (three_set y0 y1 y2 (.slice none 0 0) (.int .i64 (k : Nat)) (.int .i64 2) Z4 hZ4)
      have k1 := Keep.set wd w.heap.size 0 (.slice none 0 0)
      have k2 := Keep.set (wd.setCell ⟨w.heap.size, 0, none⟩ (.slice none 0 0)) (w.heap.size + 1) 0 (.int .i64 (k : Nat))
      have d0 := y0.cell
      have e0 := y0.frozen
      have q1 := boxB_keep y1 k1 (by omega)
      have d1 := q1.cell
      have e1 := q1.frozen
      have q2 := boxB_keep (boxB_keep y2 k1 (by omega)) k2 (by omega)
      have d2 : ((wd.setCell ⟨w.heap.size, 0, none⟩ (.slice none 0 0)).setCell ⟨w.heap.size + 1, 0, none⟩ (.int .i64 (k : Nat))).cell? ⟨w.heap.size + 1 + 1, 0, none⟩ = some (.int .i64 0) := q2.cell
      have e2 : ((wd.setCell ⟨w.heap.size, 0, none⟩ (.slice none 0 0)).setCell ⟨w.heap.size + 1, 0, none⟩ (.int .i64 (k : Nat))).frozen? ⟨w.heap.size + 1 + 1, 0, none⟩ = false := q2.frozen
      have HZ4 := hid (show Z4 = ((wd.setCell ⟨w.heap.size, 0, none⟩ (.slice none 0 0)).setCell ⟨w.heap.size + 1, 0, none⟩ (.int .i64 (k : Nat))).setCell ⟨w.heap.size + 1 + 1, 0, none⟩ (.int .i64 2) from hZ4)
      have C1 := hid y1.cell
      have HKZ := hid hkz
      have HPT := hid hPT
      clear y0 y1 y2 hZ4 k1 k2 q1 q2 hkz hPT
      refine round_region (fun j X => decide (j < 2) = true → X.cell? ⟨w.heap.size + 1, 0, none⟩ = some (.int .i64 (k : Nat))) l' 0 (by kernel_rfl) (by kernel_rfl) (fun ⟨_, _, h⟩ => h) ?_
      rw [← HWD.out]
      refine AnyT.takeD (i := 0) (v := .int .i64 (k : Nat)) rfl rfl (by kernel_rfl) (by kernel_rfl) (by kernel_rfl) (by first | exact (fun _ _ _ h => h) | exact (fun _ _ _ h => absurd h.1 (by simp))) (by kernel_rfl) (by rfl) (by rintro w' hw'; go_simp) C1.out ?_; go_frame
      refine AnyT.next (i := 1) (by kernel_rfl) rfl (wpOp_of_list rfl ?_)
      go_wp2
      refine ⟨fun _ => d1, ?_⟩
      refine AnyT.next (i := 2) (by kernel_rfl) rfl (wpOp_of_list rfl ?_)
      go_wp2
      refine ⟨fun h => absurd h (by decide), ?_⟩
      refine AnyT.next (i := 3) (by kernel_rfl) rfl (wpOp_of_list rfl ?_)
      go_wp2
      refine ⟨fun h => absurd h (by decide), ?_⟩
      refine AnyT.done (by kernel_rfl) ?_ _
      gi_wp2
      rw [← HZ4.out]
      obtain ⟨x0, x1, x2, x3⟩ := HX4.out
      have hs1 := HS1.out
      have hzz := HZ.out
      refine ⟨Nat.le_trans HKZ.out.size x3.size, fun q hq => ?_, ?_⟩
      · have hq2 : (q < w1.heap.size + 2 ∧ q ≠ w.heap.size ∧ q ≠ w.heap.size + 1 ∧ q ≠ w.heap.size + 2) ∨ Sr q := by
          rcases hq with h | h | h | h
          · rw [HFP.out] at h; exact .inl ⟨by omega, by omega, by omega, by omega⟩
          · exact .inl ⟨by omega, by omega, by omega, by omega⟩
          · exact .inl ⟨by omega, by omega, by omega, by omega⟩
          · exact .inr h
        have hqz : q < Z.heap.size := by
          rcases hq2 with h | h
          · omega
          · exact (HSR.out q h).2
        have hqn : q ≠ w.heap.size ∧ q ≠ w.heap.size + 1 ∧ q ≠ w.heap.size + 2 := by
          rcases hq2 with h | h
          · exact h.2
          · have := (HSR.out q h).1; exact ⟨by omega, by omega, by omega⟩
        exact (x3.block q (Nat.lt_of_lt_of_le hqz HKZ.out.size) hqn).trans (HKZ.out.block q hqz hq2)
      · unfold ParX
        rw [HPT.out]
        refine ⟨rfl, x3.below (HKZ.out.below HI.out.b HI.out.b.size fun q hq => .inl ⟨by omega, by omega, by omega, by omega⟩) (Nat.le_trans HI.out.b.size HKZ.out.size) fun q hq => ⟨by omega, by omega, by omega⟩, x0, ?_, x2, rfl⟩
        have := HAL.out
        have := HK.out
        rw [show (([], pre.length, 2) : List Cel × Nat × Int).2.1 = k from by show pre.length = k; omega]
        exact x1
  case hdone =>
    intro Sr Z hZ hSr hI hmk
    obtain ⟨v, acc, h0, h1, h2⟩ := hI.o
    obtain ⟨va, vc, rfl⟩ := h1.slice
    have hp := HOK.out acc h2
    have c0 := h0.cell
    have c1 := hI.k.cell
    have c2 : Z.cell? ⟨w.heap.size + 1 + 1, 0, none⟩ = some (.int .i64 0) := hI.e.cell
    have f0 := h0.frozen
    have f1 := hI.k.frozen
    have f2 : Z.frozen? ⟨w.heap.size + 1 + 1, 0, none⟩ = false := hI.e.frozen
    obtain ⟨Z4, hZ4⟩ : ∃ Z4, Z4 = ((Z.setCell ⟨w.heap.size, 0, none⟩ (.slice va acc.length vc)).setCell ⟨w.heap.size + 1, 0, none⟩ (.int .i64 0)).setCell ⟨w.heap.size + 2, 0, none⟩ (.int .i64 0) := ⟨_, rfl⟩
    have HX4 := hid (three_set h0 hI.k hI.e (.slice va acc.length vc) (.int .i64 0) (.int .i64 0) Z4 hZ4)
    have HZ4 := hid hZ4
    have HI := hid hI
    have HMK := hid hmk
    have HC := hid h1
    have HP := hid hp
    clear hZ4 hI hmk h0 h1 h2 hp hSr
    gi_wp2
    have e4 : Z4 = (((Z.setCell ⟨w.heap.size, 0, none⟩ (.slice va acc.length vc)).setCell ⟨w.heap.size + 1, 0, none⟩ (.int .i64 0)).setCell ⟨w.heap.size + 1 + 1, 0, none⟩ (.int .i64 0)) := HZ4.out
    rw [← e4]
    obtain ⟨x0, x1, x2, x3⟩ := HX4.out
    have hs1 := HS1.out
    have hmlt := (Array.getElem?_eq_some_iff.1 HMK.out).1
    have hm4 : Z4.heap[w1.heap.size]? = some (.deferred (some [])) := (x3.block _ hmlt (by omega)).trans HMK.out
    refine marks_leave [w1.heap.size] Z4 (by simp) (fun h hh => by rw [List.mem_singleton.1 hh]; exact hm4) fun w' hk => ?_
    have k0 := boxB_keep x0 hk (by simp; omega)
    have k1 := boxB_keep x1 hk (by simp; omega)
    have k2 := boxB_keep x2 hk (by simp; omega)
    have r0 := k0.cell
    have r1 := k1.cell
    have r2 : w'.cell? ⟨w.heap.size + 1 + 1, 0, none⟩ = some (.int .i64 0) := k2.cell
    refine ⟨.tuple #[.slice va acc.length vc, .int .i64 0, .int .i64 0], by simp [results, Tryd.results6, go_sem, r0, r1, r2], .slice va acc.length vc, by rw [HP.out]; rfl, ?_, ?_⟩
    · rw [HP.out]
      exact (HC.out.keep x3 fun q hq _ => ⟨⟨by omega, by omega, by omega⟩, hq⟩).keep hk fun q hq _ => ⟨by simp; omega, trivial⟩
    · exact hk.below (x3.below HI.out.b HI.out.b.size fun k hk => ⟨by omega, by omega, by omega⟩) (Nat.le_trans HI.out.b.size x3.size) fun k hk => by simp; omega
  case hstop =>
    intro Sr c pre Z hpre hSr hI hmk
    obtain ⟨rfl, hb, h0, h1, h2, h3⟩ := hI
    have HMK := hid hmk
    have HB := hid hb
    have HBX := hid (And.intro h0 (And.intro h1 h2))
    clear hmk hpre hSr hb h0 h1 h2
    gi_wp2
    obtain ⟨x0, x1, x2⟩ := HBX.out
    have hs1 := HS1.out
    refine marks_leave [w1.heap.size] Z (by simp) (fun h hh => by rw [List.mem_singleton.1 hh]; exact HMK.out) fun w' hk => ?_
    have k0 := boxB_keep x0 hk (by simp; omega)
    have k1 := boxB_keep x1 hk (by simp; omega)
    have k2 := boxB_keep x2 hk (by simp; omega)
    have r0 := k0.cell
    have r1 := k1.cell
    have r2 : w'.cell? ⟨w.heap.size + 1 + 1, 0, none⟩ = some (.int .i64 PT.2.2) := k2.cell
    refine ⟨.tuple #[.slice none 0 0, .int .i64 (PT.2.1 : Nat), .int .i64 PT.2.2], by simp [results, Tryd.results6, go_sem, r0, r1, r2], .slice none 0 0, rfl, ?_, ?_⟩
    · rw [h3]; exact CelT.nil _ _ _
    · exact hk.below HB.out HB.out.size fun k hk => by simp; omega
end Go.Proofs.YtofcpmfbeobgiaaDoor

namespace Go.Proofs.YtofcpmfbeobgiaaDoor
open Go.RowKit Go.Maps
set_option linter.unusedVariables false

set_option maxRecDepth 100000 in
theorem sameCells_c (w : World) (a b : Option Addr) (n c c' : Nat) (l : List Cel) (hn : l.length = n) (hm : n ≤ maxLen) (H : CellsAt w a l) (H2 : CellsAt w b l) :
    Calls Tryd.prog 8 #[.slice a n c, .slice b n c'] w fun e w' => e = .returned (.bool true) ∧ Below w.heap.size w w' := by
  have HN := hid hn
  have HH := hid H
  have HH2 := hid H2
  clear hn H H2
  unfold maxLen at hm
  go_enter Tryd.func8, Tryd.ntmps8
  go_wp2
  go_loopw [13] (fun i wr => ∃ k : Nat, k ≤ n ∧ i = .int .i64 k ∧ Below w.heap.size w wr) (fun i _ => n - (intOf i).toNat)
  case atStart => exact ⟨0, Nat.zero_le _, rfl, Below.refl _ _⟩
  case round =>
    obtain ⟨k, hk, rfl, hb⟩ := hrel
    by_cases hlt : k < n
    · have hkl : k < l.length := by rw [HN.out]; exact hlt
      obtain ⟨b1, off1, ra, rn, rc, rfl, hbs, h0, h1, h2, hrn, hrm, hri⟩ := HH.out.below hb k hkl
      obtain ⟨b2, off2, ra', rn', rc', rfl, hbs', h0', h1', h2', hrn', hrm', hri'⟩ := HH2.out.below hb k hkl
      have HS := hid (fun X => sameCell_c (lift wr X) (.agg #[.slice ra rn rc, .int .i64 l[k].lo, .int .i64 l[k].hi]) (.agg #[.slice ra' rn' rc', .int .i64 l[k].lo, .int .i64 l[k].hi]) l[k]
        ⟨ra, rn, rc, rfl, hrn, hrm, hri.below (lift_below wr X)⟩ ⟨ra', rn', rc', rfl, hrn', hrm', hri'.below (lift_below wr X)⟩)
      have l0 := lift_cell hbs h0
      have l1 := lift_cell hbs h1
      have l2 := lift_cell hbs h2
      have l3 := lift_cell hbs' h0'
      have l4 := lift_cell hbs' h1'
      have l5 := lift_cell hbs' h2'
      clear hrn hri hrn' hri' h0 h1 h2 h0' h1' h2' hrm hrm'
      go_wp2
      refine region_lift (by kernel_rfl) (by kernel_rfl) ?_
      repeat (go_big_quiet_step ((go_at_call 24; exact lift_calls (HS.out _))))
      refine wpQuiet_nil ?_
      rintro _ ⟨X, rfl⟩
      have hbl := hid (lift_below wr X)
      clear l0 l1 l2 l3 l4 l5 HS
      obtain ⟨w9, hw9⟩ : ∃ w9, w9 = lift wr X := ⟨_, rfl⟩
      rw [← hw9] at hbl ⊢
      clear hw9
      go_wp2
      exact ⟨⟨k + 1, by omega, by go_num, chain hb hbl.out⟩, meas hlt⟩
    · go_wp2
      go_ret
      exact ⟨rfl, hb⟩

end Go.Proofs.YtofcpmfbeobgiaaDoor

namespace Go.Proofs.YtofcpmfbeobgiaaDoor
open Go.RowKit Go.Shelf
set_option linter.unusedVariables false

theorem textB_small {p t : Int} {l : List Cel} (h : okCells p t l = true) : (formatB l).length ≤ 65536 ∧ listB l = true := by
  have hl := list_cells h
  have ha := list_all hl
  refine ⟨?_, hl⟩
  unfold formatB
  rw [if_pos hl]
  have := linesCL_len (t := l) fun x hx => lineCL_len (ha.2 x hx)
  omega

set_option maxRecDepth 100000 in
set_option maxHeartbeats 8000000 in
theorem bitTexts_c (w : World) (hX : TabX w) (p t : Int) (_f0 : -9223372036854775808 ≤ p ∧ p ≤ 9223372036854775807) (_f1 : -9223372036854775808 ≤ t ∧ t ≤ 9223372036854775807) (a1 : Option Addr) (n1 c1 : Nat) (F : List Cel) (hn1 : F.length = n1) (hm1 : n1 ≤ maxLen) (H1 : CellsAt w a1 F) (s : ByteArray) (hs : s.size ≤ 9223372036854775807) :
    Calls Tryd.prog 3 #[.agg #[.int .i64 p, .int .i64 t], .slice a1 n1 c1, .string s] w fun e w' => e = .returned (.bool true) ∧ Below w.heap.size w w' := by
  clear _f0 _f1
  have HFit := hid (fun (X : World) (hb : Below w.heap.size w X) => fit_c X a1 n1 c1 F hn1 hm1 (H1.below hb))
  have HAW := hid (fun X => awake_c X)
  have HP1 := hid (fun (X : World) (hb : Below w.heap.size w X) (t : ByteArray) (ht : t.size ≤ 9223372036854775807) => bParse_c X (hX.below hb) t ht)
  have HP2 := hid (fun (X : World) (hb : Below w.heap.size w X) => b7Parse_c X (hX.below hb) s hs)
  have HF1 := hid (fun (X : World) (hb : Below w.heap.size w X) => bFormat_c X ((hX.below hb).1) a1 n1 c1 F hn1 hm1 (H1.below hb))
  have HF2 := hid (fun (X : World) (hb : Below w.heap.size w X) => b7Format_c X ((hX.below hb).1) a1 n1 c1 F hn1 hm1 (H1.below hb))
  have HVL := hid (fun (X : World) (hb : Below w.heap.size w X) => validCells_c X p t a1 n1 c1 F hn1 hm1 (H1.below hb))
  have HFF := hid (fun (X : World) (hb : Below w.heap.size w X) => H1.below hb)
  have HN1 := hid hn1
  have HM1 := hid hm1
  have HBK := hid (fun (h : okCells p t F = true) => show (formatB F).length ≤ 65536 ∧ parseBF (formatB F) = (F, 0, 0) from ⟨(textB_small h).1, parseBF_back (textB_small h).2 (textB_small h).1⟩)
  obtain ⟨wz, hwz⟩ : ∃ wz, wz = w.alloc (.cells #[.int .i64 p, .int .i64 t] 23) := ⟨_, rfl⟩
  have hbz : Below w.heap.size w wz := by rw [hwz]; exact (Below.refl _ _).alloc (Nat.le_refl _) _
  have HFZ := hid hwz
  have HBZ := hid hbz
  clear hn1 hm1 H1 hX hwz hbz
  go_enter Tryd.func3, Tryd.ntmps3
  have HBX := hid (fun (X : World) (hb : Below wz.heap.size wz X) => show X.cell? ⟨w.heap.size, 0, none⟩ = some (.int .i64 p) ∧ X.cell? ⟨w.heap.size, 1, none⟩ = some (.int .i64 t) from by
    have h0 : wz.heap[w.heap.size]? = some (.cells #[.int .i64 p, .int .i64 t] 23 (0, 0)) := by rw [HFZ.out]; exact World.alloc_heap_new _ _
    have h1 := (hb.block _ (Array.getElem?_eq_some_iff.1 h0).1).trans h0
    exact ⟨by simp [World.cell?, h1], by simp [World.cell?, h1]⟩)
  obtain ⟨fb, hfb⟩ : ∃ b, b = fitB F := ⟨_, rfl⟩
  rw [← hfb] at HFit
  clear hfb
  go_wp2_with (go_at_call 4; refine (HFit.out _ (by first | exact Below.refl _ _ | (rw [← HFZ.out]; exact HBZ.out))).mono ?_; rintro e w2 ⟨rfl, hb2⟩; refine Stop.of ?_)
  refine Stop.go ?_
  rw [← HFZ.out] at hb2
  have HZ2 := hid hb2
  have HB2 := hid (chain HBZ.out hb2)
  clear hb2
  cases fb with
  | false =>
    go_wp2_with (go_at_call 5; refine (HAW.out _).mono ?_; rintro e w3 ⟨rfl, hb3⟩)
    go_ret
    exact ⟨rfl, chain HB2.out hb3⟩
  | true =>
    have hcs : (3000 < s.size ∧ s.size ≤ 65536) ∨ ¬ 3000 < s.size ∨ (3000 < s.size ∧ ¬ s.size ≤ 65536) := by omega
    rcases hcs with ⟨k1, k2⟩ | hgo
    · have d1 : (3000 : Int) < (s.size : Int) := by omega
      have d2 : (s.size : Int) ≤ 65536 := by omega
      go_wp2_with (go_at_call 5; refine (HAW.out _).mono ?_; rintro e w3 ⟨rfl, hb3⟩)
      go_ret
      exact ⟨rfl, chain HB2.out hb3⟩
    · have hgo2 : (¬ (3000 : Int) < (s.size : Int)) ∨ ((3000 : Int) < (s.size : Int) ∧ ¬ (s.size : Int) ≤ 65536) := by omega
      clear hgo
      rcases hgo2 with d1 | ⟨d1, d2⟩
      all_goals
        obtain ⟨PT, hPT⟩ : ∃ P, P = parseBF s.data.toList := ⟨_, rfl⟩
        have HPA := hid (HP1.out w2 HB2.out s hs)
        have HPB := hid (fun X (hb : Below w.heap.size w X) => HP2.out X hb)
        rw [← hPT] at HPA HPB
        clear hPT
        go_wp2_with (go_at_call 6; refine HPA.out.mono ?_; rintro e w3 ⟨v3, rfl, ho3, hb3⟩; refine Stop.of ?_)
        refine Stop.go ?_
        obtain ⟨a3, c3, rfl, hm3, hf3⟩ := ho3.reads
        have HB3 := hid (chain HB2.out hb3)
        have HZ3 := hid (chain HZ2.out hb3)
        have HF3 := hid hf3
        clear hb3 ho3 hf3
        go_wp2_with (go_at_call 7; refine (HPB.out _ HB3.out).mono ?_; rintro e w4 ⟨v4, rfl, ho4, hb4⟩; refine Stop.of ?_)
        refine Stop.go ?_
        obtain ⟨a4, c4, rfl, hm4, hf4⟩ := ho4.reads
        have HB4 := hid (chain HB3.out hb4)
        have HZ4 := hid (chain HZ3.out hb4)
        have hsm := sameCells_c w4 a3 a4 PT.1.length c3 c4 PT.1 rfl hm3 (HF3.out.below hb4) hf4
        have HSM := hid hsm
        clear hb4 ho4 hf4 hsm
        obtain ⟨p1, hp1⟩ : ∃ p, p = PT.1.length := ⟨_, rfl⟩
        obtain ⟨p2, hp2⟩ : ∃ p, p = PT.2.1 := ⟨_, rfl⟩
        obtain ⟨p3, hp3⟩ : ∃ p, p = PT.2.2 := ⟨_, rfl⟩
        rw [← hp1] at HSM ⊢
        rw [← hp2, ← hp3]
        clear hp1 hp2 hp3 hm3 hm4 HPA HPB HF3
        go_wp2_with (go_at_call 8; refine HSM.out.mono ?_; rintro e w5 ⟨rfl, hb5⟩; refine Stop.of ?_)
        refine Stop.go ?_
        have HB5 := hid (chain HB4.out hb5)
        have HZ5 := hid (chain HZ4.out hb5)
        clear hb5
        obtain ⟨Z, hZ⟩ : ∃ Z : ByteArray, Z = ⟨(formatB F).toArray⟩ := ⟨_, rfl⟩
        have hFA := HF1.out w5 HB5.out
        have hFB := fun X (hb : Below w.heap.size w X) => HF2.out X hb
        rw [← hZ] at hFA hFB
        have HFA := hid hFA
        have HFB := hid hFB
        have HZ := hid hZ
        clear hFA hFB hZ
        go_wp2_with (go_at_call 9; refine HFA.out.mono ?_; rintro e w6 ⟨rfl, hb6⟩; refine Stop.of ?_)
        refine Stop.go ?_
        have HB6 := hid (chain HB5.out hb6)
        have HZ6 := hid (chain HZ5.out hb6)
        clear hb6
        go_wp2_with (go_at_call 10; refine (HFB.out _ HB6.out).mono ?_; rintro e w7 ⟨rfl, hb7⟩; refine Stop.of ?_)
        refine Stop.go ?_
        have HB7 := hid (chain HB6.out hb7)
        have HZ7 := hid (chain HZ6.out hb7)
        clear hb7
        have HV7 := hid (HVL.out w7 HB7.out)
        have HBK2 := HBK
        obtain ⟨vb, hvb⟩ : ∃ b, b = okCells p t F := ⟨_, rfl⟩
        rw [← hvb] at HV7 HBK2
        have HBK3 := hid HBK2.out
        obtain ⟨x0, x1⟩ := HBX.out w7 HZ7.out
        clear hvb HBK2
        cases vb with
        | false =>
          go_wp2_with (first | (go_at_call 11; refine HV7.out.mono ?_; rintro e w8 ⟨rfl, hb8⟩) | (go_at_call 5; refine (HAW.out _).mono ?_; rintro e w9 ⟨rfl, hb9⟩))
          go_ret
          exact ⟨rfl, chain HB7.out (chain hb8 hb9)⟩
        | true =>
          obtain ⟨hk1, hk2⟩ := HBK3.out (by first | rfl | trivial)
          go_wp2_with (go_at_call 11; refine HV7.out.mono ?_; rintro e w8 ⟨rfl, hb8⟩; refine Stop.of ?_)
          refine Stop.go ?_
          have HB8 := hid (chain HB7.out hb8)
          have hZd : Z.data.toList = formatB F := by rw [HZ.out]
          have hPC := HP1.out w8 HB8.out Z (by rw [Lib.size_eq, hZd]; omega)
          rw [hZd, hk2] at hPC
          have HPC := hid hPC
          clear hb8 hk1 hk2 hZd hPC x0 x1
          go_wp2_with (go_at_call 6; refine HPC.out.mono ?_; rintro e w9 ⟨v9, rfl, ho9, hb9⟩; refine Stop.of ?_)
          refine Stop.go ?_
          obtain ⟨a9, c9, rfl, hm9, hf9⟩ := ho9.reads
          have HB9 := hid (chain HB8.out hb9)
          have hsm := sameCells_c w9 a1 a9 n1 c1 c9 F HN1.out HM1.out (HFF.out w9 HB9.out) hf9
          have hl9 : F.length = n1 := HN1.out
          have HSM2 := hid hsm
          have HL9 := hid hl9
          clear hb9 ho9 hf9 hsm hm9
          rw [hl9]
          clear hl9
          go_wp2_with (first | (go_at_call 8; refine HSM2.out.mono ?_; rintro e w10 ⟨rfl, hb10⟩; have HB10 := hid (chain HB9.out hb10); clear hb10) | (go_at_call 5; refine (HAW.out _).mono ?_; rintro e w11 ⟨rfl, hb11⟩))
          go_ret
          exact ⟨rfl, chain HB10.out hb11⟩
end Go.Proofs.YtofcpmfbeobgiaaDoor

namespace Go.Proofs.YtofcpmfbeobgiaaDoor
open Go.ChangeShapes Go.WideShapes Go.ChangeAt Go.RowKit Go.Deep
set_option linter.unusedVariables false

def Fits64 (n : Int) : Prop := -9223372036854775808 ≤ n ∧ n ≤ 9223372036854775807
theorem fits64 {n : Int} (h : (Lit.int .i64 n).wf = true) : Fits64 n := by
  simpa [Fits64, Lit.wf, IntKind.min, IntKind.max, IntKind.signed, IntKind.bits] using h

theorem cell_plain {w : World} {a : Addr} {v : Value} (h : w.cell? a = some v) : a = ⟨a.block, a.off, none⟩ ∧ a.block < w.heap.size := by
  unfold World.cell? at h
  split at h
  · rename_i c _ _ hb
    obtain ⟨b, o, s⟩ := a
    cases s with
    | none => exact ⟨rfl, (Array.getElem?_eq_some_iff.1 hb).1⟩
    | some s => simp at h
  · simp at h

theorem add_plain (b o : Nat) (i : Nat) : (Addr.mk b o none).add i = ⟨b, o + i, none⟩ := by
  unfold Addr.add
  split
  · rename_i h; rw [h]; rfl
  · rfl

section
variable {H : Type} {enc : TypeId × Value → H} {P : Program} {w : World} {base : Nat} {held : Bool}

theorem ints_opened {e q : TypeId} {fuel : Nat} {a : Option Addr} {n cap : Nat} {x : DataW H × List MemPlace} (he : P.underlying e = some (.slice q)) (hq : P.underlying q = some (.int .i64)) (cq : P.cellsOf q = 1)
    (h : DataW.trod enc P w base (fun _ => true) held fuel e [.slice a n cap] = some x) : ∃ l : List Int, l.length = n ∧ n ≤ maxLen ∧ IntsAt w a l ∧ ∀ y ∈ l, Fits64 y := by
  rcases open_ints he hq cq h with ⟨hcs, _⟩ | ⟨x, l, c, zs, hcs, _, hl, hm, hz, _, hcell, hwz⟩
  · simp at hcs
    obtain ⟨rfl, rfl, rfl⟩ := hcs
    exact ⟨[], rfl, by decide, fun j hj => by simp at hj, fun y hy => by simp at hy⟩
  · simp at hcs
    obtain ⟨rfl, rfl, rfl⟩ := hcs
    simp only [if_true] at hz
    refine ⟨zs.take n, by rw [List.length_take]; omega, by omega, fun j hj => ?_, fun y hy => fits64 (hwz y (List.mem_of_mem_take hy))⟩
    rw [List.length_take] at hj
    have h0 := cell_plain (hcell 0 (by omega))
    simp only [Addr.add, if_true] at h0
    obtain ⟨b, o, s⟩ := x
    have hs : s = none := by have := h0.1; simp at this; exact this
    subst hs
    refine ⟨b, o, rfl, h0.2, ?_⟩
    have := hcell j (by omega)
    rw [add_plain] at this
    rw [this]
    simp [List.getElem?_take, show j < n by omega, List.getD]

theorem arg_pair {r : Reach} {b0 : Nat} {t : TypeId} {f0 f1 : Field} {v : Value} {d : DataW H} {p : List MemPlace} (hs : P.underlying t = some (.struct #[f0, f1])) (hone : oneCellFields P #[f0, f1] = true) (hC : P.cellsOf t = 2)
    (h0 : P.underlying f0.type = some (.int .i64)) (h1 : P.underlying f1.type = some (.int .i64)) (hv : Value.okWide P w r b0 t v) (h : DataW.Trod enc P w base (fun _ => true) held t v d p) :
    ∃ x y : Int, v = .agg #[.int .i64 x, .int .i64 y] ∧ Fits64 x ∧ Fits64 y := by
  obtain ⟨v0, v1, y0, y1, n, rfl, _, _, k0, k1⟩ := Go.Joins.open_agg2 hs hone hC hv h
  obtain ⟨n0, e0, _, w0⟩ := DataW.trod_int h0 k0
  obtain ⟨n1, e1, _, w1⟩ := DataW.trod_int h1 k1
  simp at e0 e1
  subst e0; subst e1
  exact ⟨n0, n1, rfl, fits64 w0, fits64 w1⟩

theorem arg_cells {r : Reach} {b0 : Nat} {t c e q : TypeId} {f0 f1 f2 : Field} {v : Value} {d : DataW H} {p : List MemPlace} (ht : P.underlying t = some (.slice c)) (hs : P.underlying c = some (.struct #[f0, f1, f2])) (hone : oneCellFields P #[f0, f1, f2] = true) (hC : P.cellsOf c = 3)
    (h0 : f0.type = e) (he : P.underlying e = some (.slice q)) (hq : P.underlying q = some (.int .i64)) (cq : P.cellsOf q = 1) (h1 : P.underlying f1.type = some (.int .i64)) (h2 : P.underlying f2.type = some (.int .i64))
    (hv : Value.okWide P w r b0 t v) (h : DataW.Trod enc P w base (fun _ => true) held t v d p) : ∃ a n cap, ∃ l : List Cel, v = .slice a n cap ∧ l.length = n ∧ n ≤ maxLen ∧ CellsAt w a l ∧ ∀ y ∈ l, Fits64 y.lo ∧ Fits64 y.hi ∧ ∀ z ∈ y.row, Fits64 z := by
  obtain ⟨a, n, cap, rfl⟩ := okWide_slice ht hv
  obtain ⟨fuel, hf⟩ := h
  rcases open_slice ht (by simpa [Value.cells] using hf) with ⟨hcs, _⟩ | ⟨x, len, c', m, nn, D, Pl, hcs, _, hl, hm, hmm, _, hx⟩
  · simp at hcs
    obtain ⟨rfl, rfl, rfl⟩ := hcs
    exact ⟨none, 0, 0, [], rfl, rfl, by decide, fun j hj => by simp at hj, fun y hy => by simp at hy⟩
  simp at hcs
  obtain ⟨rfl, rfl, rfl⟩ := hcs
  simp only [if_true] at hmm
  obtain ⟨o0, k0⟩ := hone_of hone 0 f0 rfl
  obtain ⟨o1, k1⟩ := hone_of hone 1 f1 rfl
  obtain ⟨o2, k2⟩ := hone_of hone 2 f2 rfl
  have each : ∀ i, i < n → ∃ y : Cel × Option Addr × Nat × Nat, w.cell? (x.add (i * 3)) = some (.slice y.2.1 y.2.2.1 y.2.2.2) ∧ w.cell? ((x.add (i * 3)).add 1) = some (.int .i64 y.1.lo) ∧ w.cell? ((x.add (i * 3)).add 2) = some (.int .i64 y.1.hi) ∧
      y.1.row.length = y.2.2.1 ∧ y.2.2.1 ≤ maxLen ∧ IntsAt w y.2.1 y.1.row ∧ (∀ z ∈ y.1.row, Fits64 z) ∧ Fits64 y.1.lo ∧ Fits64 y.1.hi := by
    intro i hi
    obtain ⟨cs', hc, htr⟩ := hx i (by omega)
    rw [hC] at hc
    obtain ⟨_, hlen, hcell⟩ := World.cells?_some hc
    match cs', hlen with
    | [c0, c1, c2], _ =>
      obtain ⟨y0, y1, y2, n', _, _, t0, t1, t2⟩ := trod_struct3 hs htr
      rw [o0, k0] at t0
      rw [o1, k1] at t1
      rw [o2, k2] at t2
      simp at t0 t1 t2
      obtain ⟨z1, e1, _, w1⟩ := DataW.trod_int h1 t1
      obtain ⟨z2, e2, _, w2⟩ := DataW.trod_int h2 t2
      simp at e1 e2
      subst e1; subst e2
      rw [h0] at t0
      have hsl : ∃ ra rn rc, c0 = .slice ra rn rc := by
        rcases open_ints he hq cq t0 with ⟨hcs, _⟩ | ⟨x, l, c, zs, hcs, _⟩
        · simp at hcs; exact ⟨_, _, _, hcs⟩
        · simp at hcs; exact ⟨_, _, _, hcs⟩
      obtain ⟨ra, rn, rc, rfl⟩ := hsl
      obtain ⟨l, q1, q2, q3, q4⟩ := ints_opened he hq cq t0
      have hc0 := hcell 0 (by omega)
      rw [show (x.add (i * 3)).add 0 = x.add (i * 3) from rfl] at hc0
      exact ⟨(⟨l, z1, z2⟩, ra, rn, rc), by simpa using hc0, by simpa using hcell 1 (by omega), by simpa using hcell 2 (by omega), q1, q2, q3, q4, fits64 w1, fits64 w2⟩
  haveI : Inhabited (Cel × Option Addr × Nat × Nat) := ⟨(⟨[], 0, 0⟩, none, 0, 0)⟩
  obtain ⟨y, hy⟩ := choose_lt each
  refine ⟨some x, n, cap, (List.range n).map fun i => (y i).1, rfl, by simp, by omega, fun j hj => ?_, fun z hz => ?_⟩
  · have hjn : j < n := by simpa using hj
    have hp := cell_plain (hy 0 (by omega)).1
    simp only [Addr.add, Nat.zero_mul, if_true] at hp
    obtain ⟨b, o, s⟩ := x
    have hs' : s = none := by have := hp.1; simp at this; exact this
    subst hs'
    obtain ⟨r0, r1, r2, r3, r4, r5, r6, r7, r8⟩ := hy j hjn
    rw [add_plain] at r0 r1 r2
    rw [add_plain] at r1 r2
    refine ⟨b, o, (y j).2.1, (y j).2.2.1, (y j).2.2.2, rfl, hp.2, r0, ?_, ?_, ?_, r4, ?_⟩ <;> simp only [List.getElem_map, List.getElem_range] <;> assumption
  · obtain ⟨i, hi, rfl⟩ := List.mem_map.1 hz
    obtain ⟨r0, r1, r2, r3, r4, r5, r6, r7, r8⟩ := hy i (List.mem_range.1 hi)
    exact ⟨r7, r8, r6⟩

end
end Go.Proofs.YtofcpmfbeobgiaaDoor
