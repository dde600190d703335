/- Walks of fault.reads, numbers, told. -/
import Derived.Test.YthaampmdponhbaaGreatDoorFltH
import Derived.Lib.ItoaLen
import Derived.Lib.AppendIntMem
import Derived.Lib.LaidTab
namespace Go.Proofs.YthaampmdponhbaaGreatDoor
open Go.RowKit Go.Shelf
set_option linter.unusedVariables false

/-- the table of the powers of ten lies as its initialiser lays it -/
def Tab (w : World) : Prop := Lib.TabIs Tryz.prog w "internal/strconv.uint64pow10" .u64 Lib.pow10Tab
theorem tabNamed : Tryz.prog.globalNamed "internal/strconv.uint64pow10" = some 5 := by kernel_rfl
theorem Tab.below {w w' : World} (h : Tab w) (hb : Below w.heap.size w w') : Tab w' := by
  unfold Tab Lib.TabIs World.var? at h ⊢
  rw [tabNamed] at h ⊢
  simp only [Option.bind_some] at h ⊢
  have hlt : 5 < w.heap.size := by
    rcases Nat.lt_or_ge 5 w.heap.size with h' | h'
    · exact h'
    · rw [Array.getElem?_eq_none h'] at h; cases h
  rw [hb.block 5 hlt]
  exact h

/-- a number that a Go int holds -/
def isInt (n : Int) : Prop := -9223372036854775808 ≤ n ∧ n ≤ 9223372036854775807

theorem itoa_c (n : Int) (hn : isInt n) (w : World) (ht : Tab w) : Calls Tryz.prog 90 #[.int .i64 n] w fun e w' => e = .returned (.string ⟨(Lib.itoa n).toArray⟩) ∧ Below w.heap.size w w' :=
  (Tryz.strconv_Itoa n hn.1 hn.2 w ht).mono fun e w' ⟨h, k, os, e2⟩ => ⟨h, by rw [e2]; exact Lib.below_grow _ w (Nat.le_refl _) k os⟩

/-- numbers as words, each with a blank behind it -/
def numT (l : List Int) : List UInt8 := l.flatMap (fun n => Lib.itoa n ++ [32])
theorem numT_take (l : List Int) (k : Nat) (hk : k < l.length) : numT (l.take (k + 1)) = numT (l.take k) ++ (Lib.itoa l[k] ++ [32]) := by
  unfold numT
  rw [List.take_succ_eq_append_getElem hk, List.flatMap_append]; simp
theorem numT_length (l : List Int) (h : ∀ n ∈ l, isInt n) : (numT l).length ≤ 22 * l.length := by
  induction l with
  | nil => simp [numT]
  | cons x l ih =>
    have h1 := Lib.itoa_length_le x (h x (by simp)).1 (h x (by simp)).2
    have h2 := ih (fun n hn => h n (by simp [hn]))
    have e : numT (x :: l) = Lib.itoa x ++ [32] ++ numT l := by simp [numT]
    rw [e]; simp; omega

theorem wrap_isInt (n : Int) : isInt (wrap64 n) := by unfold isInt wrap64; omega
theorem dotW_isInt (row x : List Int) : isInt (dotW row x) := by
  unfold dotW
  cases row.length with
  | zero => simp [dotTo, isInt]
  | succ k => exact wrap_isInt _
theorem readM_isInt (M : Mask) (x : List Int) : ∀ n ∈ readM M x, isInt n := by
  intro n hn
  unfold readM at hn
  obtain ⟨r, _, rfl⟩ := List.mem_map.1 hn
  exact dotW_isInt r x

set_option maxHeartbeats 2000000 in
theorem numbers_c (w : World) (ht : Tab w) (a : Option Addr) (n cap : Nat) (l : List Int) (hn : l.length = n) (hm : n ≤ 65536) (H : IntsAt w a l) (hi : ∀ x ∈ l, isInt x) :
    Calls Tryz.prog 89 #[.slice a n cap] w fun e w' => e = .returned (.string ⟨(numT l).toArray⟩) ∧ Below w.heap.size w w' := by
  have HN := hid hn
  have HH := hid H
  have HT := hid ht
  have HI := hid hi
  clear hn H ht hi
  go_enter Tryz.func89, Tryz.ntmps89
  go_wp2
  go_loopw [3, 8] (fun s i wr => ∃ (k : Nat) (S : ByteArray), k ≤ n ∧ i = .int .i64 k ∧ s = .string S ∧ S.size ≤ 22 * k ∧ Hid (S = ⟨(numT (l.take k)).toArray⟩) ∧ Below w.heap.size w wr) (fun _ i _ => n - (intOf i).toNat)
  case atStart => exact ⟨0, _, Nat.zero_le _, rfl, rfl, by simp [ByteArray.size], hid rfl, Below.refl _ _⟩
  case round =>
    obtain ⟨k, S, hk, rfl, rfl, hS, HS, hb⟩ := hrel
    by_cases hlt : k < n
    · have hkl : k < l.length := by rw [HN.out]; exact hlt
      obtain ⟨b, off, rfl, hbs, hc⟩ := (HH.out.below hb) k hkl
      have hx : l[k]?.getD 0 = l[k] := by rw [List.getElem?_eq_getElem hkl]; rfl
      obtain ⟨X, hX⟩ : ∃ X, X = l[k]?.getD 0 := ⟨_, rfl⟩
      rw [← hX] at hc
      have hXi : isInt X := by rw [hX, hx]; exact HI.out _ (List.getElem_mem hkl)
      have HC := hid (itoa_c X hXi wr (HT.out.below hb))
      have hlen := Lib.itoa_length_le X hXi.1 hXi.2
      have htk := numT_take l k hkl
      rw [← hx, ← hX] at htk
      obtain ⟨I, hI⟩ : ∃ I : ByteArray, I = ⟨(Lib.itoa X).toArray⟩ := ⟨_, rfl⟩
      have hIs : I.size ≤ 21 := by rw [hI]; simpa [ByteArray.size] using hlen
      rw [← hI] at HC
      have hnew : Hid ((S ++ (I ++ ⟨#[32]⟩) : ByteArray) = ⟨(numT (l.take (k + 1))).toArray⟩) := hid (by
        rw [htk, HS.out, hI]
        rw [show (⟨#[32]⟩ : ByteArray) = ⟨[32].toArray⟩ from rfl, ByteArray.mk_append_mk, ByteArray.mk_append_mk])
      have hsp : (⟨#[32]⟩ : ByteArray).size = 1 := rfl
      have h1 : I.size + (⟨#[32]⟩ : ByteArray).size ≤ 9223372036854775807 := by rw [hsp]; omega
      obtain ⟨J, hJ⟩ : ∃ J : ByteArray, J = I ++ ⟨#[32]⟩ := ⟨_, rfl⟩
      have hJs : J.size ≤ 22 := by rw [hJ, ByteArray.size_append, hsp]; omega
      rw [← hJ] at hnew
      have hr1 : ∀ w, (Op.stringOp .add I ⟨#[32]⟩).run Tryz.prog w = .ok (.string J) w := fun w => by rw [run_string_add_sum w _ _ h1, hJ]
      obtain ⟨R, hR⟩ : ∃ R : ByteArray, R = S ++ J := ⟨_, rfl⟩
      have hRs : R.size ≤ 22 * (k + 1) := by rw [hR, ByteArray.size_append]; omega
      have hr2 : ∀ w, (Op.stringOp .add S J).run Tryz.prog w = .ok (.string R) w := fun w => by rw [run_string_add_sum w _ _ (by omega), hR]
      rw [← hR] at hnew
      clear hR hJ hI hX hx htk hlen h1 hJs hIs hkl hXi hsp
      go_wp2_with (go_at_call 90; refine HC.out.mono ?_; rintro e w1 ⟨rfl, hb1⟩)
      exact ⟨⟨k + 1, R, by omega, by go_num, rfl, hRs, hnew, chain hb hb1⟩, by simp [intOf]; omega⟩
    · obtain rfl : k = n := by omega
      go_wp2
      go_ret
      refine ⟨?_, hb⟩
      rw [HS.out, List.take_of_length_le (by have := HN.out; omega)]
      rfl

/-- what a mask with a fault reads -/
def readF (M : Mask) (f : Flt) (x : List Int) : List Int := readM (faultyM M f) x

theorem faultyM_cols {M : Mask} {f : Flt} (hM : okM M = true) (hf : okF M f = true) : ∀ r ∈ faultyM M f, r.length = colsM M ∧ ∀ n ∈ r, -1 ≤ n ∧ n ≤ 1 := by
  obtain ⟨m1, m6, c1, c10, hrows⟩ := okM_len hM
  obtain ⟨kind, row, pixel⟩ := f
  unfold faultyM
  rcases okF_cases hf hM with ⟨rfl, rfl, rfl⟩ | ⟨rfl, i, rfl, hi, rfl⟩ | ⟨rfl, j, rfl, hj, rfl⟩ | ⟨rfl, i, j, rfl, rfl, hi, hj, hne⟩
  · simpa using hrows
  · simp only [if_true]
    unfold deadM
    intro r hr
    rcases List.mem_or_eq_of_mem_set hr with h | h
    · exact hrows r h
    · subst h
      have := hrows M[i] (List.getElem_mem hi)
      simp only [Int.toNat_natCast]
      rw [List.getElem?_eq_getElem hi]
      refine ⟨by simpa using this.1, fun n hn => ?_⟩
      obtain rfl := List.eq_of_mem_replicate hn
      omega
  · simp only [show ¬ ((2 : Int) = 1) by omega, if_false, if_true]
    unfold darkM
    intro r hr
    obtain ⟨s, hs, rfl⟩ := List.mem_map.1 hr
    have := hrows s hs
    refine ⟨by simpa using this.1, fun n hn => ?_⟩
    rcases List.mem_or_eq_of_mem_set hn with h | h
    · exact this.2 n h
    · omega
  · simp only [show ¬ ((3 : Int) = 1) by omega, show ¬ ((3 : Int) = 2) by omega, if_false, if_true]
    unfold turnM
    intro r hr
    rcases List.mem_or_eq_of_mem_set hr with h | h
    · exact hrows r h
    · subst h
      have := hrows M[i] (List.getElem_mem hi)
      simp only [Int.toNat_natCast]
      rw [List.getElem?_eq_getElem hi]
      simp only [Option.getD_some]
      refine ⟨by simpa using this.1, fun n hn => ?_⟩
      rcases List.mem_or_eq_of_mem_set hn with h | h
      · exact this.2 n h
      · have hj' : j < M[i].length := by omega
        rw [List.getElem?_eq_getElem hj'] at h
        have := this.2 _ (List.getElem_mem hj')
        simp at h
        omega

theorem okM_of {M : Mask} (h1 : 1 ≤ M.length) (h6 : M.length ≤ 6) (c : Nat) (hc1 : 1 ≤ c) (hc : c ≤ 10) (h : ∀ r ∈ M, r.length = c ∧ ∀ n ∈ r, -1 ≤ n ∧ n ≤ 1) : okM M = true ∧ colsM M = c := by
  have hcol : colsM M = c := by
    unfold colsM
    rw [List.getElem?_eq_getElem (by omega)]
    exact (h _ (List.getElem_mem (by omega))).1
  refine ⟨?_, hcol⟩
  unfold okM
  simp only [Bool.and_eq_true, List.all_eq_true, decide_eq_true_eq]
  refine ⟨by simp [inB]; omega, fun r hr => ⟨by rw [(h r hr).1, hcol], ?_⟩⟩
  unfold okMRow
  simp only [Bool.and_eq_true, List.all_eq_true]
  refine ⟨by rw [(h r hr).1]; simp [inB]; omega, fun n hn => ?_⟩
  have := (h r hr).2 n hn
  simp [inB]; omega

theorem okM_faulty {M : Mask} {f : Flt} (hM : okM M = true) (hf : okF M f = true) : okM (faultyM M f) = true ∧ colsM (faultyM M f) = colsM M := by
  obtain ⟨m1, m6, c1, c10, hrows⟩ := okM_len hM
  exact okM_of (by rw [faultyM_row]; exact m1) (by rw [faultyM_row]; exact m6) (colsM M) c1 c10 (faultyM_cols hM hf)

theorem shownE_faulty {M : Mask} {f : Flt} {x : List Int} (hM : okM M = true) (hf : okF M f = true) (hx : okShown M x = true) : shownE (faultyM M f) x = 0 := by
  obtain ⟨h1, h2⟩ := okM_faulty hM hf
  have h := okShown_iff (faultyM M f) x
  have h3 : okShown (faultyM M f) x = true := by
    unfold okShown at hx ⊢
    rw [h1, h2]
    simp only [Bool.and_eq_true] at hx ⊢
    exact ⟨⟨trivial, hx.1.2⟩, hx.2⟩
  rw [h3] at h
  simpa using h

theorem reads_c (w : World) (a : Option Addr) (n cap : Nat) (M : Mask) (hn : M.length = n) (H : RowsAt w a M) (hM : okM M = true) (f : Flt) (hf : okF M f = true) (a2 : Option Addr) (n2 cap2 : Nat) (x : List Int) (hn2 : x.length = n2) (H2 : IntsAt w a2 x) (hx : okShown M x = true) :
    Calls Tryz.prog 44 #[.slice a n cap, f.val, .slice a2 n2 cap2] w fun e w' => ∃ v base, e = .returned v ∧ w.heap.size ≤ base ∧ w'.ownsRow base 3 1 v n ((readF M f x).map (Value.int .i64)) ∧ Below w.heap.size w w' := by
  obtain ⟨wf, hwf, hb0, hcells⟩ := fltBox w f
  have HF := hid (faulty_c wf a n cap M hn (H.below hb0) hM f hf)
  have hm2 : n2 ≤ maxLen := by
    unfold okShown at hx
    simp at hx
    have := (okM_len hM).2.2.2.1
    unfold maxLen; omega
  have HR := hid (fun (W : World) (hb : Below w.heap.size w W) (va : Option Addr) (vc : Nat) (hv : RowsAt W va (faultyM M f)) =>
    maskRead_c W va n vc (faultyM M f) (by rw [faultyM_row, hn]) (by have := (okM_len hM).2.1; unfold maxLen; omega) hv a2 n2 cap2 x hn2 hm2 (H2.below hb) (shownE_faulty hM hf hx))
  have HRows := hid (fun (r : List Int) (hr : r ∈ faultyM M f) => show r.length ≤ maxLen by have := (faultyM_cols hM hf r hr).1; have := (okM_len hM).2.2.2.1; unfold maxLen; omega)
  have HN := hid (show (faultyM M f).length = n by rw [faultyM_row, hn])
  have HB0 := hid hb0
  obtain ⟨_, f0, f1, f2⟩ := hcells wf (Below.refl _ _)
  have hre : readF M f x = readM (faultyM M f) x := rfl
  rw [hre]
  obtain ⟨Mf, hMf⟩ : ∃ Mf, Mf = faultyM M f := ⟨_, rfl⟩
  rw [← hMf] at HF HR HRows HN ⊢
  have HWF := hid hwf
  clear hre hMf hn H hf hn2 H2 hx hM hcells hb0 hwf
  obtain ⟨kind, row, pixel⟩ := f
  unfold Flt.val at HF ⊢
  simp only [] at HF HWF f0 f1 f2 ⊢
  have hw := HWF.out
  clear HWF
  subst hw
  go_enter Tryz.func44, Tryz.ntmps44
  go_wp2_with (go_at_call 80; refine HF.out.mono ?_; rintro e w1 ⟨v, base, rfl, hbase, hown, hb1⟩; refine Stop.of ?_)
  refine Stop.go ?_
  obtain ⟨va, vc, rfl, hrows⟩ := hown.rows HRows.out
  have HR1 := hid (HR.out w1 (chain HB0.out hb1) va vc hrows)
  have HNN := HN.out
  rw [HNN]
  go_wp2_with (go_at_call 79; refine HR1.out.mono ?_; rintro e w2 ⟨v2, base2, rfl, hbase2, hown2, hb2⟩; refine Stop.of ?_)
  refine Stop.go ?_
  go_wp2
  go_ret
  exact ⟨v2, base2, rfl, Nat.le_trans (Nat.le_trans HB0.out.size hb1.size) hbase2, hown2, chain (chain HB0.out hb1) hb2⟩
end Go.Proofs.YthaampmdponhbaaGreatDoor
