/- Walks and plain laws for StreamTextsRow, part 8. -/
import Derived.Test.YtddcamcdjkiadaaGreatDoorPkStreamTextsRow7
namespace Go.Proofs.YtddcamcdjkiadaaGreatDoor
open Go.RowKit Go.Shelf
set_option linter.unusedVariables false

theorem bytes_lit (B : ByteArray) (l : Array UInt8) : B = ⟨l⟩ ↔ B.data.toList = l.toList := by
  obtain ⟨⟨d⟩⟩ := B
  obtain ⟨l⟩ := l
  simp
theorem BegM.lt {W : World} {b : Nat} (h : BegM W b) : b < W.heap.size := (Array.getElem?_eq_some_iff.1 h).1
theorem BegM.keep {W W' : World} {b : Nat} (h : BegM W b) (hk : W'.heap[b]? = W.heap[b]?) : BegM W' b := hk.trans h
def BBox (W : World) (b : Nat) (v : Value) : Prop := W.heap[b]? = some (.cells #[v] 79 (0, 0))
theorem BBox.lt {W : World} {b : Nat} {v : Value} (h : BBox W b v) : b < W.heap.size := (Array.getElem?_eq_some_iff.1 h).1
theorem BBox.cell {W : World} {b : Nat} {v : Value} (h : BBox W b v) : W.cell? ⟨b, 0, none⟩ = some v := by simp [World.cell?, show W.heap[b]? = _ from h]
theorem BBox.frozen {W : World} {b : Nat} {v : Value} (h : BBox W b v) : W.frozen? ⟨b, 0, none⟩ = false := by simp [World.frozen?, show W.heap[b]? = _ from h]
theorem BBox.keep {W W' : World} {b : Nat} {v : Value} (h : BBox W b v) (hk : W'.heap[b]? = W.heap[b]?) : BBox W' b v := hk.trans h
theorem BBox.set {W : World} {b : Nat} {v : Value} (h : BBox W b v) (z : Value) : BBox (W.setCell ⟨b, 0, none⟩ z) b z := by
  have := cells_set h 0 z
  simpa [BBox] using this
theorem BBox.made (W : World) (v : Value) : BBox (W.alloc (.cells #[v] 79)) W.heap.size v := World.alloc_heap_new _ _
def BegR (w3 : World) (fv : Value) (ok : Bool) (fr fr' : Act) (W : World) : Prop :=
  ∃ v42 v43 v44 v45 v46 v41 v47 v48 tb, fr' = ((((((((((fr.put (some 42) v42).put (some 43) v43).put (some 44) v44).put (some 45) v45).put (some 46) v46).put (some 41) v41).put (some 47) v47).put (some 48) v48).put (some 11) (.pointer (some ⟨tb, 0, none⟩))).put (some 12) (.bool ok)) ∧ Below w3.heap.size w3 W ∧ w3.heap.size ≤ tb ∧ BBox W tb fv
theorem sstep_no {M : Mask} {acc : List Frm} {s : List UInt8} (h : ¬ (((wordsF (Lib.cut s [10]).1)[0]?.getD [] = keyW ∨ (wordsF (Lib.cut s [10]).1)[0]?.getD [] = readW) ∧ Lib.hasPrefix s (lineL (frW (wordsF (Lib.cut s [10]).1))) = true ∧ validB M (acc ++ [frW (wordsF (Lib.cut s [10]).1)]) = true)) : stepS M acc s = none := by
  unfold stepS; simp only []; rw [if_neg h]
theorem sstep_yes {M : Mask} {acc : List Frm} {s : List UInt8} (h : ((wordsF (Lib.cut s [10]).1)[0]?.getD [] = keyW ∨ (wordsF (Lib.cut s [10]).1)[0]?.getD [] = readW) ∧ Lib.hasPrefix s (lineL (frW (wordsF (Lib.cut s [10]).1))) = true ∧ validB M (acc ++ [frW (wordsF (Lib.cut s [10]).1)]) = true) : stepS M acc s = some (frW (wordsF (Lib.cut s [10]).1), (Lib.cut s [10]).2.1) := by
  unfold stepS; simp only []; rw [if_pos h]

set_option maxRecDepth 100000 in
set_option maxHeartbeats 8000000 in
theorem sParse_c (w : World) (hX : TabX w) (a : Option Addr) (n cap : Nat) (M : Mask) (hn : M.length = n) (hm : n ≤ maxLen) (H : RowsAt w a M) (s : ByteArray) (hsm : s.size ≤ 9223372036854775807) :
    Calls Tryz.prog 15 #[.slice a n cap, .string s] w fun e w' => ∃ v, e = .returned (.tuple #[v, .int .i64 ((parseSF M s.data.toList).2.1 : Nat), .int .i64 (parseSF M s.data.toList).2.2]) ∧ FrmsO w' w.heap.size (fun _ => True) v (parseSF M s.data.toList).1 ∧ Below w.heap.size w w' := by
  have hsz : s.data.toList.length = s.size := (Lib.size_eq s).symm
  have HV := hid (maskValid_c w a n cap M hn hm H)
  cases hok : okM M
  · have HE := hid (show parseSF M s.data.toList = ([], 0, 1) by unfold parseSF; rw [hok]; rfl)
    rw [hok] at HV
    clear hX hsz hn H hok
    go_enter Tryz.func15, Tryz.ntmps15
    go_wp2_with (go_at_call 39; refine HV.out.mono ?_; rintro e w1 ⟨rfl, hb1⟩)
    refine bodyPost_ret (v := .tuple #[.slice none 0 0, .int .i64 0, .int .i64 1]) (by simp [results, Tryz.results15, go_sem]) rfl ?_
    exact ⟨.slice none 0 0, by rw [HE.out]; rfl, by rw [HE.out]; exact FrmsO.nil _ _ _, hb1⟩
  rw [hok] at HV
  by_cases hbig : 65536 < s.size
  · have HE := hid (show parseSF M s.data.toList = ([], 0, 3) by unfold parseSF; rw [if_pos hok, if_pos (by omega)])
    clear hX hsz hn H hok
    go_enter Tryz.func15, Tryz.ntmps15
    go_wp2_with (go_at_call 39; refine HV.out.mono ?_; rintro e w1 ⟨rfl, hb1⟩)
    refine bodyPost_ret (v := .tuple #[.slice none 0 0, .int .i64 0, .int .i64 3]) (by simp [results, Tryz.results15, go_sem]) rfl ?_
    exact ⟨.slice none 0 0, by rw [HE.out]; rfl, by rw [HE.out]; exact FrmsO.nil _ _ _, hb1⟩
  have hPT : parseSF M s.data.toList = parseS M s.size [] s.data.toList := by unfold parseSF; rw [if_pos hok, if_neg (by omega), hsz]
  obtain ⟨PT, hPTe⟩ : ∃ P, P = parseSF M s.data.toList := ⟨_, rfl⟩
  rw [← hPTe] at hPT ⊢
  have HX := hid hX
  have HPT := hid hPT
  have HVF := hid (fun (W : World) (hb : Below w.heap.size w W) (a2 : Option Addr) (n2 cap2 : Nat) (fs : List Frm) (hn2 : fs.length = n2) (hm2 : n2 ≤ maxLen) (H2 : FramesAt W a2 fs) => svalid_c W a n cap M hn hm (H.below hb) a2 n2 cap2 fs hn2 hm2 H2)
  have hs6 : s.size ≤ 65536 := by omega
  clear hX hPT hPTe hsz hn H hok hbig
  go_enter Tryz.func15, Tryz.ntmps15
  go_wp2_with (go_at_call 39; refine HV.out.mono ?_; rintro e w1 ⟨rfl, hb1⟩; refine Stop.of ?_)
  refine Stop.go ?_
  have HB1 := hid hb1
  clear hb1
  clear HV
  go_wp2
  go_loopw [1, 4, 5] (fun s0 v i wr => ∃ (acc : List Frm) (B : ByteArray) (f : Nat), s0 = .string B ∧ i = .int .i64 acc.length ∧ acc.length ≤ 60 ∧ FrmsO wr w.heap.size (fun _ => True) v acc ∧ B.size ≤ f ∧ B.size ≤ s.size ∧ Hid (PT = parseS M f acc B.data.toList) ∧ Below w.heap.size w wr) (fun s0 _ _ _ => strV s0)
  case atStart => exact ⟨[], s, s.size, rfl, rfl, Nat.zero_le _, FrmsO.nil _ _ _, Nat.le_refl _, Nat.le_refl _, hid HPT.out, HB1.out⟩
  case round =>
    obtain ⟨acc, B, f, rfl, rfl, hk, hto, hBf, hBs, HPF, hb⟩ := hrel
    obtain ⟨va, vc, rfl⟩ := hto.slice
    obtain ⟨k, hke⟩ : ∃ k, k = acc.length := ⟨_, rfl⟩
    rw [← hke] at hk hto ⊢
    have HK := hid hke
    have HTO := hid hto
    have HB := hid hb
    clear hke hto hb
    by_cases hend : B.size = 0 ∧ k ≠ 0
    · obtain ⟨hB0, hk0⟩ := hend
      have hBe := bytes_nil hB0
      subst hBe
      have HR := hid (show PT = (acc, 0, 0) from by rw [HPF.out]; exact parseS_end M f (by intro h; apply hk0; rw [HK.out, h]; rfl))
      have hki : ((k : Int) == 0) = false := by simp; omega
      clear hB0
      go_wp2
      refine bodyPost_ret (v := .tuple #[.slice va k vc, .int .i64 0, .int .i64 0]) (by simp [results, Tryz.results15, go_sem]) rfl ?_
      exact ⟨.slice va k vc, by rw [HR.out]; rfl, by rw [HR.out]; exact HTO.out, HB.out⟩
    have hcase : (¬ B.toList = [] ∧ (B.toList == []) = false ∧ (B.toList != []) = true) ∨ (((k : Int) == 0) = true ∧ B = ⟨#[]⟩) := by
      by_cases hB0 : B.size = 0
      · refine .inr ⟨?_, bytes_nil hB0⟩
        by_cases h : k = 0
        · simp [h]
        · exact absurd ⟨hB0, h⟩ hend
      · have hne : B.data.toList ≠ [] := by intro h; apply hB0; rw [Lib.size_eq, h]; rfl
        have hne1 : ¬ B.toList = [] := by rw [Lib.toList_data]; exact hne
        exact .inl ⟨hne1, by simpa using hne1, by simpa using hne1⟩
    have hcond : ¬ (B.data.toList = [] ∧ acc ≠ []) := by
      rintro ⟨h1, h2⟩
      apply hend
      refine ⟨by rw [Lib.size_eq, h1]; rfl, ?_⟩
      intro h; apply h2; rw [HK.out] at h; exact List.length_eq_zero_iff.1 h
    have hBz : B.data.toList.length = B.size := (Lib.size_eq B).symm
    have e10 : (⟨#[10]⟩ : ByteArray).data.toList = [10] := rfl
    have HC1 := hid (fun (W : World) (hb : Below wr.heap.size wr W) => cut_c W (HX.out.below (chain HB.out hb)) B ⟨#[10]⟩ (by omega))
    rw [e10] at HC1
    have hno := fun h => sstep_no (M := M) (acc := acc) (s := B.data.toList) h
    have hyes := fun h => sstep_yes (M := M) (acc := acc) (s := B.data.toList) h
    have hl1 := cut_rest_le B.data.toList [10]
    obtain ⟨c1, hc1⟩ : ∃ c, c = (Lib.cut B.data.toList [10]).1 := ⟨_, rfl⟩
    obtain ⟨c2, hc2⟩ : ∃ c, c = (Lib.cut B.data.toList [10]).2.1 := ⟨_, rfl⟩
    obtain ⟨c3, hc3⟩ : ∃ c, c = (Lib.cut B.data.toList [10]).2.2 := ⟨_, rfl⟩
    rw [← hc1, ← hc2, ← hc3] at HC1
    rw [← hc1] at hno
    rw [← hc1, ← hc2] at hyes
    rw [← hc1, ← hc2] at hl1
    obtain ⟨T1, hT1⟩ : ∃ T : ByteArray, T = ⟨c1.toArray⟩ := ⟨_, rfl⟩
    obtain ⟨T2, hT2⟩ : ∃ T : ByteArray, T = ⟨c2.toArray⟩ := ⟨_, rfl⟩
    have hT1d : T1.data.toList = c1 := by rw [hT1]
    have hT2d : T2.data.toList = c2 := by rw [hT2]
    have hT1z : T1.size ≤ 65536 := by rw [hT1, bytes_size]; omega
    have hT2z : T2.size = c2.length := by rw [hT2, bytes_size]
    rw [← hT1, ← hT2] at HC1
    have HSp := hid (fun (W : World) (hb : Below wr.heap.size wr W) => split_c W (HX.out.below (chain HB.out hb)) T1 hT1z)
    rw [hT1d] at HSp
    have hw1 := words_le c1
    have hwl := fun x hx => word_le c1 x hx
    have hwne := words_ne c1
    obtain ⟨ws, hws⟩ : ∃ ws, ws = wordsF c1 := ⟨_, rfl⟩
    rw [← hws] at HSp hw1 hwl hwne hno hyes
    have HNO := hid (fun h => show PT = ([], k, 2) from by
      have h1 : stepS M acc B.data.toList = none := by exact hno h
      rw [HPF.out, parseS_bad hcond h1, ← HK.out])
    have HYES := hid (fun h => show PT = parseS M (f - 1) (acc ++ [frW ws]) c2 ∧ c2.length < B.size from by
      have h1 : stepS M acc B.data.toList = some (frW ws, c2) := by exact hyes h
      have h2 := stepS_less h1
      refine ⟨?_, by rw [← hBz]; exact h2⟩
      rw [HPF.out, show f = (f - 1) + 1 by omega, parseS_step hcond h1]
      rfl)
    have HT2 := hid (And.intro hT2d hT2z)
    have HT1 := hid hT1d
    have HW1 := hid (And.intro hw1 (And.intro hwl hwne))
    have HC1L := hid (show c1.length ≤ 65536 by omega)
    obtain ⟨k0, hk0⟩ : ∃ b, b = decide (ws[0]?.getD [] = keyW) := ⟨_, rfl⟩
    obtain ⟨vals, hvals⟩ : ∃ l, l = ws.tail.map atV := ⟨_, rfl⟩
    have hfr : frW ws = (k0, vals) := by rw [hk0, hvals]; rfl
    rw [hfr] at HNO HYES
    have HK0 := hid hk0
    have HVA := hid hvals
    clear hno hyes hl1 hc1 hc2 hc3 hT1 hT2 hT1d hT2d hT2z hw1 hwl hwne hws hcond e10 hT1z hk0 hvals hfr hend
    have HHPQ := hid (fun (Z : ByteArray) (W : World) => show Calls Tryz.prog 27 #[.string B, .string Z] W fun e w' => e = .returned (.bool (Lib.hasPrefix B.data.toList Z.data.toList)) ∧ W = w' from (Tryz.strings_HasPrefix B Z W).mono fun _ _ h => ⟨h.1, h.2.symm⟩)
    obtain ⟨Bd, hBd⟩ : ∃ l, l = B.data.toList := ⟨_, rfl⟩
    rw [← hBd] at HHPQ HNO HYES
    clear hBd
    rcases hcase with ⟨q1, q2, q3⟩ | ⟨q1, rfl⟩
    all_goals
      go_wp2_with (go_at_call 23; refine (HC1.out _ (Below.refl _ _)).mono ?_; rintro e w2 ⟨rfl, hb2⟩; refine Stop.of ?_)
      refine Stop.go ?_
      have HB2 := hid hb2
      clear hb2
      go_wp2_with (go_at_call 24; refine (HSp.out _ HB2.out).mono ?_; rintro e w3 ⟨L, hL, rfl, hw3⟩; refine Stop.of ?_)
      refine Stop.go ?_
      try rw [← hw3]
      have hb3 : Below w2.heap.size w2 w3 := by rw [hw3]; exact (Below.refl _ _).alloc (Nat.le_refl _) _
      have hcell : ∀ (j : Nat) (x : ByteArray), L[j]? = some x → w3.cell? ⟨w2.heap.size, j, none⟩ = some (.string x) := fun j x h => by rw [hw3]; exact strs_alloc w2 L 9 j x h
      have hlt3 : w2.heap.size < w3.heap.size := by rw [hw3]; simp
      have hLl : L.length = ws.length := by rw [← hL, List.length_map]
      have hL0 : 0 < L.length := by rw [hLl]; exact List.length_pos_iff.2 HW1.out.2.2
      have hLN : L.length ≤ 65537 := by have := HW1.out.1; have := HC1L.out; omega
      obtain ⟨L0, hL0e⟩ : ∃ x, x = L[0] := ⟨_, rfl⟩
      have hc0 : w3.cell? ⟨w2.heap.size, 0, none⟩ = some (.string L0) := by rw [hL0e]; exact hcell 0 _ (List.getElem?_eq_getElem hL0)
      have hw0 : ws[0]?.getD [] = L0.data.toList := by rw [← hL, List.getElem?_map, List.getElem?_eq_getElem hL0, ← hL0e]; rfl
      have hL0z : L0.size ≤ maxLen := by
        have h1 := HW1.out.2.1 L0.data.toList (by rw [← hL, hL0e]; exact List.mem_map.2 ⟨_, List.getElem_mem hL0, rfl⟩)
        have := Lib.size_eq L0; have := HC1L.out; unfold maxLen; omega
      have hkind : (k0 = true ∧ L0 = keyB) ∨ (k0 = false ∧ L0 = redB) ∨ (L0 ≠ keyB ∧ L0 ≠ redB) := by
        have e1 : L0 = keyB ↔ L0.data.toList = keyW := bytes_lit L0 _
        have e2 : L0 = redB ↔ L0.data.toList = readW := bytes_lit L0 _
        have hk := HK0.out
        rw [hw0] at hk
        by_cases h1 : L0 = keyB
        · exact .inl ⟨by rw [hk]; simpa using e1.1 h1, h1⟩
        · by_cases h2 : L0 = redB
          · exact .inr (.inl ⟨by rw [hk]; simpa using fun h => h1 (e1.2 h), h2⟩)
          · exact .inr (.inr ⟨h1, h2⟩)
      have hokw : (L0 = keyB ∨ L0 = redB) ↔ (ws[0]?.getD [] = keyW ∨ ws[0]?.getD [] = readW) := by
        have e1 : L0 = keyB ↔ L0.data.toList = keyW := bytes_lit L0 _
        have e2 : L0 = redB ↔ L0.data.toList = readW := bytes_lit L0 _
        rw [hw0, e1, e2]
      have HOKW := hid hokw
      have HL := hid hL
      have HC := hid hcell
      have HB3 := hid (chain HB2.out hb3)
      have HLT3 := hid hlt3
      have HLL := hid hLl
      have i0 : (0 : Int) < (L.length : Int) := by omega
      obtain ⟨N, hN⟩ : ∃ N, N = L.length := ⟨_, rfl⟩
      rw [← hN] at hLN hL0 i0 ⊢
      have HN := hid hN
      have HC0 := hid (show ∀ X, Below w3.heap.size w3 X → X.cell? ⟨w2.heap.size, 0, none⟩ = some (.string L0) from fun X hX => (hX.cell (p := ⟨w2.heap.size, 0, none⟩) hlt3).trans hc0)
      have HL0Z := hid hL0z
      clear hb3 hcell hlt3 hLl hL hw3 hN hL0e hw0 hokw hL0z hc0
      rcases hkind with ⟨hk1, hk2⟩ | ⟨hk1, hk2⟩ | ⟨hk1, hk2⟩
      · have HLK := hid (fun (X : World) (mb : Nat) (h : BegM X mb) => look_key h L0 HL0Z.out hk2)
        subst hk1
        have HKK := hid hk2
        clear hk2
        go_upto_region 8 with fail
        refine region_cut (BegR w3 (.func (.func 71) #[] #[]) true) ?_ ?_
        · skip
          refine plain_region (fun j X => wAll j = true → X.cell? ⟨w2.heap.size, 0, none⟩ = some (.string L0)) (by kernel_rfl) ?_
          have hbd : Below w3.heap.size w3 w3.drew := (Below.refl _ _).drew
          generalize w3.drew = wd at hbd ⊢
          refine AnyT.takeD (i := 1) (v := .slice (some ⟨w2.heap.size, 0, none⟩) N N) rfl rfl (by kernel_rfl) (by kernel_rfl) (by kernel_rfl) (by first | exact (fun _ _ _ h => h) | exact (fun _ _ _ h => absurd h.1 (by simp))) (by kernel_rfl) (by rfl) (by rintro w' y1; go_simp) (HC0.out _ hbd) ?_; go_frame
          refine AnyT.takeD (i := 2) (v := .pointer (some ⟨w2.heap.size, 0, none⟩)) rfl rfl (by kernel_rfl) (by kernel_rfl) (by kernel_rfl) (by first | exact (fun _ _ _ h => h) | exact (fun _ _ _ h => absurd h.1 (by simp))) (by kernel_rfl) (by rfl) (by rintro w' y1; go_simp) (HC0.out _ hbd) ?_; go_frame
          refine AnyT.takeD (i := 3) (v := .string L0) rfl rfl (by kernel_rfl) (by kernel_rfl) (by kernel_rfl) (by first | exact (fun _ _ _ h => h) | exact (fun _ _ _ h => absurd h.1 (by simp))) (by kernel_rfl) (by rfl) (by rintro w' y1; go_simp) (HC0.out _ hbd) ?_; go_frame
          have HBD := hid hbd
          clear hbd
          refine AnyT.next2 (i := 0) (j := 8) (by kernel_rfl) (wpOp_of_list rfl ?_) (wpOp_of_list rfl ?_)
          · go_wp2_with (go_at_call 40; refine (begins_c _).mono ?_; rintro e w4 ⟨rfl, hm4, hb4⟩; refine Stop.of ?_)
            refine Stop.go ?_
            have HM4 := hid hm4
            have HB4 := hid (chain HBD.out hb4)
            clear hm4 hb4
            obtain ⟨MB, hMB⟩ : ∃ MB, MB = wd.heap.size := ⟨_, rfl⟩
            rw [← hMB] at HM4 ⊢
            have HMB := hid (And.intro hMB HM4.out.lt)
            clear hMB
            go_wp2
            refine ⟨fun _ => HC0.out _ HB4.out, ?_⟩
            refine AnyT.weak (T' := fun j X => wAll j = true → (Instr.lookup 81 (.map (some MB)) (.string L0) true).run Tryz.prog X = .ok (.tuple #[.agg #[.func (.func 71) #[] #[]], .bool true]) X ∧ X.cell? ⟨w2.heap.size, 0, none⟩ = some (.string L0)) (fun j X h hj => (h hj).2) _ _ _ _ ?_
            have HST := hid (fun (X : World) (hX : Below w4.heap.size w4 X) => show (Instr.lookup 81 (.map (some MB)) (.string L0) true).run Tryz.prog X = .ok (.tuple #[.agg #[.func (.func 71) #[] #[]], .bool true]) X ∧ X.cell? ⟨w2.heap.size, 0, none⟩ = some (.string L0) from ⟨HLK.out X MB (HM4.out.keep (hX.block _ HMB.out.2)), HC0.out _ (chain HB4.out hX)⟩)
            refine AnyT.takeD (i := 4) (v := .tuple #[.agg #[.func (.func 71) #[] #[]], .bool true]) rfl rfl (by kernel_rfl) (by kernel_rfl) (by kernel_rfl) (by first | exact (fun _ _ _ h => h) | exact (fun _ _ _ h => absurd h.1 (by simp))) (by kernel_rfl) (by rfl) (by rintro w' ⟨y1, y2⟩; go_simp) (HST.out _ (Below.refl _ _)) ?_; go_frame
            refine AnyT.takeD (i := 5) (v := .tuple #[.agg #[.func (.func 71) #[] #[]], .bool true]) rfl rfl (by kernel_rfl) (by kernel_rfl) (by kernel_rfl) (by first | exact (fun _ _ _ h => h) | exact (fun _ _ _ h => absurd h.1 (by simp))) (by kernel_rfl) (by rfl) (by rintro w' ⟨y1, y2⟩; go_simp) (HST.out _ (Below.refl _ _)) ?_; go_frame
            refine AnyT.takeD (i := 6) (v := .agg #[.func (.func 71) #[] #[]]) rfl rfl (by kernel_rfl) (by kernel_rfl) (by kernel_rfl) (by first | exact (fun _ _ _ h => h) | exact (fun _ _ _ h => absurd h.1 (by simp))) (by kernel_rfl) (by rfl) (by rintro w' ⟨y1, y2⟩; go_simp) (HST.out _ (Below.refl _ _)) ?_; go_frame
            refine AnyT.takeD (i := 7) (v := .bool true) rfl rfl (by kernel_rfl) (by kernel_rfl) (by kernel_rfl) (by first | exact (fun _ _ _ h => h) | exact (fun _ _ _ h => absurd h.1 (by simp))) (by kernel_rfl) (by rfl) (by rintro w' ⟨y1, y2⟩; go_simp) (HST.out _ (Below.refl _ _)) ?_; go_frame
            refine AnyT.next (i := 8) (by kernel_rfl) rfl (wpOp_of_list rfl ?_)
            go_wp2
            have hba : Below w4.heap.size w4 (w4.alloc (.cells #[.nilFunc] 79)) := (Below.refl _ _).alloc (Nat.le_refl _) _
            refine ⟨fun _ => HST.out _ hba, ?_⟩
            refine AnyT.next (i := 9) (by kernel_rfl) rfl (wpOp_of_list rfl ?_)
            have hB5 := BBox.made w4 .nilFunc
            have c0 := hB5.cell
            have c1 := hB5.frozen
            have HB6 := hid (BBox.made w4 (.func (.func 71) #[] #[]))
            have HW6 := hid (chain HB4.out ((Below.refl w4.heap.size w4).alloc (Nat.le_refl _) (.cells #[.func (.func 71) #[] #[]] 79)))
            have HBW := hid ((Below.refl w4.heap.size w4).alloc (Nat.le_refl _) (.cells #[.func (.func 71) #[] #[]] 79))
            clear hba hB5
            go_wp2
            refine ⟨fun _ => HST.out _ HBW.out, ?_⟩
            refine AnyT.next (i := 10) (by kernel_rfl) rfl (wpOp_of_list rfl ?_)
            go_wp2
            refine ⟨fun _ => HST.out _ HBW.out, ?_⟩
            refine AnyT.done (by kernel_rfl) ?_ _
            exact ⟨rfl, .map (some MB), .slice (some ⟨w2.heap.size, 0, none⟩) N N, .pointer (some ⟨w2.heap.size, 0, none⟩), .string L0, .tuple #[.agg #[.func (.func 71) #[] #[]], .bool true], .tuple #[.agg #[.func (.func 71) #[] #[]], .bool true], .agg #[.func (.func 71) #[] #[]], .bool true, w4.heap.size, by go_simp, HW6.out, HB4.out.size, HB6.out⟩
          · go_wp2
            obtain ⟨w5, hw5⟩ : ∃ w5, w5 = wd.alloc (.cells #[.nilFunc] 79) := ⟨_, rfl⟩
            rw [← hw5]
            have hb5 : Below wd.heap.size wd w5 := by rw [hw5]; exact (Below.refl _ _).alloc (Nat.le_refl _) _
            have hB5 : BBox w5 wd.heap.size .nilFunc := by rw [hw5]; exact BBox.made wd .nilFunc
            obtain ⟨tb, htb⟩ : ∃ t, t = wd.heap.size := ⟨_, rfl⟩
            rw [← htb] at hB5 ⊢
            have HTB := hid (show w3.heap.size ≤ tb by rw [htb]; exact HBD.out.size)
            have HB5 := hid (chain HBD.out hb5)
            have HX5 := hid hB5
            clear hw5 hb5 hB5 htb
            refine ⟨fun _ => HC0.out _ HB5.out, ?_⟩
            refine AnyT.next (i := 0) (by kernel_rfl) rfl (wpOp_of_list rfl ?_)
            go_wp2_with (go_at_call 40; refine (begins_c _).mono ?_; rintro e w4 ⟨rfl, hm4, hb4⟩; refine Stop.of ?_)
            refine Stop.go ?_
            have HM4 := hid hm4
            have HB4 := hid (chain HB5.out hb4)
            have HX4 := hid (HX5.out.keep (hb4.block _ HX5.out.lt))
            clear hm4 hb4
            obtain ⟨MB, hMB⟩ : ∃ MB, MB = w5.heap.size := ⟨_, rfl⟩
            rw [← hMB] at HM4 ⊢
            have HMB := hid (And.intro hMB HM4.out.lt)
            have HMT := hid (show MB ≠ tb by have := HX5.out.lt; omega)
            clear hMB
            go_wp2
            refine ⟨fun _ => HC0.out _ HB4.out, ?_⟩
            refine AnyT.weak (T' := fun j X => wAll j = true → (Instr.lookup 81 (.map (some MB)) (.string L0) true).run Tryz.prog X = .ok (.tuple #[.agg #[.func (.func 71) #[] #[]], .bool true]) X ∧ X.cell? ⟨w2.heap.size, 0, none⟩ = some (.string L0)) (fun j X h hj => (h hj).2) _ _ _ _ ?_
            have HST := hid (fun (X : World) (h1 : X.heap[MB]? = w4.heap[MB]?) (hX : Below w3.heap.size w3 X) => show (Instr.lookup 81 (.map (some MB)) (.string L0) true).run Tryz.prog X = .ok (.tuple #[.agg #[.func (.func 71) #[] #[]], .bool true]) X ∧ X.cell? ⟨w2.heap.size, 0, none⟩ = some (.string L0) from ⟨HLK.out X MB (HM4.out.keep h1), HC0.out _ hX⟩)
            refine AnyT.takeD (i := 4) (v := .tuple #[.agg #[.func (.func 71) #[] #[]], .bool true]) rfl rfl (by kernel_rfl) (by kernel_rfl) (by kernel_rfl) (by first | exact (fun _ _ _ h => h) | exact (fun _ _ _ h => absurd h.1 (by simp))) (by kernel_rfl) (by rfl) (by rintro w' ⟨y1, y2⟩; go_simp) (HST.out _ rfl HB4.out) ?_; go_frame
            refine AnyT.takeD (i := 5) (v := .tuple #[.agg #[.func (.func 71) #[] #[]], .bool true]) rfl rfl (by kernel_rfl) (by kernel_rfl) (by kernel_rfl) (by first | exact (fun _ _ _ h => h) | exact (fun _ _ _ h => absurd h.1 (by simp))) (by kernel_rfl) (by rfl) (by rintro w' ⟨y1, y2⟩; go_simp) (HST.out _ rfl HB4.out) ?_; go_frame
            refine AnyT.takeD (i := 6) (v := .agg #[.func (.func 71) #[] #[]]) rfl rfl (by kernel_rfl) (by kernel_rfl) (by kernel_rfl) (by first | exact (fun _ _ _ h => h) | exact (fun _ _ _ h => absurd h.1 (by simp))) (by kernel_rfl) (by rfl) (by rintro w' ⟨y1, y2⟩; go_simp) (HST.out _ rfl HB4.out) ?_; go_frame
            refine AnyT.takeD (i := 7) (v := .bool true) rfl rfl (by kernel_rfl) (by kernel_rfl) (by kernel_rfl) (by first | exact (fun _ _ _ h => h) | exact (fun _ _ _ h => absurd h.1 (by simp))) (by kernel_rfl) (by rfl) (by rintro w' ⟨y1, y2⟩; go_simp) (HST.out _ rfl HB4.out) ?_; go_frame
            refine AnyT.next (i := 9) (by kernel_rfl) rfl (wpOp_of_list rfl ?_)
            have c0 := HX4.out.cell
            have c1 := HX4.out.frozen
            have HB6 := hid (HX4.out.set (.func (.func 71) #[] #[]))
            have HW6 := hid (below_set HB4.out (b := tb) HTB.out 0 (.func (.func 71) #[] #[]))
            have HK6 := hid ((Keep.set w4 tb 0 (.func (.func 71) #[] #[])).block MB HMB.out.2 HMT.out)
            go_wp2
            refine ⟨fun _ => HST.out _ HK6.out HW6.out, ?_⟩
            refine AnyT.next (i := 10) (by kernel_rfl) rfl (wpOp_of_list rfl ?_)
            go_wp2
            refine ⟨fun _ => HST.out _ HK6.out HW6.out, ?_⟩
            refine AnyT.done (by kernel_rfl) ?_ _
            exact ⟨rfl, .map (some MB), .slice (some ⟨w2.heap.size, 0, none⟩) N N, .pointer (some ⟨w2.heap.size, 0, none⟩), .string L0, .tuple #[.agg #[.func (.func 71) #[] #[]], .bool true], .tuple #[.agg #[.func (.func 71) #[] #[]], .bool true], .agg #[.func (.func 71) #[] #[]], .bool true, tb, by go_simp, HW6.out, HTB.out, HB6.out⟩
        · skip
          rintro a' W ⟨v42, v43, v44, v45, v46, v41, v47, v48, tb, rfl, hbW, htb, hbx⟩
          have HBW := hid (chain HB3.out hbW)
          have HBX := hid hbx
          have HC4 := hid (fun (X : World) (hX : Below W.heap.size W X) (j : Nat) (x : ByteArray) (h : L[j]? = some x) => show X.cell? ⟨w2.heap.size, j, none⟩ = some (.string x) from ((chain hbW hX).cell (p := ⟨w2.heap.size, j, none⟩) HLT3.out).trans (HC.out j x h))
          have hTL : ws.tail.length + 1 = N := by rw [HN.out, HLL.out, List.length_tail]; have := List.length_pos_iff.2 HW1.out.2.2; omega
          obtain ⟨tl, htl⟩ : ∃ t, t = ws.tail.length := ⟨_, rfl⟩
          rw [← htl] at hTL
          have HTW := hid htl
          have HNN := hid hTL
          obtain ⟨wo, hwo⟩ : ∃ wo, wo = wr := ⟨_, rfl⟩
          subst hwo
          clear hbW htb hbx hTL htl HLK HC0
          have HN2 := hid (show 1 ≤ N from hL0)
          rcases (show N = 1 ∨ (¬ N = 1 ∧ 1 ≤ N) by omega) with hN1 | ⟨hn1, hn2⟩
          all_goals
            first | subst hN1 | skip
            go_wp2
            go_loopw [13, 55] (fun v i wr => ∃ j : Nat, j ≤ tl ∧ i = .int .i64 j ∧ wr.ownsRow W.heap.size 3 1 v j (((ws.tail.map atV).take j).map (Value.int .i64)) ∧ Below W.heap.size W wr) (fun _ i _ => tl - (intOf i).toNat)
            case atStart => exact ⟨0, Nat.zero_le _, rfl, World.ownsRow_nil _ _ _ _, Below.refl _ _⟩
            case round =>
              obtain ⟨j, hj, rfl, hown, hbj⟩ := hrel
              obtain ⟨va2, vc2, rfl⟩ := ownsRow_slice hown
              have hNN := HNN.out
              by_cases hlt : j < tl
              · try (exfalso; omega)
                all_goals
                  have hlt' : j < ws.tail.length := by rw [← HTW.out]; exact hlt
                  have hkL : j + 1 < L.length := by rw [← HN.out]; omega
                  have hkw : j + 1 < ws.length := by rw [← HLL.out]; exact hkL
                  obtain ⟨D, hD⟩ : ∃ D, D = L[j + 1] := ⟨_, rfl⟩
                  have hc : wr.cell? ⟨w2.heap.size, 1 + j, none⟩ = some (.string D) := by rw [Nat.add_comm, hD]; exact HC4.out wr hbj _ _ (List.getElem?_eq_getElem hkL)
                  have hwj : ws.tail[j]'hlt' = D.data.toList := by
                    rw [List.getElem_tail]
                    have h := congrArg (fun l => l[j + 1]?) HL.out
                    simp only [List.getElem?_map, List.getElem?_eq_getElem hkL, List.getElem?_eq_getElem hkw, Option.map_some] at h
                    rw [hD]; exact (Option.some.inj h).symm
                  have hwl := HW1.out.2.1 (ws.tail[j]'hlt') (List.mem_of_mem_tail (List.getElem_mem hlt'))
                  have htk : (ws.tail.map atV).take (j + 1) = (ws.tail.map atV).take j ++ [atV D.data.toList] := by rw [List.take_succ_eq_append_getElem (by rw [List.length_map]; exact hlt'), List.getElem_map, hwj]
                  have hDz : D.size ≤ 65536 := by have := Lib.size_eq D; have := HC1L.out; rw [hwj] at hwl; omega
                  have HA := hid (atoi_c wr (HX.out.below (chain HB.out (chain HBW.out hbj))) D (by omega))
                  obtain ⟨X, hXe⟩ : ∃ X, X = atV D.data.toList := ⟨_, rfl⟩
                  rw [← hXe] at HA htk
                  obtain ⟨V, hV⟩ : ∃ V, V = (ws.tail.map atV).take j := ⟨_, rfl⟩
                  rw [← hV] at hown htk
                  have HTK := hid htk
                  have HO := hid hown
                  clear hV
                  have HBJ := hid hbj
                  have hN6 : N ≤ 65537 := by omega
                  have M1 := hid (show j + 1 ≤ maxLen by unfold maxLen; omega)
                  have M2 := hid (show (j + 1) * 8 ≤ 140737488355328 by omega)
                  clear hlt' hXe htk hwl hwj hDz hkL hkw hD hown hbj
                  go_wp2_with (go_at_call 25; refine HA.out.mono ?_; rintro e w5 ⟨ev, rfl, hb5⟩; refine Stop.of ?_)
                  refine Stop.go ?_
                  have HB5 := hid (chain HBJ.out hb5)
                  have HO5 := hid (own_below HO.out hb5)
                  have HN5 := hid (one_news w5 (.int .i64 X) 3)
                  have M3 := hid (Nat.le_trans HB5.out.size (le_alloc w5 (.cells #[.int .i64 X] 3)))
                  have HLA := hid (HB5.out.alloc HB5.out.size (.cells #[.int .i64 X] 3))
                  clear hb5
                  go_wp2_with (at_builtin; refine wpList_app _ rfl (.tmp 64) (.tmp 66) 30 rfl W.heap.size 3 (.int .i64 0) 1 8 Tryz.underlying30 info_int rfl Nat.one_pos (.slice va2 j vc2) j _ rfl (HO5.out.alloc _) (some ⟨w5.heap.size, 0, none⟩) 1 1 [.int .i64 X] rfl rfl no_none HN5.out (one_int _) M1.out M2.out M3.out ?_; refine Stop.of ?_)
                  refine Stop.go ?_
                  intro a7 c7 w7 own7 g7
                  have hb7 := HLA.out.grown g7 M3.out (fun q hq => (HO5.out.lt q hq).1)
                  have HO7 := hid own7
                  have HB7 := hid hb7
                  clear own7 g7 hb7
                  go_wp2
                  refine ⟨⟨j + 1, by omega, by go_num, ?_, HB7.out⟩, by simp [intOf]; omega⟩
                  rw [HTK.out, List.map_append]; exact HO7.out
              · obtain rfl : j = tl := by omega
                have hall : (ws.tail.map atV).take j = vals := by rw [HVA.out]; exact List.take_of_length_le (by rw [List.length_map, ← HTW.out]; exact Nat.le_refl _)
                rw [hall] at hown
                have hvl : vals.length = j := by rw [HVA.out, List.length_map, HTW.out]
                have hj6 : j ≤ 65536 := by omega
                have hvi : ∀ x ∈ vals, isInt x := fun x hx => by
                  rw [HVA.out] at hx
                  obtain ⟨y, _, rfl⟩ := List.mem_map.1 hx
                  exact atV_isInt _
                have hbi := chain HBW.out hbj
                have cb := (HBX.out.keep (hbj.block _ HBX.out.lt)).cell
                have HO := hid hown
                have HVI := hid hvi
                have HVL := hid hvl
                have HBI := hid hbi
                have HFN := hid (fun (X : World) => begF1 X va2 j vc2)
                clear hall hown hvl hvi hbi HC4 HBX hbj
                go_wp2_with (go_at_call 71; refine (HFN.out _).mono ?_; rintro e w5 ⟨rfl, hb5⟩; refine Stop.of ?_)
                refine Stop.go ?_
                have HF5 := hid hb5
                clear hb5 cb
                obtain ⟨w6, hw6⟩ : ∃ w6, w6 = w5.alloc (.cells #[.bool true, .slice va2 j vc2] 73) := ⟨_, rfl⟩
                obtain ⟨xb, hxb⟩ : ∃ xb, xb = w5.heap.size := ⟨_, rfl⟩
                have hb6 : Below wr.heap.size wr w6 := by rw [hw6]; exact HF5.out.alloc HF5.out.size _
                have hx6 : FBox w6 xb true (.slice va2 j vc2) := by rw [hw6, hxb]; exact FBox.made w5 true _
                have hs6 : w6.heap.size = xb + 1 := by rw [hw6, hxb]; simp
                have hwo6 : Below wo.heap.size wo w6 := chain HBI.out hb6
                obtain ⟨xs, ho, hg, he⟩ := HTO.out.below hwo6
                rw [← HK.out] at ho
                have h1 : ElemI 3 w6 w.heap.size (fun _ => True) (.slice va2 j vc2) vals := ElemI.own' (own_below HO.out hb6) rfl HVL.out (by unfold maxLen; omega) (fun _ _ => trivial)
                have HH := hid (And.intro he h1)
                have HOO := hid ho
                have HW6 := hid (chain HB.out hwo6)
                have hnw := news2 w6 (.bool true) (.slice va2 j vc2) 73
                rw [hs6] at hnw
                have HNW := hid hnw
                have HONE := hid (show ∀ u ∈ [Value.bool true, .slice va2 j vc2], u.oneCell' = true from by intro u hu; simp at hu; rcases hu with rfl | rfl <;> rfl)
                have M1 := hid (show k + 1 ≤ maxLen by unfold maxLen; omega)
                have M2 := hid (show (k + 1) * 32 ≤ 140737488355328 by omega)
                have M3 := hid (Nat.le_trans HW6.out.size (le_alloc w6 (.cells #[.bool true, .slice va2 j vc2] 73)))
                have HLA := hid (HW6.out.alloc HW6.out.size (.cells #[.bool true, .slice va2 j vc2] 73))
                have HX6 := hid hx6
                have f0 := hx6.cell0
                have f1 := hx6.cell1
                have HXO := hid (show wo.heap.size ≤ xb by have h1 := HBI.out.size; have h2 := HF5.out.size; omega)
                have HS6 := hid hs6
                clear hb6 hx6 hwo6 ho hg he h1 hnw hs6
                go_wp2_with (first | (at_builtin; refine wpList_app _ rfl (.tmp 73) (.tmp 75) 36 rfl w.heap.size 73 (.agg #[.bool false, .slice none 0 0]) 2 32 Tryz.underlying36 info_frame rfl (by decide) (.slice va k vc) k xs rfl (by rw [← hw6]; exact HOO.out.alloc _) (some ⟨w5.heap.size + 1, 0, none⟩) 1 1 [.bool true, .slice va2 j vc2] rfl rfl no_none (by rw [← hw6, ← hxb]; exact HNW.out) HONE.out M1.out M2.out (by rw [← hw6]; exact M3.out) ?_; refine Stop.of ?_))
                refine Stop.go ?_
                rw [← hw6, ← hxb]
                have HW6E := hid (And.intro hw6 hxb)
                clear hw6 hxb f0 f1
                intro a8 c8 w8 own8 g8
                have hT8 : FrmsO w8 w.heap.size (fun _ => True) (.slice a8 (k + 1) c8) (acc ++ [(true, vals)]) := FrmsO.snoc (f := (true, vals)) (u := .slice va2 j vc2) (W := w6) (w1 := w6.alloc (.cells #[.bool true, .slice va2 j vc2] 73)) (v := .slice va k vc) (by rw [← HK.out]; exact HOO.out) HH.out.1 HH.out.2 ((Below.refl _ w6).alloc (Nat.le_refl _) _) g8 (by rw [← HK.out]; exact own8) (fun _ _ => trivial)
                have hb8 : Below w.heap.size w w8 := HLA.out.grown g8 M3.out (fun q hq => (HOO.out.lt q hq).1)
                have hel8 : ElemI 3 w8 w.heap.size (fun _ => True) (.slice va2 j vc2) vals := elem_grown HOO.out HH.out.2 ((Below.refl _ w6).alloc (Nat.le_refl _) _) g8
                have hbx8 : FBox w8 xb true (.slice va2 j vc2) := HX6.out.keep (by
                  obtain ⟨xs0, ho0, _⟩ := HTO.out
                  refine (g8.block xb (Nat.lt_of_lt_of_le HX6.out.lt (by simp)) ?_).trans (Below.heap_alloc _ _ _ HX6.out.lt)
                  intro e
                  have h1 := (ho0.lt xb e.symm).2
                  have := HXO.out
                  omega)
                obtain ⟨a9, c9, e9, hm9, hfr⟩ := hT8.reads
                have hl9 : (acc ++ [(true, vals)]).length = k + 1 := by rw [List.length_append, ← HK.out]; rfl
                rw [hl9] at e9 hm9
                cases e9
                have HV8 := hid (fun (X : World) (hX : Below w8.heap.size w8 X) => HVF.out X (chain hb8 hX) a8 (k + 1) c8 (acc ++ [(true, vals)]) hl9 hm9 (hfr.below hX))
                have HWR := hid (swritten_c w8 ((HX.out.below hb8).1) true va2 j vc2 vals HVL.out (by omega) hel8.ints.2.2 HVI.out)
                obtain ⟨Z, hZ⟩ : ∃ Z : ByteArray, Z = ⟨(lineL (true, vals)).toArray⟩ := ⟨_, rfl⟩
                rw [← hZ] at HWR
                have hZd : Z.data.toList = lineL (true, vals) := by rw [hZ]
                have hws : ws[0]?.getD [] = keyW ∨ ws[0]?.getD [] = readW := HOKW.out.1 (by first | exact .inl HKK.out | exact .inr HKK.out)
                have HHP := hid (fun (W : World) => HHPQ.out Z W)
                have hno2 := HNO.out
                have hyes2 := HYES.out
                rw [← hZd] at hno2 hyes2
                obtain ⟨hp, hhp⟩ : ∃ b, b = Lib.hasPrefix Bd Z.data.toList := ⟨_, rfl⟩
                rw [← hhp] at HHP hno2 hyes2
                have HSTEP := hid (fun (h : validB M (acc ++ [(true, vals)]) = true) => step_bound h)
                obtain ⟨vb, hvb⟩ : ∃ b, b = validB M (acc ++ [(true, vals)]) := ⟨_, rfl⟩
                rw [← hvb] at HV8 hno2 hyes2 HSTEP
                have HT8 := hid hT8
                have HB8 := hid hb8
                have HYS := hid (fun h1 h2 => hyes2 ⟨hws, h1, h2⟩)
                have HERR := hid (fun h => show ∀ W, Below w8.heap.size w8 W → ∃ v, Ending.returned (.tuple #[.slice none 0 0, .int .i64 (k : Int), .int .i64 2]) = .returned (.tuple #[v, .int .i64 (PT.2.1 : Nat), .int .i64 PT.2.2]) ∧ FrmsO W w.heap.size (fun _ => True) v PT.1 ∧ Below w.heap.size w W from fun W hW => ⟨.slice none 0 0, by rw [hno2 h], by rw [hno2 h]; exact FrmsO.nil _ _ _, chain HB8.out hW⟩)
                have g0 := hbx8.cell0
                have g1 := hbx8.cell1
                clear own8 g8 hT8 hb8 hel8 hbx8 hfr hl9 hZ hZd hvb hhp hws hno2 hyes2
                go_wp2_with (go_at_call 41; refine HWR.out.mono ?_; rintro e w9 ⟨rfl, hb9⟩; refine Stop.of ?_)
                refine Stop.go ?_
                have HB9 := hid hb9
                clear hb9 g0 g1
                cases hp with
                | false =>
                  have HR := hid (HERR.out (by simp))
                  go_wp2_with (go_at_call 27; refine (HHP.out _).mono ?_; rintro e w10 ⟨rfl, rfl⟩)
                  refine bodyPost_ret (v := .tuple #[.slice none 0 0, .int .i64 (k : Int), .int .i64 2]) (by simp [results, Tryz.results15, go_sem]) rfl ?_
                  exact HR.out _ HB9.out
                | true =>
                  cases vb with
                  | false =>
                    have HR := hid (HERR.out (by simp))
                    go_wp2_with (first | (go_at_call 27; refine (HHP.out _).mono ?_; rintro e w10 ⟨rfl, rfl⟩) | (go_at_call 20; refine (HV8.out _ HB9.out).mono ?_; rintro e w11 ⟨rfl, hb11⟩))
                    refine bodyPost_ret (v := .tuple #[.slice none 0 0, .int .i64 (k : Int), .int .i64 2]) (by simp [results, Tryz.results15, go_sem]) rfl ?_
                    exact HR.out _ (chain HB9.out hb11)
                  | true =>
                    have hy := HYS.out (by first | rfl | trivial) (by first | rfl | trivial)
                    have HY1 := hid hy.1
                    have HT3 := hid (Nat.lt_of_le_of_lt (Nat.le_of_eq HT2.out.2) hy.2)
                    clear hy
                    go_wp2_with (first | (go_at_call 27; refine (HHP.out _).mono ?_; rintro e w10 ⟨rfl, rfl⟩) | (go_at_call 20; refine (HV8.out _ HB9.out).mono ?_; rintro e w11 ⟨rfl, hb11⟩))
                    refine ⟨⟨acc ++ [(true, vals)], T2, f - 1, rfl, ?_, HSTEP.out (by first | rfl | trivial), HT8.out.below (chain HB9.out hb11), ?_, ?_, hid ?_, chain HB8.out (chain HB9.out hb11)⟩, ?_⟩
                    · rw [List.length_append, ← HK.out]; rfl
                    · have := HT3.out; omega
                    · have := HT3.out; omega
                    · rw [HT2.out.1]; exact HY1.out
                    · exact HT3.out
      · have HLK := hid (fun (X : World) (mb : Nat) (h : BegM X mb) => look_read h L0 HL0Z.out hk2)
        subst hk1
        have HKK := hid hk2
        clear hk2
        go_upto_region 8 with fail
        refine region_cut (BegR w3 (.func (.func 72) #[] #[]) true) ?_ ?_
        · skip
          refine plain_region (fun j X => wAll j = true → X.cell? ⟨w2.heap.size, 0, none⟩ = some (.string L0)) (by kernel_rfl) ?_
          have hbd : Below w3.heap.size w3 w3.drew := (Below.refl _ _).drew
          generalize w3.drew = wd at hbd ⊢
          refine AnyT.takeD (i := 1) (v := .slice (some ⟨w2.heap.size, 0, none⟩) N N) rfl rfl (by kernel_rfl) (by kernel_rfl) (by kernel_rfl) (by first | exact (fun _ _ _ h => h) | exact (fun _ _ _ h => absurd h.1 (by simp))) (by kernel_rfl) (by rfl) (by rintro w' y1; go_simp) (HC0.out _ hbd) ?_; go_frame
          refine AnyT.takeD (i := 2) (v := .pointer (some ⟨w2.heap.size, 0, none⟩)) rfl rfl (by kernel_rfl) (by kernel_rfl) (by kernel_rfl) (by first | exact (fun _ _ _ h => h) | exact (fun _ _ _ h => absurd h.1 (by simp))) (by kernel_rfl) (by rfl) (by rintro w' y1; go_simp) (HC0.out _ hbd) ?_; go_frame
          refine AnyT.takeD (i := 3) (v := .string L0) rfl rfl (by kernel_rfl) (by kernel_rfl) (by kernel_rfl) (by first | exact (fun _ _ _ h => h) | exact (fun _ _ _ h => absurd h.1 (by simp))) (by kernel_rfl) (by rfl) (by rintro w' y1; go_simp) (HC0.out _ hbd) ?_; go_frame
          have HBD := hid hbd
          clear hbd
          refine AnyT.next2 (i := 0) (j := 8) (by kernel_rfl) (wpOp_of_list rfl ?_) (wpOp_of_list rfl ?_)
          · go_wp2_with (go_at_call 40; refine (begins_c _).mono ?_; rintro e w4 ⟨rfl, hm4, hb4⟩; refine Stop.of ?_)
            refine Stop.go ?_
            have HM4 := hid hm4
            have HB4 := hid (chain HBD.out hb4)
            clear hm4 hb4
            obtain ⟨MB, hMB⟩ : ∃ MB, MB = wd.heap.size := ⟨_, rfl⟩
            rw [← hMB] at HM4 ⊢
            have HMB := hid (And.intro hMB HM4.out.lt)
            clear hMB
            go_wp2
            refine ⟨fun _ => HC0.out _ HB4.out, ?_⟩
            refine AnyT.weak (T' := fun j X => wAll j = true → (Instr.lookup 81 (.map (some MB)) (.string L0) true).run Tryz.prog X = .ok (.tuple #[.agg #[.func (.func 72) #[] #[]], .bool true]) X ∧ X.cell? ⟨w2.heap.size, 0, none⟩ = some (.string L0)) (fun j X h hj => (h hj).2) _ _ _ _ ?_
            have HST := hid (fun (X : World) (hX : Below w4.heap.size w4 X) => show (Instr.lookup 81 (.map (some MB)) (.string L0) true).run Tryz.prog X = .ok (.tuple #[.agg #[.func (.func 72) #[] #[]], .bool true]) X ∧ X.cell? ⟨w2.heap.size, 0, none⟩ = some (.string L0) from ⟨HLK.out X MB (HM4.out.keep (hX.block _ HMB.out.2)), HC0.out _ (chain HB4.out hX)⟩)
            refine AnyT.takeD (i := 4) (v := .tuple #[.agg #[.func (.func 72) #[] #[]], .bool true]) rfl rfl (by kernel_rfl) (by kernel_rfl) (by kernel_rfl) (by first | exact (fun _ _ _ h => h) | exact (fun _ _ _ h => absurd h.1 (by simp))) (by kernel_rfl) (by rfl) (by rintro w' ⟨y1, y2⟩; go_simp) (HST.out _ (Below.refl _ _)) ?_; go_frame
            refine AnyT.takeD (i := 5) (v := .tuple #[.agg #[.func (.func 72) #[] #[]], .bool true]) rfl rfl (by kernel_rfl) (by kernel_rfl) (by kernel_rfl) (by first | exact (fun _ _ _ h => h) | exact (fun _ _ _ h => absurd h.1 (by simp))) (by kernel_rfl) (by rfl) (by rintro w' ⟨y1, y2⟩; go_simp) (HST.out _ (Below.refl _ _)) ?_; go_frame
            refine AnyT.takeD (i := 6) (v := .agg #[.func (.func 72) #[] #[]]) rfl rfl (by kernel_rfl) (by kernel_rfl) (by kernel_rfl) (by first | exact (fun _ _ _ h => h) | exact (fun _ _ _ h => absurd h.1 (by simp))) (by kernel_rfl) (by rfl) (by rintro w' ⟨y1, y2⟩; go_simp) (HST.out _ (Below.refl _ _)) ?_; go_frame
            refine AnyT.takeD (i := 7) (v := .bool true) rfl rfl (by kernel_rfl) (by kernel_rfl) (by kernel_rfl) (by first | exact (fun _ _ _ h => h) | exact (fun _ _ _ h => absurd h.1 (by simp))) (by kernel_rfl) (by rfl) (by rintro w' ⟨y1, y2⟩; go_simp) (HST.out _ (Below.refl _ _)) ?_; go_frame
            refine AnyT.next (i := 8) (by kernel_rfl) rfl (wpOp_of_list rfl ?_)
            go_wp2
            have hba : Below w4.heap.size w4 (w4.alloc (.cells #[.nilFunc] 79)) := (Below.refl _ _).alloc (Nat.le_refl _) _
            refine ⟨fun _ => HST.out _ hba, ?_⟩
            refine AnyT.next (i := 9) (by kernel_rfl) rfl (wpOp_of_list rfl ?_)
            have hB5 := BBox.made w4 .nilFunc
            have c0 := hB5.cell
            have c1 := hB5.frozen
            have HB6 := hid (BBox.made w4 (.func (.func 72) #[] #[]))
            have HW6 := hid (chain HB4.out ((Below.refl w4.heap.size w4).alloc (Nat.le_refl _) (.cells #[.func (.func 72) #[] #[]] 79)))
            have HBW := hid ((Below.refl w4.heap.size w4).alloc (Nat.le_refl _) (.cells #[.func (.func 72) #[] #[]] 79))
            clear hba hB5
            go_wp2
            refine ⟨fun _ => HST.out _ HBW.out, ?_⟩
            refine AnyT.next (i := 10) (by kernel_rfl) rfl (wpOp_of_list rfl ?_)
            go_wp2
            refine ⟨fun _ => HST.out _ HBW.out, ?_⟩
            refine AnyT.done (by kernel_rfl) ?_ _
            exact ⟨rfl, .map (some MB), .slice (some ⟨w2.heap.size, 0, none⟩) N N, .pointer (some ⟨w2.heap.size, 0, none⟩), .string L0, .tuple #[.agg #[.func (.func 72) #[] #[]], .bool true], .tuple #[.agg #[.func (.func 72) #[] #[]], .bool true], .agg #[.func (.func 72) #[] #[]], .bool true, w4.heap.size, by go_simp, HW6.out, HB4.out.size, HB6.out⟩
          · go_wp2
            obtain ⟨w5, hw5⟩ : ∃ w5, w5 = wd.alloc (.cells #[.nilFunc] 79) := ⟨_, rfl⟩
            rw [← hw5]
            have hb5 : Below wd.heap.size wd w5 := by rw [hw5]; exact (Below.refl _ _).alloc (Nat.le_refl _) _
            have hB5 : BBox w5 wd.heap.size .nilFunc := by rw [hw5]; exact BBox.made wd .nilFunc
            obtain ⟨tb, htb⟩ : ∃ t, t = wd.heap.size := ⟨_, rfl⟩
            rw [← htb] at hB5 ⊢
            have HTB := hid (show w3.heap.size ≤ tb by rw [htb]; exact HBD.out.size)
            have HB5 := hid (chain HBD.out hb5)
            have HX5 := hid hB5
            clear hw5 hb5 hB5 htb
            refine ⟨fun _ => HC0.out _ HB5.out, ?_⟩
            refine AnyT.next (i := 0) (by kernel_rfl) rfl (wpOp_of_list rfl ?_)
            go_wp2_with (go_at_call 40; refine (begins_c _).mono ?_; rintro e w4 ⟨rfl, hm4, hb4⟩; refine Stop.of ?_)
            refine Stop.go ?_
            have HM4 := hid hm4
            have HB4 := hid (chain HB5.out hb4)
            have HX4 := hid (HX5.out.keep (hb4.block _ HX5.out.lt))
            clear hm4 hb4
            obtain ⟨MB, hMB⟩ : ∃ MB, MB = w5.heap.size := ⟨_, rfl⟩
            rw [← hMB] at HM4 ⊢
            have HMB := hid (And.intro hMB HM4.out.lt)
            have HMT := hid (show MB ≠ tb by have := HX5.out.lt; omega)
            clear hMB
            go_wp2
            refine ⟨fun _ => HC0.out _ HB4.out, ?_⟩
            refine AnyT.weak (T' := fun j X => wAll j = true → (Instr.lookup 81 (.map (some MB)) (.string L0) true).run Tryz.prog X = .ok (.tuple #[.agg #[.func (.func 72) #[] #[]], .bool true]) X ∧ X.cell? ⟨w2.heap.size, 0, none⟩ = some (.string L0)) (fun j X h hj => (h hj).2) _ _ _ _ ?_
            have HST := hid (fun (X : World) (h1 : X.heap[MB]? = w4.heap[MB]?) (hX : Below w3.heap.size w3 X) => show (Instr.lookup 81 (.map (some MB)) (.string L0) true).run Tryz.prog X = .ok (.tuple #[.agg #[.func (.func 72) #[] #[]], .bool true]) X ∧ X.cell? ⟨w2.heap.size, 0, none⟩ = some (.string L0) from ⟨HLK.out X MB (HM4.out.keep h1), HC0.out _ hX⟩)
            refine AnyT.takeD (i := 4) (v := .tuple #[.agg #[.func (.func 72) #[] #[]], .bool true]) rfl rfl (by kernel_rfl) (by kernel_rfl) (by kernel_rfl) (by first | exact (fun _ _ _ h => h) | exact (fun _ _ _ h => absurd h.1 (by simp))) (by kernel_rfl) (by rfl) (by rintro w' ⟨y1, y2⟩; go_simp) (HST.out _ rfl HB4.out) ?_; go_frame
            refine AnyT.takeD (i := 5) (v := .tuple #[.agg #[.func (.func 72) #[] #[]], .bool true]) rfl rfl (by kernel_rfl) (by kernel_rfl) (by kernel_rfl) (by first | exact (fun _ _ _ h => h) | exact (fun _ _ _ h => absurd h.1 (by simp))) (by kernel_rfl) (by rfl) (by rintro w' ⟨y1, y2⟩; go_simp) (HST.out _ rfl HB4.out) ?_; go_frame
            refine AnyT.takeD (i := 6) (v := .agg #[.func (.func 72) #[] #[]]) rfl rfl (by kernel_rfl) (by kernel_rfl) (by kernel_rfl) (by first | exact (fun _ _ _ h => h) | exact (fun _ _ _ h => absurd h.1 (by simp))) (by kernel_rfl) (by rfl) (by rintro w' ⟨y1, y2⟩; go_simp) (HST.out _ rfl HB4.out) ?_; go_frame
            refine AnyT.takeD (i := 7) (v := .bool true) rfl rfl (by kernel_rfl) (by kernel_rfl) (by kernel_rfl) (by first | exact (fun _ _ _ h => h) | exact (fun _ _ _ h => absurd h.1 (by simp))) (by kernel_rfl) (by rfl) (by rintro w' ⟨y1, y2⟩; go_simp) (HST.out _ rfl HB4.out) ?_; go_frame
            refine AnyT.next (i := 9) (by kernel_rfl) rfl (wpOp_of_list rfl ?_)
            have c0 := HX4.out.cell
            have c1 := HX4.out.frozen
            have HB6 := hid (HX4.out.set (.func (.func 72) #[] #[]))
            have HW6 := hid (below_set HB4.out (b := tb) HTB.out 0 (.func (.func 72) #[] #[]))
            have HK6 := hid ((Keep.set w4 tb 0 (.func (.func 72) #[] #[])).block MB HMB.out.2 HMT.out)
            go_wp2
            refine ⟨fun _ => HST.out _ HK6.out HW6.out, ?_⟩
            refine AnyT.next (i := 10) (by kernel_rfl) rfl (wpOp_of_list rfl ?_)
            go_wp2
            refine ⟨fun _ => HST.out _ HK6.out HW6.out, ?_⟩
            refine AnyT.done (by kernel_rfl) ?_ _
            exact ⟨rfl, .map (some MB), .slice (some ⟨w2.heap.size, 0, none⟩) N N, .pointer (some ⟨w2.heap.size, 0, none⟩), .string L0, .tuple #[.agg #[.func (.func 72) #[] #[]], .bool true], .tuple #[.agg #[.func (.func 72) #[] #[]], .bool true], .agg #[.func (.func 72) #[] #[]], .bool true, tb, by go_simp, HW6.out, HTB.out, HB6.out⟩
        · skip
          rintro a' W ⟨v42, v43, v44, v45, v46, v41, v47, v48, tb, rfl, hbW, htb, hbx⟩
          have HBW := hid (chain HB3.out hbW)
          have HBX := hid hbx
          have HC4 := hid (fun (X : World) (hX : Below W.heap.size W X) (j : Nat) (x : ByteArray) (h : L[j]? = some x) => show X.cell? ⟨w2.heap.size, j, none⟩ = some (.string x) from ((chain hbW hX).cell (p := ⟨w2.heap.size, j, none⟩) HLT3.out).trans (HC.out j x h))
          have hTL : ws.tail.length + 1 = N := by rw [HN.out, HLL.out, List.length_tail]; have := List.length_pos_iff.2 HW1.out.2.2; omega
          obtain ⟨tl, htl⟩ : ∃ t, t = ws.tail.length := ⟨_, rfl⟩
          rw [← htl] at hTL
          have HTW := hid htl
          have HNN := hid hTL
          obtain ⟨wo, hwo⟩ : ∃ wo, wo = wr := ⟨_, rfl⟩
          subst hwo
          clear hbW htb hbx hTL htl HLK HC0
          have HN2 := hid (show 1 ≤ N from hL0)
          rcases (show N = 1 ∨ (¬ N = 1 ∧ 1 ≤ N) by omega) with hN1 | ⟨hn1, hn2⟩
          all_goals
            first | subst hN1 | skip
            go_wp2
            go_loopw [13, 55] (fun v i wr => ∃ j : Nat, j ≤ tl ∧ i = .int .i64 j ∧ wr.ownsRow W.heap.size 3 1 v j (((ws.tail.map atV).take j).map (Value.int .i64)) ∧ Below W.heap.size W wr) (fun _ i _ => tl - (intOf i).toNat)
            case atStart => exact ⟨0, Nat.zero_le _, rfl, World.ownsRow_nil _ _ _ _, Below.refl _ _⟩
            case round =>
              obtain ⟨j, hj, rfl, hown, hbj⟩ := hrel
              obtain ⟨va2, vc2, rfl⟩ := ownsRow_slice hown
              have hNN := HNN.out
              by_cases hlt : j < tl
              · try (exfalso; omega)
                all_goals
                  have hlt' : j < ws.tail.length := by rw [← HTW.out]; exact hlt
                  have hkL : j + 1 < L.length := by rw [← HN.out]; omega
                  have hkw : j + 1 < ws.length := by rw [← HLL.out]; exact hkL
                  obtain ⟨D, hD⟩ : ∃ D, D = L[j + 1] := ⟨_, rfl⟩
                  have hc : wr.cell? ⟨w2.heap.size, 1 + j, none⟩ = some (.string D) := by rw [Nat.add_comm, hD]; exact HC4.out wr hbj _ _ (List.getElem?_eq_getElem hkL)
                  have hwj : ws.tail[j]'hlt' = D.data.toList := by
                    rw [List.getElem_tail]
                    have h := congrArg (fun l => l[j + 1]?) HL.out
                    simp only [List.getElem?_map, List.getElem?_eq_getElem hkL, List.getElem?_eq_getElem hkw, Option.map_some] at h
                    rw [hD]; exact (Option.some.inj h).symm
                  have hwl := HW1.out.2.1 (ws.tail[j]'hlt') (List.mem_of_mem_tail (List.getElem_mem hlt'))
                  have htk : (ws.tail.map atV).take (j + 1) = (ws.tail.map atV).take j ++ [atV D.data.toList] := by rw [List.take_succ_eq_append_getElem (by rw [List.length_map]; exact hlt'), List.getElem_map, hwj]
                  have hDz : D.size ≤ 65536 := by have := Lib.size_eq D; have := HC1L.out; rw [hwj] at hwl; omega
                  have HA := hid (atoi_c wr (HX.out.below (chain HB.out (chain HBW.out hbj))) D (by omega))
                  obtain ⟨X, hXe⟩ : ∃ X, X = atV D.data.toList := ⟨_, rfl⟩
                  rw [← hXe] at HA htk
                  obtain ⟨V, hV⟩ : ∃ V, V = (ws.tail.map atV).take j := ⟨_, rfl⟩
                  rw [← hV] at hown htk
                  have HTK := hid htk
                  have HO := hid hown
                  clear hV
                  have HBJ := hid hbj
                  have hN6 : N ≤ 65537 := by omega
                  have M1 := hid (show j + 1 ≤ maxLen by unfold maxLen; omega)
                  have M2 := hid (show (j + 1) * 8 ≤ 140737488355328 by omega)
                  clear hlt' hXe htk hwl hwj hDz hkL hkw hD hown hbj
                  go_wp2_with (go_at_call 25; refine HA.out.mono ?_; rintro e w5 ⟨ev, rfl, hb5⟩; refine Stop.of ?_)
                  refine Stop.go ?_
                  have HB5 := hid (chain HBJ.out hb5)
                  have HO5 := hid (own_below HO.out hb5)
                  have HN5 := hid (one_news w5 (.int .i64 X) 3)
                  have M3 := hid (Nat.le_trans HB5.out.size (le_alloc w5 (.cells #[.int .i64 X] 3)))
                  have HLA := hid (HB5.out.alloc HB5.out.size (.cells #[.int .i64 X] 3))
                  clear hb5
                  go_wp2_with (at_builtin; refine wpList_app _ rfl (.tmp 64) (.tmp 66) 30 rfl W.heap.size 3 (.int .i64 0) 1 8 Tryz.underlying30 info_int rfl Nat.one_pos (.slice va2 j vc2) j _ rfl (HO5.out.alloc _) (some ⟨w5.heap.size, 0, none⟩) 1 1 [.int .i64 X] rfl rfl no_none HN5.out (one_int _) M1.out M2.out M3.out ?_; refine Stop.of ?_)
                  refine Stop.go ?_
                  intro a7 c7 w7 own7 g7
                  have hb7 := HLA.out.grown g7 M3.out (fun q hq => (HO5.out.lt q hq).1)
                  have HO7 := hid own7
                  have HB7 := hid hb7
                  clear own7 g7 hb7
                  go_wp2
                  refine ⟨⟨j + 1, by omega, by go_num, ?_, HB7.out⟩, by simp [intOf]; omega⟩
                  rw [HTK.out, List.map_append]; exact HO7.out
              · obtain rfl : j = tl := by omega
                have hall : (ws.tail.map atV).take j = vals := by rw [HVA.out]; exact List.take_of_length_le (by rw [List.length_map, ← HTW.out]; exact Nat.le_refl _)
                rw [hall] at hown
                have hvl : vals.length = j := by rw [HVA.out, List.length_map, HTW.out]
                have hj6 : j ≤ 65536 := by omega
                have hvi : ∀ x ∈ vals, isInt x := fun x hx => by
                  rw [HVA.out] at hx
                  obtain ⟨y, _, rfl⟩ := List.mem_map.1 hx
                  exact atV_isInt _
                have hbi := chain HBW.out hbj
                have cb := (HBX.out.keep (hbj.block _ HBX.out.lt)).cell
                have HO := hid hown
                have HVI := hid hvi
                have HVL := hid hvl
                have HBI := hid hbi
                have HFN := hid (fun (X : World) => begF2 X va2 j vc2)
                clear hall hown hvl hvi hbi HC4 HBX hbj
                go_wp2_with (go_at_call 72; refine (HFN.out _).mono ?_; rintro e w5 ⟨rfl, hb5⟩; refine Stop.of ?_)
                refine Stop.go ?_
                have HF5 := hid hb5
                clear hb5 cb
                obtain ⟨w6, hw6⟩ : ∃ w6, w6 = w5.alloc (.cells #[.bool false, .slice va2 j vc2] 73) := ⟨_, rfl⟩
                obtain ⟨xb, hxb⟩ : ∃ xb, xb = w5.heap.size := ⟨_, rfl⟩
                have hb6 : Below wr.heap.size wr w6 := by rw [hw6]; exact HF5.out.alloc HF5.out.size _
                have hx6 : FBox w6 xb false (.slice va2 j vc2) := by rw [hw6, hxb]; exact FBox.made w5 false _
                have hs6 : w6.heap.size = xb + 1 := by rw [hw6, hxb]; simp
                have hwo6 : Below wo.heap.size wo w6 := chain HBI.out hb6
                obtain ⟨xs, ho, hg, he⟩ := HTO.out.below hwo6
                rw [← HK.out] at ho
                have h1 : ElemI 3 w6 w.heap.size (fun _ => True) (.slice va2 j vc2) vals := ElemI.own' (own_below HO.out hb6) rfl HVL.out (by unfold maxLen; omega) (fun _ _ => trivial)
                have HH := hid (And.intro he h1)
                have HOO := hid ho
                have HW6 := hid (chain HB.out hwo6)
                have hnw := news2 w6 (.bool false) (.slice va2 j vc2) 73
                rw [hs6] at hnw
                have HNW := hid hnw
                have HONE := hid (show ∀ u ∈ [Value.bool false, .slice va2 j vc2], u.oneCell' = true from by intro u hu; simp at hu; rcases hu with rfl | rfl <;> rfl)
                have M1 := hid (show k + 1 ≤ maxLen by unfold maxLen; omega)
                have M2 := hid (show (k + 1) * 32 ≤ 140737488355328 by omega)
                have M3 := hid (Nat.le_trans HW6.out.size (le_alloc w6 (.cells #[.bool false, .slice va2 j vc2] 73)))
                have HLA := hid (HW6.out.alloc HW6.out.size (.cells #[.bool false, .slice va2 j vc2] 73))
                have HX6 := hid hx6
                have f0 := hx6.cell0
                have f1 := hx6.cell1
                have HXO := hid (show wo.heap.size ≤ xb by have h1 := HBI.out.size; have h2 := HF5.out.size; omega)
                have HS6 := hid hs6
                clear hb6 hx6 hwo6 ho hg he h1 hnw hs6
                go_wp2_with (first | (at_builtin; refine wpList_app _ rfl (.tmp 73) (.tmp 75) 36 rfl w.heap.size 73 (.agg #[.bool false, .slice none 0 0]) 2 32 Tryz.underlying36 info_frame rfl (by decide) (.slice va k vc) k xs rfl (by rw [← hw6]; exact HOO.out.alloc _) (some ⟨w5.heap.size + 1, 0, none⟩) 1 1 [.bool false, .slice va2 j vc2] rfl rfl no_none (by rw [← hw6, ← hxb]; exact HNW.out) HONE.out M1.out M2.out (by rw [← hw6]; exact M3.out) ?_; refine Stop.of ?_))
                refine Stop.go ?_
                rw [← hw6, ← hxb]
                have HW6E := hid (And.intro hw6 hxb)
                clear hw6 hxb f0 f1
                intro a8 c8 w8 own8 g8
                have hT8 : FrmsO w8 w.heap.size (fun _ => True) (.slice a8 (k + 1) c8) (acc ++ [(false, vals)]) := FrmsO.snoc (f := (false, vals)) (u := .slice va2 j vc2) (W := w6) (w1 := w6.alloc (.cells #[.bool false, .slice va2 j vc2] 73)) (v := .slice va k vc) (by rw [← HK.out]; exact HOO.out) HH.out.1 HH.out.2 ((Below.refl _ w6).alloc (Nat.le_refl _) _) g8 (by rw [← HK.out]; exact own8) (fun _ _ => trivial)
                have hb8 : Below w.heap.size w w8 := HLA.out.grown g8 M3.out (fun q hq => (HOO.out.lt q hq).1)
                have hel8 : ElemI 3 w8 w.heap.size (fun _ => True) (.slice va2 j vc2) vals := elem_grown HOO.out HH.out.2 ((Below.refl _ w6).alloc (Nat.le_refl _) _) g8
                have hbx8 : FBox w8 xb false (.slice va2 j vc2) := HX6.out.keep (by
                  obtain ⟨xs0, ho0, _⟩ := HTO.out
                  refine (g8.block xb (Nat.lt_of_lt_of_le HX6.out.lt (by simp)) ?_).trans (Below.heap_alloc _ _ _ HX6.out.lt)
                  intro e
                  have h1 := (ho0.lt xb e.symm).2
                  have := HXO.out
                  omega)
                obtain ⟨a9, c9, e9, hm9, hfr⟩ := hT8.reads
                have hl9 : (acc ++ [(false, vals)]).length = k + 1 := by rw [List.length_append, ← HK.out]; rfl
                rw [hl9] at e9 hm9
                cases e9
                have HV8 := hid (fun (X : World) (hX : Below w8.heap.size w8 X) => HVF.out X (chain hb8 hX) a8 (k + 1) c8 (acc ++ [(false, vals)]) hl9 hm9 (hfr.below hX))
                have HWR := hid (swritten_c w8 ((HX.out.below hb8).1) false va2 j vc2 vals HVL.out (by omega) hel8.ints.2.2 HVI.out)
                obtain ⟨Z, hZ⟩ : ∃ Z : ByteArray, Z = ⟨(lineL (false, vals)).toArray⟩ := ⟨_, rfl⟩
                rw [← hZ] at HWR
                have hZd : Z.data.toList = lineL (false, vals) := by rw [hZ]
                have hws : ws[0]?.getD [] = keyW ∨ ws[0]?.getD [] = readW := HOKW.out.1 (by first | exact .inl HKK.out | exact .inr HKK.out)
                have HHP := hid (fun (W : World) => HHPQ.out Z W)
                have hno2 := HNO.out
                have hyes2 := HYES.out
                rw [← hZd] at hno2 hyes2
                obtain ⟨hp, hhp⟩ : ∃ b, b = Lib.hasPrefix Bd Z.data.toList := ⟨_, rfl⟩
                rw [← hhp] at HHP hno2 hyes2
                have HSTEP := hid (fun (h : validB M (acc ++ [(false, vals)]) = true) => step_bound h)
                obtain ⟨vb, hvb⟩ : ∃ b, b = validB M (acc ++ [(false, vals)]) := ⟨_, rfl⟩
                rw [← hvb] at HV8 hno2 hyes2 HSTEP
                have HT8 := hid hT8
                have HB8 := hid hb8
                have HYS := hid (fun h1 h2 => hyes2 ⟨hws, h1, h2⟩)
                have HERR := hid (fun h => show ∀ W, Below w8.heap.size w8 W → ∃ v, Ending.returned (.tuple #[.slice none 0 0, .int .i64 (k : Int), .int .i64 2]) = .returned (.tuple #[v, .int .i64 (PT.2.1 : Nat), .int .i64 PT.2.2]) ∧ FrmsO W w.heap.size (fun _ => True) v PT.1 ∧ Below w.heap.size w W from fun W hW => ⟨.slice none 0 0, by rw [hno2 h], by rw [hno2 h]; exact FrmsO.nil _ _ _, chain HB8.out hW⟩)
                have g0 := hbx8.cell0
                have g1 := hbx8.cell1
                clear own8 g8 hT8 hb8 hel8 hbx8 hfr hl9 hZ hZd hvb hhp hws hno2 hyes2
                go_wp2_with (go_at_call 41; refine HWR.out.mono ?_; rintro e w9 ⟨rfl, hb9⟩; refine Stop.of ?_)
                refine Stop.go ?_
                have HB9 := hid hb9
                clear hb9 g0 g1
                cases hp with
                | false =>
                  have HR := hid (HERR.out (by simp))
                  go_wp2_with (go_at_call 27; refine (HHP.out _).mono ?_; rintro e w10 ⟨rfl, rfl⟩)
                  refine bodyPost_ret (v := .tuple #[.slice none 0 0, .int .i64 (k : Int), .int .i64 2]) (by simp [results, Tryz.results15, go_sem]) rfl ?_
                  exact HR.out _ HB9.out
                | true =>
                  cases vb with
                  | false =>
                    have HR := hid (HERR.out (by simp))
                    go_wp2_with (first | (go_at_call 27; refine (HHP.out _).mono ?_; rintro e w10 ⟨rfl, rfl⟩) | (go_at_call 20; refine (HV8.out _ HB9.out).mono ?_; rintro e w11 ⟨rfl, hb11⟩))
                    refine bodyPost_ret (v := .tuple #[.slice none 0 0, .int .i64 (k : Int), .int .i64 2]) (by simp [results, Tryz.results15, go_sem]) rfl ?_
                    exact HR.out _ (chain HB9.out hb11)
                  | true =>
                    have hy := HYS.out (by first | rfl | trivial) (by first | rfl | trivial)
                    have HY1 := hid hy.1
                    have HT3 := hid (Nat.lt_of_le_of_lt (Nat.le_of_eq HT2.out.2) hy.2)
                    clear hy
                    go_wp2_with (first | (go_at_call 27; refine (HHP.out _).mono ?_; rintro e w10 ⟨rfl, rfl⟩) | (go_at_call 20; refine (HV8.out _ HB9.out).mono ?_; rintro e w11 ⟨rfl, hb11⟩))
                    refine ⟨⟨acc ++ [(false, vals)], T2, f - 1, rfl, ?_, HSTEP.out (by first | rfl | trivial), HT8.out.below (chain HB9.out hb11), ?_, ?_, hid ?_, chain HB8.out (chain HB9.out hb11)⟩, ?_⟩
                    · rw [List.length_append, ← HK.out]; rfl
                    · have := HT3.out; omega
                    · have := HT3.out; omega
                    · rw [HT2.out.1]; exact HY1.out
                    · exact HT3.out
      · have HLK := hid (fun (X : World) (mb : Nat) (h : BegM X mb) => look_no h L0 HL0Z.out hk1 hk2)
        have HKK := hid (And.intro hk1 hk2)
        clear hk1 hk2
        skip
        go_upto_region 8 with fail
        refine region_cut (BegR w3 (.nilFunc) false) ?_ ?_
        · skip
          refine plain_region (fun j X => wAll j = true → X.cell? ⟨w2.heap.size, 0, none⟩ = some (.string L0)) (by kernel_rfl) ?_
          have hbd : Below w3.heap.size w3 w3.drew := (Below.refl _ _).drew
          generalize w3.drew = wd at hbd ⊢
          refine AnyT.takeD (i := 1) (v := .slice (some ⟨w2.heap.size, 0, none⟩) N N) rfl rfl (by kernel_rfl) (by kernel_rfl) (by kernel_rfl) (by first | exact (fun _ _ _ h => h) | exact (fun _ _ _ h => absurd h.1 (by simp))) (by kernel_rfl) (by rfl) (by rintro w' y1; go_simp) (HC0.out _ hbd) ?_; go_frame
          refine AnyT.takeD (i := 2) (v := .pointer (some ⟨w2.heap.size, 0, none⟩)) rfl rfl (by kernel_rfl) (by kernel_rfl) (by kernel_rfl) (by first | exact (fun _ _ _ h => h) | exact (fun _ _ _ h => absurd h.1 (by simp))) (by kernel_rfl) (by rfl) (by rintro w' y1; go_simp) (HC0.out _ hbd) ?_; go_frame
          refine AnyT.takeD (i := 3) (v := .string L0) rfl rfl (by kernel_rfl) (by kernel_rfl) (by kernel_rfl) (by first | exact (fun _ _ _ h => h) | exact (fun _ _ _ h => absurd h.1 (by simp))) (by kernel_rfl) (by rfl) (by rintro w' y1; go_simp) (HC0.out _ hbd) ?_; go_frame
          have HBD := hid hbd
          clear hbd
          refine AnyT.next2 (i := 0) (j := 8) (by kernel_rfl) (wpOp_of_list rfl ?_) (wpOp_of_list rfl ?_)
          · go_wp2_with (go_at_call 40; refine (begins_c _).mono ?_; rintro e w4 ⟨rfl, hm4, hb4⟩; refine Stop.of ?_)
            refine Stop.go ?_
            have HM4 := hid hm4
            have HB4 := hid (chain HBD.out hb4)
            clear hm4 hb4
            obtain ⟨MB, hMB⟩ : ∃ MB, MB = wd.heap.size := ⟨_, rfl⟩
            rw [← hMB] at HM4 ⊢
            have HMB := hid (And.intro hMB HM4.out.lt)
            clear hMB
            go_wp2
            refine ⟨fun _ => HC0.out _ HB4.out, ?_⟩
            refine AnyT.weak (T' := fun j X => wAll j = true → (Instr.lookup 81 (.map (some MB)) (.string L0) true).run Tryz.prog X = .ok (.tuple #[.agg #[.nilFunc], .bool false]) X ∧ X.cell? ⟨w2.heap.size, 0, none⟩ = some (.string L0)) (fun j X h hj => (h hj).2) _ _ _ _ ?_
            have HST := hid (fun (X : World) (hX : Below w4.heap.size w4 X) => show (Instr.lookup 81 (.map (some MB)) (.string L0) true).run Tryz.prog X = .ok (.tuple #[.agg #[.nilFunc], .bool false]) X ∧ X.cell? ⟨w2.heap.size, 0, none⟩ = some (.string L0) from ⟨HLK.out X MB (HM4.out.keep (hX.block _ HMB.out.2)), HC0.out _ (chain HB4.out hX)⟩)
            refine AnyT.takeD (i := 4) (v := .tuple #[.agg #[.nilFunc], .bool false]) rfl rfl (by kernel_rfl) (by kernel_rfl) (by kernel_rfl) (by first | exact (fun _ _ _ h => h) | exact (fun _ _ _ h => absurd h.1 (by simp))) (by kernel_rfl) (by rfl) (by rintro w' ⟨y1, y2⟩; go_simp) (HST.out _ (Below.refl _ _)) ?_; go_frame
            refine AnyT.takeD (i := 5) (v := .tuple #[.agg #[.nilFunc], .bool false]) rfl rfl (by kernel_rfl) (by kernel_rfl) (by kernel_rfl) (by first | exact (fun _ _ _ h => h) | exact (fun _ _ _ h => absurd h.1 (by simp))) (by kernel_rfl) (by rfl) (by rintro w' ⟨y1, y2⟩; go_simp) (HST.out _ (Below.refl _ _)) ?_; go_frame
            refine AnyT.takeD (i := 6) (v := .agg #[.nilFunc]) rfl rfl (by kernel_rfl) (by kernel_rfl) (by kernel_rfl) (by first | exact (fun _ _ _ h => h) | exact (fun _ _ _ h => absurd h.1 (by simp))) (by kernel_rfl) (by rfl) (by rintro w' ⟨y1, y2⟩; go_simp) (HST.out _ (Below.refl _ _)) ?_; go_frame
            refine AnyT.takeD (i := 7) (v := .bool false) rfl rfl (by kernel_rfl) (by kernel_rfl) (by kernel_rfl) (by first | exact (fun _ _ _ h => h) | exact (fun _ _ _ h => absurd h.1 (by simp))) (by kernel_rfl) (by rfl) (by rintro w' ⟨y1, y2⟩; go_simp) (HST.out _ (Below.refl _ _)) ?_; go_frame
            refine AnyT.next (i := 8) (by kernel_rfl) rfl (wpOp_of_list rfl ?_)
            go_wp2
            have hba : Below w4.heap.size w4 (w4.alloc (.cells #[.nilFunc] 79)) := (Below.refl _ _).alloc (Nat.le_refl _) _
            refine ⟨fun _ => HST.out _ hba, ?_⟩
            refine AnyT.next (i := 9) (by kernel_rfl) rfl (wpOp_of_list rfl ?_)
            have hB5 := BBox.made w4 .nilFunc
            have c0 := hB5.cell
            have c1 := hB5.frozen
            have HB6 := hid (BBox.made w4 (.nilFunc))
            have HW6 := hid (chain HB4.out ((Below.refl w4.heap.size w4).alloc (Nat.le_refl _) (.cells #[.nilFunc] 79)))
            have HBW := hid ((Below.refl w4.heap.size w4).alloc (Nat.le_refl _) (.cells #[.nilFunc] 79))
            clear hba hB5
            go_wp2
            refine ⟨fun _ => HST.out _ HBW.out, ?_⟩
            refine AnyT.next (i := 10) (by kernel_rfl) rfl (wpOp_of_list rfl ?_)
            go_wp2
            refine ⟨fun _ => HST.out _ HBW.out, ?_⟩
            refine AnyT.done (by kernel_rfl) ?_ _
            exact ⟨rfl, .map (some MB), .slice (some ⟨w2.heap.size, 0, none⟩) N N, .pointer (some ⟨w2.heap.size, 0, none⟩), .string L0, .tuple #[.agg #[.nilFunc], .bool false], .tuple #[.agg #[.nilFunc], .bool false], .agg #[.nilFunc], .bool false, w4.heap.size, by go_simp, HW6.out, HB4.out.size, HB6.out⟩
          · go_wp2
            obtain ⟨w5, hw5⟩ : ∃ w5, w5 = wd.alloc (.cells #[.nilFunc] 79) := ⟨_, rfl⟩
            rw [← hw5]
            have hb5 : Below wd.heap.size wd w5 := by rw [hw5]; exact (Below.refl _ _).alloc (Nat.le_refl _) _
            have hB5 : BBox w5 wd.heap.size .nilFunc := by rw [hw5]; exact BBox.made wd .nilFunc
            obtain ⟨tb, htb⟩ : ∃ t, t = wd.heap.size := ⟨_, rfl⟩
            rw [← htb] at hB5 ⊢
            have HTB := hid (show w3.heap.size ≤ tb by rw [htb]; exact HBD.out.size)
            have HB5 := hid (chain HBD.out hb5)
            have HX5 := hid hB5
            clear hw5 hb5 hB5 htb
            refine ⟨fun _ => HC0.out _ HB5.out, ?_⟩
            refine AnyT.next (i := 0) (by kernel_rfl) rfl (wpOp_of_list rfl ?_)
            go_wp2_with (go_at_call 40; refine (begins_c _).mono ?_; rintro e w4 ⟨rfl, hm4, hb4⟩; refine Stop.of ?_)
            refine Stop.go ?_
            have HM4 := hid hm4
            have HB4 := hid (chain HB5.out hb4)
            have HX4 := hid (HX5.out.keep (hb4.block _ HX5.out.lt))
            clear hm4 hb4
            obtain ⟨MB, hMB⟩ : ∃ MB, MB = w5.heap.size := ⟨_, rfl⟩
            rw [← hMB] at HM4 ⊢
            have HMB := hid (And.intro hMB HM4.out.lt)
            have HMT := hid (show MB ≠ tb by have := HX5.out.lt; omega)
            clear hMB
            go_wp2
            refine ⟨fun _ => HC0.out _ HB4.out, ?_⟩
            refine AnyT.weak (T' := fun j X => wAll j = true → (Instr.lookup 81 (.map (some MB)) (.string L0) true).run Tryz.prog X = .ok (.tuple #[.agg #[.nilFunc], .bool false]) X ∧ X.cell? ⟨w2.heap.size, 0, none⟩ = some (.string L0)) (fun j X h hj => (h hj).2) _ _ _ _ ?_
            have HST := hid (fun (X : World) (h1 : X.heap[MB]? = w4.heap[MB]?) (hX : Below w3.heap.size w3 X) => show (Instr.lookup 81 (.map (some MB)) (.string L0) true).run Tryz.prog X = .ok (.tuple #[.agg #[.nilFunc], .bool false]) X ∧ X.cell? ⟨w2.heap.size, 0, none⟩ = some (.string L0) from ⟨HLK.out X MB (HM4.out.keep h1), HC0.out _ hX⟩)
            refine AnyT.takeD (i := 4) (v := .tuple #[.agg #[.nilFunc], .bool false]) rfl rfl (by kernel_rfl) (by kernel_rfl) (by kernel_rfl) (by first | exact (fun _ _ _ h => h) | exact (fun _ _ _ h => absurd h.1 (by simp))) (by kernel_rfl) (by rfl) (by rintro w' ⟨y1, y2⟩; go_simp) (HST.out _ rfl HB4.out) ?_; go_frame
            refine AnyT.takeD (i := 5) (v := .tuple #[.agg #[.nilFunc], .bool false]) rfl rfl (by kernel_rfl) (by kernel_rfl) (by kernel_rfl) (by first | exact (fun _ _ _ h => h) | exact (fun _ _ _ h => absurd h.1 (by simp))) (by kernel_rfl) (by rfl) (by rintro w' ⟨y1, y2⟩; go_simp) (HST.out _ rfl HB4.out) ?_; go_frame
            refine AnyT.takeD (i := 6) (v := .agg #[.nilFunc]) rfl rfl (by kernel_rfl) (by kernel_rfl) (by kernel_rfl) (by first | exact (fun _ _ _ h => h) | exact (fun _ _ _ h => absurd h.1 (by simp))) (by kernel_rfl) (by rfl) (by rintro w' ⟨y1, y2⟩; go_simp) (HST.out _ rfl HB4.out) ?_; go_frame
            refine AnyT.takeD (i := 7) (v := .bool false) rfl rfl (by kernel_rfl) (by kernel_rfl) (by kernel_rfl) (by first | exact (fun _ _ _ h => h) | exact (fun _ _ _ h => absurd h.1 (by simp))) (by kernel_rfl) (by rfl) (by rintro w' ⟨y1, y2⟩; go_simp) (HST.out _ rfl HB4.out) ?_; go_frame
            refine AnyT.next (i := 9) (by kernel_rfl) rfl (wpOp_of_list rfl ?_)
            have c0 := HX4.out.cell
            have c1 := HX4.out.frozen
            have HB6 := hid (HX4.out.set (.nilFunc))
            have HW6 := hid (below_set HB4.out (b := tb) HTB.out 0 (.nilFunc))
            have HK6 := hid ((Keep.set w4 tb 0 (.nilFunc)).block MB HMB.out.2 HMT.out)
            go_wp2
            refine ⟨fun _ => HST.out _ HK6.out HW6.out, ?_⟩
            refine AnyT.next (i := 10) (by kernel_rfl) rfl (wpOp_of_list rfl ?_)
            go_wp2
            refine ⟨fun _ => HST.out _ HK6.out HW6.out, ?_⟩
            refine AnyT.done (by kernel_rfl) ?_ _
            exact ⟨rfl, .map (some MB), .slice (some ⟨w2.heap.size, 0, none⟩) N N, .pointer (some ⟨w2.heap.size, 0, none⟩), .string L0, .tuple #[.agg #[.nilFunc], .bool false], .tuple #[.agg #[.nilFunc], .bool false], .agg #[.nilFunc], .bool false, tb, by go_simp, HW6.out, HTB.out, HB6.out⟩
        · skip
          rintro a' W ⟨v42, v43, v44, v45, v46, v41, v47, v48, tb, rfl, hbW, htb, hbx⟩
          have HR := hid (HNO.out (fun h => (HOKW.out.2 h.1).elim HKK.out.1 HKK.out.2))
          have HBW := hid (chain HB.out (chain HB3.out hbW))
          clear hbW htb hbx HLK HC0
          go_wp2
          refine bodyPost_ret (v := .tuple #[.slice none 0 0, .int .i64 (k : Int), .int .i64 2]) (by simp [results, Tryz.results15, go_sem]) rfl ?_
          exact ⟨.slice none 0 0, by rw [HR.out], by rw [HR.out]; exact FrmsO.nil _ _ _, HBW.out⟩
end Go.Proofs.YtddcamcdjkiadaaGreatDoor

namespace Go.Proofs.YtddcamcdjkiadaaGreatDoor
open Go.RowKit
set_option linter.unusedVariables false

def OptV (w : World) (lo : Nat) (S : Nat → Prop) (o : Option (List Int)) (v : Value) : Prop :=
  (o = none ∧ v = .slice none 0 0) ∨ ∃ x b cap, o = some x ∧ v = .slice (some ⟨b, 0, none⟩) x.length cap ∧ lo ≤ b ∧ S b ∧ SpRow w b x ∧ 1 ≤ x.length ∧ x.length ≤ maxLen
theorem OptV.keep {w w' : World} {lo : Nat} {S S' K : Nat → Prop} {o : Option (List Int)} {v : Value} (h : OptV w lo S o v) (hk : Keep K w w') (hS : ∀ b, lo ≤ b → b < w.heap.size → S b → K b ∧ S' b) : OptV w' lo S' o v := by
  rcases h with h | ⟨x, b, cap, h1, h2, h3, h4, h5, h6, h7⟩
  · exact .inl h
  · have := hS b h3 h5.lt h4
    exact .inr ⟨x, b, cap, h1, h2, h3, this.2, h5.keep (hk.block b h5.lt this.1), h6, h7⟩
theorem OptV.below {w w' : World} {lo : Nat} {S : Nat → Prop} {o : Option (List Int)} {v : Value} (h : OptV w lo S o v) (hb : Below w.heap.size w w') : OptV w' lo S o v :=
  h.keep (Keep.of_below hb : Keep (fun _ => True) _ _) (fun _ _ _ h => ⟨trivial, h⟩)
def okO (M : Mask) (o : Option (List Int)) : Prop := ∀ x, o = some x → picB M x = true

theorem nextF_ok {M : Mask} {k : Int} {o : Option (List Int)} {f : Frm} (hf : frB M f = true) : okO M (nextF M k o f) := by
  intro x hx
  unfold nextF at hx
  split at hx
  · cases hx
  · rename_i h0
    split at hx
    · rename_i hk
      cases hx
      unfold frB at hf
      simp [h0, hk] at hf
      exact hf
    · split at hx
      · cases hx
      · split at hx
        · cases hx
        · split at hx
          · cases hx; assumption
          · cases hx
def addTo (r b : List Int) (k : Nat) : List Int := (List.range r.length).map (fun i => if i < k then vec r i + vec b i else vec r i)
theorem addTo_len (r b : List Int) (k : Nat) : (addTo r b k).length = r.length := by simp [addTo]
theorem addTo_zero (r b : List Int) : addTo r b 0 = r := by
  refine List.ext_getElem (addTo_len r b 0) fun i h1 h2 => ?_
  simp [addTo, vec_lt h2]
theorem addTo_all (r b : List Int) : addTo r b r.length = addF r b := by
  refine List.ext_getElem (by rw [addTo_len, addF_len]) fun i h1 h2 => ?_
  rw [addTo_len] at h1
  simp [addTo, addF, h1]
theorem addTo_get (r b : List Int) {k : Nat} (hk : k < r.length) : (addTo r b k)[k]?.getD 0 = vec r k := by
  rw [List.getElem?_eq_getElem (by rw [addTo_len]; exact hk)]
  simp [addTo]
theorem addTo_succ (r b : List Int) {k : Nat} (hk : k < r.length) : addTo r b (k + 1) = (addTo r b k).set k (vec r k + vec b k) := by
  refine List.ext_getElem (by simp [addTo]) fun i h1 h2 => ?_
  rw [addTo_len] at h1
  rw [List.getElem_set]
  simp only [addTo, List.getElem_map, List.getElem_range]
  by_cases e : k = i
  · subst e; simp
  · rw [if_neg e]
    by_cases h : i < k
    · rw [if_pos h, if_pos (by omega)]
    · rw [if_neg h, if_neg (by omega)]

theorem wholeF_facts {M : Mask} {y : List Int} {q : Nat} {r : List Int} (h : r ∈ wholeF M y q) : r.length = colsM M ∧ ∀ c, -1000000 ≤ vec r c ∧ vec r c ≤ 1000000 := by
  unfold wholeF at h
  obtain ⟨f, hf, e⟩ := List.mem_filterMap.1 h
  unfold wholeOne at e
  split at e
  · rename_i hw
    cases e
    refine ⟨by unfold spreadI; exact spreadTo1_len _ _ _, ?_⟩
    have hv : ∀ i : Nat, (-1000000 : Int) ≤ (f.2[i]?.getD ((0, 0) : Rt)).1 ∧ (f.2[i]?.getD ((0, 0) : Rt)).1 ≤ 1000000 := fun i => by
      rcases Nat.lt_or_ge i f.2.length with hi | hi
      · rw [List.getElem?_eq_getElem hi]
        have := List.all_eq_true.1 hw _ (List.getElem_mem hi)
        unfold wholeR inB at this
        simp at this
        exact this.2
      · rw [List.getElem?_eq_none hi]; simp
    have hs : ∀ k, ∀ v ∈ spreadTo1 (colsM M) f k, -1000000 ≤ v ∧ v ≤ 1000000 := by
      intro k
      induction k with
      | zero => intro v hv; simp [spreadTo1] at hv; omega
      | succ k ih =>
        intro v hv'
        rw [spreadTo1_succ] at hv'
        rcases List.mem_or_eq_of_mem_set hv' with h | h
        · exact ih v h
        · rw [h]; exact hv k
    intro c
    exact vec_mem (P := fun v => -1000000 ≤ v ∧ v ≤ 1000000) (by omega) (hs _) c
  · cases e
end Go.Proofs.YtddcamcdjkiadaaGreatDoor

namespace Go.Proofs.YtddcamcdjkiadaaGreatDoor
open Go.RowKit
set_option linter.unusedVariables false

theorem rowsN_one {W : World} {base : Nat} {v : Value} {r : List Int} (h : RowsN 30 W base (fun _ => True) v [r]) :
    ∃ g c rb rc, v = .slice (some ⟨g, 0, none⟩) 1 c ∧ W.cell? ⟨g, 0, none⟩ = some (.slice (some ⟨rb, 0, none⟩) r.length rc) ∧ base ≤ rb ∧ SpRow W rb r ∧ base ≤ g ∧ g < W.heap.size := by
  obtain ⟨vs, ho, _, he⟩ := h
  obtain ⟨u, hu, rb, rc, e, h1, _, h3, h4⟩ := he 0 (by simp)
  rcases ho.2 with ⟨_, h0⟩ | ⟨g, cap, cur, rfl, hbg, hgg, rest⟩
  · simp at h0
  · have hc := World.ownsRow.cellAt (w := W) (base := base) (e := 30) (size := 1) (g := g) (n := 1) (cap := cap) (xs := vs) ⟨ho.1, .inr ⟨g, cap, cur, rfl, hbg, hgg, rest⟩⟩ 0 (by omega)
    rw [hu, e] at hc
    exact ⟨g, cap, rb, rc, rfl, hc, h1, h3, hbg, (Array.getElem?_eq_some_iff.1 hgg).1⟩

set_option maxRecDepth 100000 in
set_option maxHeartbeats 4000000 in
theorem next_c (w : World) (a a2 : Option Addr) (n cap n2 cap2 : Nat) (M : Mask) (kf : Bool) (l : List Int) (o : Option (List Int)) (nv : Value) (lo : Nat) (S : Nat → Prop) (k : Int) (hn : M.length = n) (hM : okM M = true) (hn2 : l.length = n2) (hm2 : n2 ≤ maxLen) (H : RowsAt w a M) (H2 : IntsAt w a2 l) (hf : frB M (kf, l) = true) (ho : OptV w lo S o nv) (hoo : okO M o) :
    Calls Tryz.prog 138 #[.slice a n cap, nv, .agg #[.bool kf, .slice a2 n2 cap2], .int .i64 k] w fun e w' => ∃ v, e = .returned v ∧ OptV w' w.heap.size (fun _ => True) (nextF M k o (kf, l)) v ∧ Below w.heap.size w w' := by
  obtain ⟨_, h1, hn6, hc1, hc10⟩ := okM_ok hM
  have heq := fun (w : World) (a : Option Addr) (n c : Nat) => Lib.run_eql_slice_nil (P := Tryz.prog) w 30 3 a n c 0 0 Tryz.underlying30
  have hbz : Below w.heap.size w (w.alloc (.cells #[.bool kf, .slice a2 n2 cap2] 86)) := (Below.refl _ _).alloc (Nat.le_refl _) _
  have hwz : (w.alloc (.cells #[.bool kf, .slice a2 n2 cap2] 86)).heap[w.heap.size]? = some (.cells #[.bool kf, .slice a2 n2 cap2] 86 (0, 0)) := World.alloc_heap_new _ _
  have HL := hid (fun (X : World) => lost_c X kf a2 n2 cap2)
  by_cases h0 : n2 = 0
  · have hnx : nextF M k o (kf, l) = none := by unfold nextF; rw [if_pos (by rw [hn2]; exact h0)]
    rw [hnx]
    rw [decide_eq_true h0] at HL
    have HB := hid hbz
    clear hnx hn hn2 hm2 H H2 hf ho hoo hbz hwz h0
    go_enter Tryz.func138, Tryz.ntmps138
    go_wp2_with (go_at_call 81; refine (HL.out _).mono ?_; rintro e w1 ⟨rfl, hb1⟩)
    go_ret
    exact ⟨_, rfl, .inl ⟨rfl, rfl⟩, chain HB.out hb1⟩
  · rw [decide_eq_false h0] at HL
    obtain ⟨wz, hz⟩ : ∃ wz, wz = w.alloc (.cells #[.bool kf, .slice a2 n2 cap2] 86) := ⟨_, rfl⟩
    rw [← hz] at hbz hwz
    have HBX := hid (show ∀ X : World, Below wz.heap.size wz X → X.heap[w.heap.size]? = some (.cells #[.bool kf, .slice a2 n2 cap2] 86 (0, 0)) from fun X hX => (hX.block _ (Array.getElem?_eq_some_iff.1 hwz).1).trans hwz)
    have HZ := hid hz
    have HB := hid hbz
    cases kf
    · cases o with
      | none =>
        have hnx : nextF M k none (false, l) = none := by unfold nextF; rw [if_neg (by rw [hn2]; exact h0), if_neg (by simp)]
        have hnv : nv = .slice none 0 0 := by
          rcases ho with ⟨_, h⟩ | ⟨x, b, c, h, _⟩
          · exact h
          · cases h
        subst hnv
        rw [hnx]
        clear hnx hn hn2 hm2 H H2 hf ho hoo hbz hwz h0 hz
        go_enter Tryz.func138, Tryz.ntmps138
        go_wp2_with fail
        rw [← HZ.out]
        go_wp2_with (go_at_call 81; refine (HL.out _).mono ?_; rintro e w1 ⟨rfl, hb1⟩; obtain ⟨q0, q1, _, _, _⟩ := box2_facts (HBX.out _ hb1))
        go_ret
        exact ⟨_, rfl, .inl ⟨rfl, rfl⟩, chain HB.out hb1⟩
      | some b =>
        obtain ⟨bb, bc, rfl, hlo, hbS, hbsp, hb1', hbm⟩ : ∃ bb bc, nv = .slice (some ⟨bb, 0, none⟩) b.length bc ∧ lo ≤ bb ∧ S bb ∧ SpRow w bb b ∧ 1 ≤ b.length ∧ b.length ≤ maxLen := by
          rcases ho with ⟨h, _⟩ | ⟨x, bb, bc, h, e, h2, h3, h4, h5, h6⟩
          · cases h
          · cases h; exact ⟨bb, bc, e, h2, h3, h4, h5, h6⟩
        have hpb := hoo b rfl
        have hbl := pic_bnd hpb
        have hbv : ∀ c, -1000 ≤ vec b c ∧ vec b c ≤ 1000 := fun c => by
          unfold picB at hpb
          simp only [Bool.and_eq_true, decide_eq_true_eq, List.all_eq_true] at hpb
          exact vec_mem (P := fun v => -1000 ≤ v ∧ v ≤ 1000) (by omega) (fun v hv => by have := hpb.2 v hv; unfold inB at this; simpa using this) c
        have hnx : nextF M k (some b) (false, l) = match wholeV M l k with | none => none | some r => if picB M (addF r b) = true then some (addF r b) else none := by
          unfold nextF; (rw [if_neg (by rw [hn2]; exact h0), if_neg (by simp)]) <;> rfl
        have HWH := hid (fun (X : World) (hX : Below w.heap.size w X) => whole_c X a a2 n cap n2 cap2 M l k hn hn2 (by unfold maxLen; omega) hm2 (H.below hX) (H2.below hX))
        have HPI := hid (fun (X : World) (hX : Below w.heap.size w X) (g c : Nat) (x : List Int) (hx : x.length = b.length) (hs : SpRow X g x) => picture_c X a n cap M hn (by rw [← hn]; exact h1) (H.below hX) (some ⟨g, 0, none⟩) b.length c x hx hbm hs.ints)
        have HNX := hid hnx
        have HBS := hid hbsp
        have HBV := hid hbv
        have HBL := hid hbl.1
        obtain ⟨bn, hbn⟩ : ∃ bn, bn = b.length := ⟨_, rfl⟩
        rw [← hbn] at HPI hb1' hbm
        rw [← hbn]
        have HBN := hid hbn
        have hbn10 : bn ≤ 10 := by omega
        clear hnx hn hn2 hm2 H H2 hf ho hoo hbz hwz h0 hz hbsp hpb hbl hbv hbn
        go_enter Tryz.func138, Tryz.ntmps138
        go_wp2_with fail
        rw [← HZ.out]
        go_wp2_with first
          | (go_at_call 81; refine (HL.out _).mono ?_; rintro e w1 ⟨rfl, hb1⟩; obtain ⟨q0, q1, _, _, _⟩ := box2_facts (HBX.out _ hb1))
          | (go_at_call 156; refine (HWH.out _ (chain HB.out hb1)).mono ?_; rintro e w2 ⟨hb2, ⟨hE, rfl⟩ | ⟨hE, v2, rfl, base, hbase, hrows⟩⟩ <;> refine Stop.of ?_)
        · refine Stop.go ?_
          have hbw1 := chain HB.out hb1
          have hB2 := chain hbw1 hb2
          have hwv : wholeV M l k = none := by unfold wholeV; rw [if_neg hE]
          rw [hwv] at HNX
          have hne : (countE M l k != 0) = true := by simpa using hE
          obtain ⟨E, hEE⟩ : ∃ E, E = countE M l k := ⟨_, rfl⟩
          rw [← hEE] at hne ⊢
          clear hE hEE hwv hb1 hb2 hbw1 q0 q1
          go_wp2
          go_ret
          rw [HNX.out]
          exact ⟨_, rfl, .inl ⟨rfl, rfl⟩, hB2⟩
        · refine Stop.go ?_
          have hbw1 := chain HB.out hb1
          have hB2 := chain hbw1 hb2
          by_cases hone : ∃ r, wholeF M l k.toNat = [r]
          · obtain ⟨r, hr⟩ := hone
            have hwv : wholeV M l k = some r := by unfold wholeV; rw [if_pos hE, hr]
            have hrf := wholeF_facts (M := M) (y := l) (q := k.toNat) (r := r) (by rw [hr]; simp)
            rw [hwv] at HNX
            rw [hr] at hrows
            obtain ⟨g, c, rb, rc, rfl, hgc, hrb, hrsp, hgb, hgl⟩ := rowsN_one hrows
            have hrl : r.length = bn := by rw [hrf.1, HBN.out, HBL.out]
            rw [hrl] at hgc
            have hrbne : rb ≠ bb := by
              have := HBS.out.lt
              have := hbw1.size
              omega
            have HRV := hid hrf.2
            have HRL := hid hrl
            have HRS := hid hrsp
            have HBS2 := hid (HBS.out.keep (hB2.block _ HBS.out.lt))
            have HB2 := hid hB2
            have hrbw : w.heap.size ≤ rb := by have := hbw1.size; omega
            clear hrf hrl hrsp hrows hE hwv hr hb1 hb2 hbw1 q0 q1 hB2 hgb
            go_wp2
            go_loopw [49] (fun i wr => ∃ t : Nat, t ≤ bn ∧ i = .int .i64 t ∧ SpRow wr rb (addTo r b t) ∧ Keep (fun k => k ≠ rb) w2 wr) (fun i _ => bn - (intOf i).toNat)
            case atStart => exact ⟨0, Nat.zero_le _, rfl, by rw [addTo_zero]; exact HRS.out, Keep.refl _ _⟩
            case round =>
              obtain ⟨t, ht, rfl, hsp, hkp⟩ := hrel
              by_cases hlt : t < bn
              · have htr : t < r.length := by rw [HRL.out]; exact hlt
                have hbs := (HBS2.out.keep (hkp.block _ HBS2.out.lt (fun h => hrbne h.symm))).cell (j := t) (by rw [← HBN.out]; exact hlt)
                have hrs := hsp.cell (j := t) (by rw [addTo_len]; exact htr)
                rw [addTo_get r b htr] at hrs
                have e1 : b[t]?.getD 0 = vec b t := rfl
                rw [e1] at hbs
                have hsf := hsp.frozen t
                have hsl := hsp.lt
                have hset := hsp.set t (by rw [addTo_len]; exact htr) (vec r t + vec b t)
                rw [← addTo_succ r b htr] at hset
                have g1 := HRV.out t
                have g2 := HBV.out t
                obtain ⟨p, hp⟩ : ∃ p, p = vec r t := ⟨_, rfl⟩
                obtain ⟨q, hq⟩ : ∃ q, q = vec b t := ⟨_, rfl⟩
                rw [← hp] at hrs g1 hset
                rw [← hq] at hbs g2 hset
                obtain ⟨z, hz⟩ : ∃ z, z = p + q := ⟨_, rfl⟩
                rw [← hz] at hset
                have hw : wrap64 (p + q) = z := by rw [hz]; unfold wrap64; omega
                have hw2 : IntKind.i64.wrap (p + q) = z := by rw [IntWalk.i64_left]; exact hw
                have hti : (t : Int) < (bn : Int) := by omega
                have hti0 : (0 : Int) ≤ (t : Int) := by omega
                have HSET := hid hset
                have HKP := hid hkp
                clear hp hq hz g1 g2 hset hkp hsp e1 htr
                go_wp2
                refine ⟨⟨t + 1, by omega, by go_num, HSET.out, HKP.out.trans (Keep.set _ _ _ _)⟩, by simp [intOf]; omega⟩
              · obtain rfl : bn = t := by omega
                have hat : addTo r b bn = addF r b := by rw [← HRL.out]; exact addTo_all r b
                rw [hat] at hsp
                have hB3 : Below w.heap.size w wr := hkp.below HB2.out HB2.out.size (fun k hk => by omega)
                have HP3 := hid (HPI.out wr hB3 rb rc (addF r b) (by rw [addF_len]; exact HRL.out) hsp)
                have HSP := hid hsp
                have HB3 := hid hB3
                obtain ⟨B, hB⟩ : ∃ B, B = picB M (addF r b) := ⟨_, rfl⟩
                rw [← hB] at HP3 HNX
                have hnl : (addF r b).length = bn := by rw [addF_len]; exact HRL.out
                have HNL := hid hnl
                clear hsp hB3 hkp hat hB hnl
                cases B
                · go_wp2_with (go_at_call 82; refine HP3.out.mono ?_; rintro e w4 ⟨rfl, hb4⟩)
                  go_ret
                  rw [HNX.out]
                  exact ⟨_, rfl, .inl ⟨rfl, rfl⟩, chain HB3.out hb4⟩
                · go_wp2_with (go_at_call 82; refine HP3.out.mono ?_; rintro e w4 ⟨rfl, hb4⟩)
                  go_ret
                  rw [HNX.out]
                  exact ⟨.slice (some ⟨rb, 0, none⟩) bn rc, rfl, .inr ⟨addF r b, rb, rc, rfl, by rw [HNL.out], hrbw, trivial, HSP.out.keep (hb4.block _ HSP.out.lt), by rw [HNL.out]; exact hb1', by rw [HNL.out]; exact hbm⟩, chain HB3.out hb4⟩
          · have hwv : wholeV M l k = none := by
              unfold wholeV
              rw [if_pos hE]
              split
              · rename_i r hr; exact absurd ⟨r, hr⟩ hone
              · rfl
            rw [hwv] at HNX
            obtain ⟨va, vc, rfl, hlm, _, _⟩ := hrows.rowsO.reads
            obtain ⟨ln, hln⟩ : ∃ ln, ln = (wholeF M l k.toNat).length := ⟨_, rfl⟩
            have hln1 : ln ≠ 1 := fun h => hone (by rw [hln] at h; exact List.length_eq_one_iff.1 h)
            have hne : ((ln : Int) != 1) = true := by simp; omega
            rw [← hln]
            clear hE hwv hone hrows hlm hln hln1 hb1 hb2 hbw1 q0 q1
            go_wp2
            go_ret
            rw [HNX.out]
            exact ⟨_, rfl, .inl ⟨rfl, rfl⟩, hB2⟩
    · have hnx : nextF M k o (true, l) = some l := by unfold nextF; rw [if_neg (by rw [hn2]; exact h0), if_pos rfl]
      rw [hnx]
      have hl10 : l.length ≤ 10 := by
        unfold frB at hf
        have : picB M l = true := by simpa [hn2, h0] using hf
        have := (pic_bnd this).1
        omega
      have HCL := hid (fun (X : World) (hX : Below w.heap.size w X) => clone_c X a2 n2 cap2 l hn2 (by omega) (H2.below hX))
      have HN2 := hid hn2
      clear hnx hn hn2 hm2 H H2 hf ho hoo hbz hwz hz
      go_enter Tryz.func138, Tryz.ntmps138
      go_wp2_with fail
      rw [← HZ.out]
      go_wp2_with first
        | (go_at_call 81; refine (HL.out _).mono ?_; rintro e w1 ⟨rfl, hb1⟩; obtain ⟨q0, q1, _, _, _⟩ := box2_facts (HBX.out _ hb1))
        | (go_at_call 103; refine (HCL.out _ (chain HB.out hb1)).mono ?_; rintro e w2 ⟨v2, rfl, ho2, hb2⟩)
      go_ret
      obtain ⟨g, c, rfl, hg, hsp⟩ := spRow_own ho2 HN2.out (by omega)
      have hs := (chain HB.out hb1).size
      refine ⟨.slice (some ⟨g, 0, none⟩) n2 c, rfl, .inr ⟨l, g, c, rfl, by rw [HN2.out], by omega, trivial, hsp, by have := HN2.out; omega, by unfold maxLen; omega⟩, chain (chain HB.out hb1) hb2⟩
end Go.Proofs.YtddcamcdjkiadaaGreatDoor

namespace Go.Proofs.YtddcamcdjkiadaaGreatDoor
open Go.RowKit
set_option linter.unusedVariables false

def IterP (P : Program) (g : Nat) (lb : Array Value) {α : Type} (V : Nat → (Nat → Prop) → α → Value → Value → World → Prop) (xs : List α) (fp : Nat → Prop) (w0 : World) : Prop :=
  ∀ (l : Nat) (J Jx : (Nat → Prop) → List α → World → Prop) (W : World), Below w0.heap.size w0 W →
    (∀ S S' s A B, Jx S s A → (∀ k, S k → S' k) → (∀ k, S' k → S k ∨ A.heap.size ≤ k) → Keep (fun k => ¬ S' k) A B → Jx S' s B) →
    (∀ S S' s A B, J S s A → (∀ k, S k → S' k) → (∀ k, S' k → S k ∨ A.heap.size ≤ k) → Keep (fun k => ¬ S' k) A B → J S' s B) →
    (∀ S pre x v u W1, pre ++ [x] <+: xs → (∀ k, S k → W.heap.size ≤ k ∧ k < W1.heap.size) → W.heap.size ≤ W1.heap.size → J S pre W1 → V W.heap.size S x v u W1 →
      YieldAt Fence.wide 0 P l #[v, u] W1 fun e W' =>
        (W1.heap.size ≤ W'.heap.size ∧ (∀ k, fp k ∨ S k → W'.heap[k]? = W1.heap[k]?)) ∧ ((e = .returned (.bool true) ∧ J S (pre ++ [x]) W') ∨ (e = .returned (.bool false) ∧ Jx S (pre ++ [x]) W'))) →
    J (fun _ => False) [] W →
    CallsIn Fence.wide 0 P g (#[.func (.yield l) #[] #[]] ++ lb) W fun e W' => (∃ v, e = .returned v) ∧ ((∃ S, (∀ k, S k → W.heap.size ≤ k ∧ k < W'.heap.size) ∧ J S xs W') ∨ (∃ S pre, pre <+: xs ∧ Jx S pre W'))

theorem range_p {P : Program} {g : Operand} {p1 p2 : Tmp} {assign body : Code} {Q : Exit → Act → World → Prop} {a : Act} {w : World}
    {gf : Nat} {lb : Array Value} (hg : a.eval g = .func (.func gf) #[] lb) (eg : ∀ args w, (callFunc gf args).run P w = .ok (.enter gf args) w)
    {α : Type} {V : Nat → (Nat → Prop) → α → Value → Value → World → Prop} {xs : List α} {fp : Nat → Prop} {w0 : World} (hseq : IterP P gf lb V xs fp w0) (hb0 : Below w0.heap.size w0 w) (hfp : ∀ k, fp k → k < w.heap.size)
    (I : (Nat → Prop) → List α → World → Prop) (Ix : (Nat → Prop) → Code → List α → World → Prop)
    (hI : ∀ S S' s A B, I S s A → (∀ k, S k → S' k) → (∀ k, S' k → S k ∨ A.heap.size ≤ k) → (∀ k, S' k → w.heap.size + 2 ≤ k) → w.heap.size + 2 ≤ A.heap.size → Keep (fun k => k ≠ w.heap.size ∧ k ≠ w.heap.size + 1 ∧ ¬ S' k) A B → I S' s B)
    (hIx : ∀ S S' c s A B, Ix S c s A → (∀ k, S k → S' k) → (∀ k, S' k → S k ∨ A.heap.size ≤ k) → (∀ k, S' k → w.heap.size + 2 ≤ k) → w.heap.size + 2 ≤ A.heap.size → Keep (fun k => k ≠ w.heap.size ∧ k ≠ w.heap.size + 1 ∧ ¬ S' k) A B → Ix S' c s B)
    (hV : ∀ S x v u A B, V (w.heap.size + 2) S x v u A → Keep (fun k => k ≠ w.heap.size ∧ k ≠ w.heap.size + 1) A B → V (w.heap.size + 2) S x v u B)
    (h0 : ∀ W, Keep (fun k => k < w.heap.size) w W → w.heap.size + 2 ≤ W.heap.size → I (fun _ => False) [] W) (Ax : Value → Value → Act → World → Prop)
    (hAx : ∀ v u a' A B, Ax v u a' A → Keep (fun k => k ≠ w.heap.size ∧ k ≠ w.heap.size + 1) A B → Ax v u a' B)
    (hassign : ∀ (l : Nat) (S : Nat → Prop) (x : α) (v u : Value) (W : World) (K : Act → World → Prop), w.heap.size + 2 ≤ W.heap.size → V (w.heap.size + 2) S x v u W → (∀ a' W', Below W.heap.size W W' → Ax v u a' W' → K a' W') →
      assign.wpIn (Fence.wide.inRound l) 0 P (Exit.then K (fun _ _ _ => False)) { tmps := (a.tmps.setIfInBounds p1 v).setIfInBounds p2 u, defers := [] } W)
    (hbody : ∀ (l : Nat) (S : Nat → Prop) (pre : List α) (x : α) (v u : Value) (a' : Act) (W : World), pre ++ [x] <+: xs → (∀ k, S k → w.heap.size + 2 ≤ k ∧ k < W.heap.size) → I S pre W → V (w.heap.size + 2) S x v u W → Ax v u a' W → w.heap.size + 2 ≤ W.heap.size →
      (∃ o, W.heap[w.heap.size]? = some o ∧ o.isCells = false) → (∃ o, W.heap[w.heap.size + 1]? = some o ∧ o.isCells = false) →
      body.wpIn (Fence.wide.inRound l) 0 P (roundEndS (fun k => fp k ∨ k = w.heap.size ∨ k = w.heap.size + 1 ∨ S k) (I S) (Ix S) (pre ++ [x]) W) a' W)
    (hdone : ∀ (S : Nat → Prop) (W : World), w.heap.size + 2 ≤ W.heap.size → (∀ k, S k → w.heap.size + 2 ≤ k ∧ k < W.heap.size) → I S xs W → W.heap[w.heap.size]? = some (.deferred (some [])) → Q .normal { a with defers := { target := .collected w.heap.size, args := #[] } :: a.defers } W)
    (hstop : ∀ (S : Nat → Prop) (c : Code) (pre : List α) (W : World), pre <+: xs → (∀ k, S k → w.heap.size + 2 ≤ k) → Ix S c pre W → W.heap[w.heap.size]? = some (.deferred (some [])) → c.wpIn Fence.wide 0 P Q { a with defers := { target := .collected w.heap.size, args := #[] } :: a.defers } W) :
    (Code.rangeFunc g #[p1, p2] assign body).wpIn Fence.wide 0 P Q a w := by
  refine wpIn_rangeFunc ?_
  intro fn hfn
  obtain ⟨rec, hrec⟩ : ∃ rec : LoopState → Option Code → Loop, rec = fun st pe => { state := st, pending := pe, fn, tmps := a.tmps, params := #[p1, p2], assign, body, defers := w.heap.size } := ⟨_, rfl⟩
  obtain ⟨W1, hW1⟩ : ∃ W1, (w.alloc (.deferred (some []))).alloc (.loop (rec .ready none)) = W1 := ⟨_, rfl⟩
  have hsz1 : W1.heap.size = w.heap.size + 2 := by rw [← hW1]; simp
  have hL1 : W1.heap[w.heap.size + 1]? = some (.loop (rec .ready none)) := by
    rw [← hW1]; have := World.alloc_heap_new (w.alloc (.deferred (some []))) (.loop (rec .ready none)); rwa [World.size_alloc] at this
  have hK1 : W1.heap[w.heap.size]? = some (.deferred (some [])) := by
    rw [← hW1]; exact (Below.heap_alloc _ _ _ (by simp)).trans (World.alloc_heap_new w _)
  have hbw : Below w.heap.size w W1 := by rw [← hW1]; exact ((Below.refl _ w).alloc (Nat.le_refl _) _).alloc (by simp) _
  refine ⟨w.heap.size + 1, [{ target := .collected w.heap.size, args := #[] }], W1, { target := .fn (.func gf) lb, args := #[.func (.yield (w.heap.size + 1)) #[] #[]] }, W1, gf,
    #[.func (.yield (w.heap.size + 1)) #[] #[]] ++ lb, W1, ?_, ?_, ?_, ?_, fun h => by simp [Fence.wide] at h, ?_⟩
  · rw [← hW1, hrec]; exact run_enterLoop_outer _ _ _ _ _
  · simp only [resolve, hg]
    simp [go_sem]
  · intro f' hf'; exact trivial
  · simp [invoke, go_sem, eg]
  · refine (hseq (w.heap.size + 1)
      (fun S pre W => (I S pre W ∧ w.heap.size + 2 ≤ W.heap.size ∧ ∀ k, S k → w.heap.size + 2 ≤ k) ∧ W.heap[w.heap.size + 1]? = some (.loop (rec .ready none)) ∧ W.heap[w.heap.size]? = some (.deferred (some [])))
      (fun S pre W => ∃ c, (Ix S c pre W ∧ w.heap.size + 2 ≤ W.heap.size ∧ ∀ k, S k → w.heap.size + 2 ≤ k) ∧ W.heap[w.heap.size + 1]? = some (.loop (rec .done (some c))) ∧ W.heap[w.heap.size]? = some (.deferred (some [])))
      W1 (chain hb0 hbw) ?_ ?_ ?_ ?_).mono ?_
    · rintro S S' s A B ⟨c, ⟨hi, hsA, hSl⟩, hl, hk⟩ hSS hSn hAB
      have hS' : ∀ k, S' k → w.heap.size + 2 ≤ k := fun k h => by
        rcases hSn k h with h1 | h1
        · exact hSl k h1
        · omega
      exact ⟨c, ⟨hIx S S' c s A B hi hSS hSn hS' hsA (hAB.mono fun k hk => hk.2.2), Nat.le_trans hsA hAB.size, hS'⟩,
        (hAB.block _ (Array.getElem?_eq_some_iff.1 hl).1 (fun h => by have := hS' _ h; omega)).trans hl, (hAB.block _ (Array.getElem?_eq_some_iff.1 hk).1 (fun h => by have := hS' _ h; omega)).trans hk⟩
    · rintro S S' s A B ⟨⟨hi, hsA, hSl⟩, hl, hk⟩ hSS hSn hAB
      have hS' : ∀ k, S' k → w.heap.size + 2 ≤ k := fun k h => by
        rcases hSn k h with h1 | h1
        · exact hSl k h1
        · omega
      exact ⟨⟨hI S S' s A B hi hSS hSn hS' hsA (hAB.mono fun k hk => hk.2.2), Nat.le_trans hsA hAB.size, hS'⟩,
        (hAB.block _ (Array.getElem?_eq_some_iff.1 hl).1 (fun h => by have := hS' _ h; omega)).trans hl, (hAB.block _ (Array.getElem?_eq_some_iff.1 hk).1 (fun h => by have := hS' _ h; omega)).trans hk⟩
    · rintro S pre x v u W hpre hSb hsz ⟨⟨hi, hsW, hSl⟩, hl, hk⟩ hv
      rw [hsz1] at hv hSb
      have hlt : w.heap.size + 1 < W.heap.size := (Array.getElem?_eq_some_iff.1 hl).1
      have hy := run_yield (P := P) (args := #[v, u]) hl (by rw [hrec]; simp)
      rw [hrec] at hy
      have hy' : (Instr.yield (w.heap.size + 1) #[v, u]).run P W = .ok (.round (w.heap.size + 1) fn ((a.tmps.setIfInBounds p1 v).setIfInBounds p2 u) assign body) W := by
        simpa using hy
      refine ⟨fn, _, assign, body, hy', roundIn_of_wpIn hfn ?_⟩
      refine hassign _ S x v u W _ hsW hv ?_
      intro a' W' hbW' hax
      have hlW' : W'.heap[w.heap.size + 1]? = some (.loop (rec .ready none)) := (hbW'.block _ hlt).trans hl
      have hkW' : W'.heap[w.heap.size]? = some (.deferred (some [])) := (hbW'.block _ (by omega)).trans hk
      have hltW' : w.heap.size + 1 < W'.heap.size := by have := hbW'.size; omega
      refine ⟨_, run_beginRound hlW' (by rw [hrec]), ?_⟩
      have hl2 : (W'.putObj (w.heap.size + 1) (.loop { rec .ready none with state := .busy })).heap[w.heap.size + 1]? = some (.loop { rec .ready none with state := .busy }) := World.putObj_heap_same hltW'
      have hkp := Keep.put W' (w.heap.size + 1) (.loop { rec .ready none with state := .busy })
      have hkp2 : Keep (fun k => k ≠ w.heap.size ∧ k ≠ w.heap.size + 1) W' _ := hkp.mono fun k hk => hk.2
      have hIW' := hI S S pre _ _ (hI S S pre _ _ hi (fun _ h => h) (fun _ h => .inl h) hSl hsW (Keep.of_below hbW')) (fun _ h => h) (fun _ h => .inl h) hSl (Nat.le_trans hsW hbW'.size) (hkp2.mono fun k hk => ⟨hk.1, hk.2.1⟩)
      refine wpIn_mono (hbody _ S pre x v u a' _ hpre (fun k h => ⟨hSl k h, by have := (hSb k h).2; exact Nat.lt_of_lt_of_le this (Nat.le_trans hbW'.size hkp.size)⟩) hIW' (hV S x v u _ _ (hV S x v u _ _ hv (Keep.of_below hbW')) hkp2) (hAx _ _ _ _ _ hax hkp2) (Nat.le_trans (Nat.le_trans hsW hbW'.size) hkp.size) ⟨_, (World.putObj_heap_other (by omega)).trans hkW', rfl⟩ ⟨_, hl2, rfl⟩) ?_
      have fin : ∀ (jump : Option Code) (W3 : World), (∀ k, (fp k ∨ k = w.heap.size ∨ k = w.heap.size + 1 ∨ S k) → W3.heap[k]? = (W'.putObj (w.heap.size + 1) (.loop { rec .ready none with state := .busy })).heap[k]?) →
          (Instr.endRound (w.heap.size + 1) jump).run P W3 = .ok (.bool jump.isNone) (W3.putObj (w.heap.size + 1) (.loop (rec (if jump.isNone then .ready else .done) jump))) ∧
          W3.heap[w.heap.size + 1]? = some (.loop { rec .ready none with state := .busy }) ∧
          (W3.putObj (w.heap.size + 1) (.loop (rec (if jump.isNone then .ready else .done) jump))).heap[w.heap.size + 1]? = some (.loop (rec (if jump.isNone then .ready else .done) jump)) ∧
          (W3.putObj (w.heap.size + 1) (.loop (rec (if jump.isNone then .ready else .done) jump))).heap[w.heap.size]? = some (.deferred (some [])) := fun jump W3 hk3 => by
        have hl3 := (hk3 (w.heap.size + 1) (by simp)).trans hl2
        have := run_endRound (P := P) jump hl3
        rw [hrec] at this ⊢
        refine ⟨this, by rw [hrec] at hl3; exact hl3, World.putObj_heap_same (Array.getElem?_eq_some_iff.1 hl3).1, (World.putObj_heap_other (by omega)).trans ((hk3 w.heap.size (by simp)).trans ((World.putObj_heap_other (by omega)).trans hkW'))⟩
      rintro e a3 W3 hp
      have keepP : ∀ (o : Obj), Keep (fun k => k ≠ w.heap.size ∧ k ≠ w.heap.size + 1) W3 (W3.putObj (w.heap.size + 1) o) := fun o => (Keep.put W3 (w.heap.size + 1) o).mono fun k hk => hk.2
      have both : ∀ (o : Obj), W'.heap.size ≤ W3.heap.size → (∀ k, (fp k ∨ k = w.heap.size ∨ k = w.heap.size + 1 ∨ S k) → W3.heap[k]? = (W'.putObj (w.heap.size + 1) (.loop { rec .ready none with state := .busy })).heap[k]?) →
          W.heap.size ≤ (W3.putObj (w.heap.size + 1) o).heap.size ∧ ∀ k, fp k ∨ S k → (W3.putObj (w.heap.size + 1) o).heap[k]? = W.heap[k]? := fun o hs3 hk3 => by
        refine ⟨Nat.le_trans (Nat.le_trans hbW'.size hs3) (keepP o).size, fun k hk => ?_⟩
        have hne : k ≠ w.heap.size + 1 := by
          rcases hk with hk | hk
          · have := hfp k hk; omega
          · have := hSl k hk; omega
        have hltk : k < W.heap.size := by
          rcases hk with hk | hk
          · have := hfp k hk; omega
          · exact (hSb k hk).2
        exact (World.putObj_heap_other hne).trans ((hk3 k (by rcases hk with hk | hk <;> simp [hk])).trans ((World.putObj_heap_other hne).trans (hbW'.block k hltk)))
      cases e with
      | normal =>
        obtain ⟨hs3, hk3, hi3⟩ := hp
        obtain ⟨hr, hl3, hl4, hk4⟩ := fin none W3 hk3
        have hs3' : W.heap.size ≤ W3.heap.size := Nat.le_trans (Nat.le_trans hbW'.size hkp.size) hs3
        exact ⟨_, _, hr, both _ (Nat.le_trans hkp.size hs3) hk3, .inl ⟨rfl, ⟨hI S S _ _ _ hi3 (fun _ h => h) (fun _ h => .inl h) hSl (Nat.le_trans hsW hs3') ((keepP _).mono fun k hk => ⟨hk.1, hk.2.1⟩), Nat.le_trans (Nat.le_trans hsW hs3') (keepP _).size, hSl⟩, hl4, hk4⟩⟩
      | ret =>
        obtain ⟨hs3, hk3, hi3⟩ := hp
        obtain ⟨hr, hl3, hl4, hk4⟩ := fin (some .ret) W3 hk3
        have hs3' : W.heap.size ≤ W3.heap.size := Nat.le_trans (Nat.le_trans hbW'.size hkp.size) hs3
        exact ⟨_, _, hr, both _ (Nat.le_trans hkp.size hs3) hk3, .inr ⟨rfl, .ret, ⟨hIx S S _ _ _ _ hi3 (fun _ h => h) (fun _ h => .inl h) hSl (Nat.le_trans hsW hs3') ((keepP _).mono fun k hk => ⟨hk.1, hk.2.1⟩), Nat.le_trans (Nat.le_trans hsW hs3') (keepP _).size, hSl⟩, hl4, hk4⟩⟩
      | exit id =>
        obtain ⟨hs3, hk3, hi3⟩ := hp
        obtain ⟨hr, hl3, hl4, hk4⟩ := fin (some (.exit id)) W3 hk3
        have hs3' : W.heap.size ≤ W3.heap.size := Nat.le_trans (Nat.le_trans hbW'.size hkp.size) hs3
        exact ⟨_, _, hr, both _ (Nat.le_trans hkp.size hs3) hk3, .inr ⟨rfl, .exit id, ⟨hIx S S _ _ _ _ hi3 (fun _ h => h) (fun _ h => .inl h) hSl (Nat.le_trans hsW hs3') ((keepP _).mono fun k hk => ⟨hk.1, hk.2.1⟩), Nat.le_trans (Nat.le_trans hsW hs3') (keepP _).size, hSl⟩, hl4, hk4⟩⟩
      | goto t =>
        obtain ⟨hs3, hk3, hi3⟩ := hp
        obtain ⟨hr, hl3, hl4, hk4⟩ := fin (some (.goto t)) W3 hk3
        have hs3' : W.heap.size ≤ W3.heap.size := Nat.le_trans (Nat.le_trans hbW'.size hkp.size) hs3
        exact ⟨_, _, hr, both _ (Nat.le_trans hkp.size hs3) hk3, .inr ⟨rfl, .goto t, ⟨hIx S S _ _ _ _ hi3 (fun _ h => h) (fun _ h => .inl h) hSl (Nat.le_trans hsW hs3') ((keepP _).mono fun k hk => ⟨hk.1, hk.2.1⟩), Nat.le_trans (Nat.le_trans hsW hs3') (keepP _).size, hSl⟩, hl4, hk4⟩⟩
      | panic ch => exact hp.elim
      | outgrown => exact hp.elim
    · exact ⟨⟨h0 W1 (Keep.of_below hbw |>.mono fun k _ => trivial) (by omega), by omega, fun k h => h.elim⟩, hL1, hK1⟩
    · rintro e W2 ⟨⟨v, rfl⟩, (⟨S, hSw, ⟨hi, hs2, hSl⟩, hl, hk⟩ | ⟨S, pre, hSp, c, ⟨hi, hs2, hSl⟩, hl, hk⟩)⟩
      · refine ⟨none, _, by have := run_endLoop (P := P) hl (by rw [hrec]; simp); rw [hrec] at this; exact this, hdone S _ (Nat.le_trans hs2 (Keep.put W2 _ _).size) (fun k h => ⟨hSl k h, Nat.lt_of_lt_of_le (hSw k h).2 (Keep.put W2 _ _).size⟩) (hI S S _ _ _ hi (fun _ h => h) (fun _ h => .inl h) hSl hs2 ((Keep.put W2 _ _).mono fun k hk => hk.2.1)) ((World.putObj_heap_other (by omega)).trans hk)⟩
      · refine ⟨some c, _, by have := run_endLoop (P := P) hl (by rw [hrec]; simp); rw [hrec] at this; exact this, hstop S c pre _ hSp hSl (hIx S S _ _ _ _ hi (fun _ h => h) (fun _ h => .inl h) hSl hs2 ((Keep.put W2 _ _).mono fun k hk => hk.2.1)) ((World.putObj_heap_other (by omega)).trans hk)⟩
end Go.Proofs.YtddcamcdjkiadaaGreatDoor
