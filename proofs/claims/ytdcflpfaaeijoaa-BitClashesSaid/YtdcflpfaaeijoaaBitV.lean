/- Walks: parts of both packages, celled, Parts. -/
import Derived.Test.YtdcflpfaaeijoaaBitU
namespace Go.Proofs.Ytdcflpfaaeijoaa
open Go.RowKit Go.Maps
set_option linter.unusedVariables false

def lowB (thr s : Int) : Bool := decide (s < thr)
def highB (thr s : Int) : Bool := !decide (s < thr)

set_option maxRecDepth 100000 in
set_option maxHeartbeats 1000000 in
theorem parts_c (w : World) (B n : Nat) (ss : List Int) (hn : ss.length = n) (hm : n ≤ 65536) (hown : w.ownsMap Try.prog 3 (plainElem (H := Unit) Try.prog 3) B n (cntD ss n)) (thr : Int) :
    Calls Try.prog 67 #[.map (some B), .int .i64 thr] w fun e w' => e = .returned (.tuple #[.int .i64 (ss.countP (lowB thr) : Nat), .int .i64 (ss.countP (highB thr) : Nat)]) ∧ Below w.heap.size w w' := by
  have hhas : ∀ s ∈ ss, Maps.has (cntD ss n) (.int .i64 s) = true := fun s hs => cntD_has ss s n (by omega) (by rw [← hn, List.take_length]; exact hs)
  have HC := hid (fun (x c : Int) (h : (cntD ss n).atKey (.int .i64 x) (.lit (.int .i64 0)) = .lit (.int .i64 c)) => show c = ((ss.count x : Nat) : Int) from by
    rw [cntD_at ss x n (by omega), ← hn, List.take_length] at h
    simpa using h.symm)
  have hl : ∀ (p : Int → Bool) (left : Lit → Bool), come p left ss ≤ 65536 := fun p left => by
    have := List.countP_le_length (p := fun s => p s && !left (.int .i64 s)) (l := ss)
    unfold come; omega
  have H0 := hid hhas
  have HL := hid hl
  have HO := hid hown
  clear hhas hl hown
  go_enter Try.func67, Try.ntmps67
  go_wp2_with (at_range; refine wpList_range_own _ rfl _ 79 rfl 3 3 law3 Try.underlying79 _ B n _ rfl HO.out ?_; refine Stop.of ?_)
  refine Stop.go ?_
  intro w0 hrg0 hg0 hs0
  have HRG := hid hrg0
  clear hrg0
  go_wp2
  go_loopw [4, 5] (fun b c wr => ∃ (left : Lit → Bool) (cnt : Nat), b = .int .i64 (come (lowB thr) left ss : Nat) ∧ c = .int .i64 (come (highB thr) left ss : Nat) ∧ wr.ranges Try.prog 3 (plainElem (H := Unit) Try.prog 3) B w.heap.size n (cntD ss n) left cnt ∧ w.grownBy wr (some w.heap.size) ∧ w.heap.size + 1 = wr.heap.size)
    (fun _ _ wr => wr.rangeLeft B w.heap.size)
  case atStart =>
    refine ⟨_, _, ?_, ?_, HRG.out, hg0.but _, hs0.symm⟩
    · rw [come_none _ _ _ H0.out]; rfl
    · rw [come_none _ _ _ H0.out]; rfl
  case round =>
    obtain ⟨left, cnt, rfl, rfl, hrg, hgw, hsw⟩ := hrel
    have hbe : Below w.heap.size w wr := (Below.refl _ w).grown hgw (Nat.le_refl _) (fun j hj => by cases hj; exact Nat.le_refl _)
    have HR := hid hrg
    have b1 := HL.out (lowB thr) left
    have b2 := HL.out (highB thr) left
    go_wp2_with (at_next; refine wpList_next_ranges_ii _ rfl _ rfl 3 3 .i64 .i64 law3 Try.underlying3 Try.underlying3 B w.heap.size n _ _ _ rfl hrg ?_ ?_)
    · intro _ hl0
      have HL0 := hid hl0
      clear hl0 hrg
      go_wp2
      go_ret2
      exact ⟨by rw [come_all _ _ _ HL0.out, come_all _ _ _ HL0.out]; rfl, hbe⟩
    · intro x c w1 cnt1 hwx hwc hlx hat hrg1 hlt hg1 hs1 hen
      obtain rfl := HC.out x c (hat _)
      have hgw1 := hgw.andThen hg1 (fun j hj => by cases hj; exact Or.inr rfl)
      have s1 := come_step (lowB thr) left x hlx ss
      have s2 := come_step (highB thr) left x hlx ss
      have HR1 := hid hrg1
      have HLX := hid hlx
      have hcb : ss.count x ≤ 65536 := by have := List.count_le_length (a := x) (l := ss); omega
      obtain ⟨left1, hl1⟩ : ∃ l : Lit → Bool, l = fun z => left z && !z.sameKey (.int .i64 x) := ⟨_, rfl⟩
      rw [← hl1] at s1 s2 HR1
      have b3 := HL.out (lowB thr) left1
      have b4 := HL.out (highB thr) left1
      obtain ⟨A1, hA1⟩ : ∃ A, A = come (lowB thr) left ss := ⟨_, rfl⟩
      obtain ⟨A2, hA2⟩ : ∃ A, A = come (highB thr) left ss := ⟨_, rfl⟩
      obtain ⟨C, hC⟩ : ∃ A, A = ss.count x := ⟨_, rfl⟩
      rw [← hA1] at s1 b1 ⊢
      rw [← hA2] at s2 b2 ⊢
      rw [← hC] at s1 s2 hcb hen ⊢
      have hgN := hgw1
      have hs2 : w.heap.size + 1 = w1.heap.size := by omega
      have S1 := hid s1
      have S2 := hid s2
      have HG := hid hgN
      clear hl1 hA1 hA2 hC hrg hrg1 hat hwc hwx hlx s1 s2 hgw1 hgN
      by_cases hx : x < thr
      · have l1 : lowB thr x = true := by simp [lowB, hx]
        have l2 : highB thr x = false := by simp [highB, hx]
        rw [l1] at S1
        rw [l2] at S2
        have t1 := S1.out
        have t2 := S2.out
        simp only [if_true, Bool.false_eq_true, if_false, Nat.add_zero] at t1 t2
        have T1 := hid t1
        have T2 := hid t2
        have b5 : A1 + C ≤ 65536 := by omega
        clear t1 t2 l1 l2 b3 b4
        go_wp2
        refine ⟨⟨left1, cnt1, ?_, ?_, HR1.out, HG.out, hs2⟩, ?_⟩
        · rw [T1.out]; simp
        · rw [T2.out]
        · rw [HR1.out.left_eq, HR.out.left_eq]; exact hlt
      · have l1 : lowB thr x = false := by simp [lowB, hx]
        have l2 : highB thr x = true := by simp [highB, hx]
        rw [l1] at S1
        rw [l2] at S2
        have t1 := S1.out
        have t2 := S2.out
        simp only [if_true, Bool.false_eq_true, if_false, Nat.add_zero] at t1 t2
        have T1 := hid t1
        have T2 := hid t2
        have b5 : A2 + C ≤ 65536 := by omega
        clear t1 t2 l1 l2 b3 b4
        go_wp2
        refine ⟨⟨left1, cnt1, ?_, ?_, HR1.out, HG.out, hs2⟩, ?_⟩
        · rw [T1.out]
        · rw [T2.out]; simp
        · rw [HR1.out.left_eq, HR.out.left_eq]; exact hlt

theorem countP_take (p : Int → Bool) (ss : List Int) (k : Nat) (hk : k < ss.length) : (ss.take (k + 1)).countP p = (ss.take k).countP p + if p (ss[k]?.getD 0) then 1 else 0 := by
  rw [List.take_succ_eq_append_getElem hk, List.countP_append, List.getElem?_eq_getElem hk]
  simp [List.countP_cons]

theorem refParts_c (w : World) (a : Option Addr) (n cap : Nat) (F : List (List Int)) (hn : F.length = n) (hm : n ≤ 65536) (H : RowsAt w a F)
    (a2 : Option Addr) (n2 cap2 : Nat) (row : List Int) (hn2 : row.length = n2) (hm2 : n2 ≤ maxLen) (H2 : IntsAt w a2 row) (hle : ∀ x ∈ F, n2 ≤ x.length) (thr : Int) :
    Calls Try.prog 70 #[.slice a n cap, .slice a2 n2 cap2, .int .i64 thr] w fun e w' => e = .returned (.tuple #[.int .i64 ((F.map (dotW row)).countP (lowB thr) : Nat), .int .i64 ((F.map (dotW row)).countP (highB thr) : Nat)]) ∧ Below w.heap.size w w' := by
  obtain ⟨ss, hss⟩ : ∃ ss, ss = F.map (dotW row) := ⟨_, rfl⟩
  have hsl : ss.length = n := by rw [hss, List.length_map, hn]
  have hsk : ∀ k (hk : k < F.length), ss[k]?.getD 0 = dotW row F[k] := fun k hk => by rw [hss, List.getElem?_map, List.getElem?_eq_getElem hk]; rfl
  rw [← hss]
  have HSL := hid hsl
  have HSK := hid hsk
  have HN := hid hn
  have HH := hid H
  have HS := hid (fun (W : World) (hb : Below w.heap.size w W) (ra : Option Addr) (xn xc : Nat) (x : List Int) (hx : x.length = xn) (hxm : x ∈ F) (hi : IntsAt W ra x) => refSum_c W a2 ra n2 cap2 xn xc row x hn2 hx (by rw [← hx]; exact hle x hxm) hm2 (H2.below hb) hi)
  have HL := hid (fun (p : Int → Bool) (k : Nat) => show (ss.take k).countP p ≤ 65536 from by
    have h1 := List.countP_le_length (p := p) (l := ss.take k)
    have h2 := List.length_take_le k ss
    have h3 : (ss.take k).length ≤ ss.length := by rw [List.length_take]; omega
    omega)
  clear hss hsl hsk hn H hn2 H2 hle
  go_enter Try.func70, Try.ntmps70
  go_wp2
  go_loopw [6, 7, 12] (fun b c i wr => ∃ k : Nat, k ≤ n ∧ i = .int .i64 k ∧ b = .int .i64 ((ss.take k).countP (lowB thr) : Nat) ∧ c = .int .i64 ((ss.take k).countP (highB thr) : Nat) ∧ Below w.heap.size w wr) (fun _ _ i _ => n - (intOf i).toNat)
  case atStart => exact ⟨0, Nat.zero_le _, rfl, by simp, by simp, Below.refl _ _⟩
  case round =>
    obtain ⟨k, hk, rfl, rfl, rfl, hb⟩ := hrel
    by_cases hlt : k < n
    · have hkF : k < F.length := by rw [HN.out]; exact hlt
      obtain ⟨b, off, ra, xn, xc, rfl, hbs, hcx0, hxn, hxm, hxi⟩ := rows_elem HH.out (k := k) hkF
      have hcx : wr.cell? ⟨b, off + k, none⟩ = some (.slice ra xn xc) := (hb.cell (p := ⟨b, off + k, none⟩) hbs).trans hcx0
      have hX : F[k]?.getD [] = F[k] := by rw [List.getElem?_eq_getElem hkF]; rfl
      rw [hX] at hxn hxi
      have HSM := hid (HS.out wr hb ra xn xc F[k] hxn (List.getElem_mem _) (hxi.below hb))
      have hS := HSK.out k hkF
      have s1 := countP_take (lowB thr) ss k (by rw [HSL.out]; exact hlt)
      have s2 := countP_take (highB thr) ss k (by rw [HSL.out]; exact hlt)
      rw [hS] at s1 s2
      have b1 := HL.out (lowB thr) k
      have b2 := HL.out (highB thr) k
      obtain ⟨S, hSE⟩ : ∃ S, S = dotW row F[k] := ⟨_, rfl⟩
      rw [← hSE] at HSM s1 s2
      obtain ⟨A1, hA1⟩ : ∃ A, A = (ss.take k).countP (lowB thr) := ⟨_, rfl⟩
      obtain ⟨A2, hA2⟩ : ∃ A, A = (ss.take k).countP (highB thr) := ⟨_, rfl⟩
      rw [← hA1] at s1 b1 ⊢
      rw [← hA2] at s2 b2 ⊢
      clear hcx0 hX hxn hxi hS hSE hA1 hA2
      by_cases hx : S < thr
      · have l1 : lowB thr S = true := by simp [lowB, hx]
        have l2 : highB thr S = false := by simp [highB, hx]
        rw [l1] at s1
        rw [l2] at s2
        simp only [if_true, Bool.false_eq_true, if_false, Nat.add_zero] at s1 s2
        have S1 := hid s1
        have S2 := hid s2
        clear s1 s2 l1 l2
        go_wp2_with (go_at_call 57; refine HSM.out.mono ?_; rintro e w1 ⟨rfl, rfl⟩)
        refine ⟨⟨k + 1, by omega, by go_num, ?_, ?_, hb⟩, by simp [intOf]; omega⟩
        · rw [S1.out]; simp
        · rw [S2.out]
      · have l1 : lowB thr S = false := by simp [lowB, hx]
        have l2 : highB thr S = true := by simp [highB, hx]
        rw [l1] at s1
        rw [l2] at s2
        simp only [if_true, Bool.false_eq_true, if_false, Nat.add_zero] at s1 s2
        have S1 := hid s1
        have S2 := hid s2
        clear s1 s2 l1 l2
        go_wp2_with (go_at_call 57; refine HSM.out.mono ?_; rintro e w1 ⟨rfl, rfl⟩)
        refine ⟨⟨k + 1, by omega, by go_num, ?_, ?_, hb⟩, by simp [intOf]; omega⟩
        · rw [S1.out]
        · rw [S2.out]; simp
    · obtain rfl : k = n := by omega
      go_wp2
      go_ret2
      exact ⟨by rw [← HSL.out, List.take_length]; rfl, hb⟩

def celledE (p t : Int) (l : List Cel) (row : List Int) : Int := if okCells p t l && okRow p row then 0 else 1

theorem celled_c (w : World) (p t : Int) (a : Option Addr) (n cap : Nat) (l : List Cel) (hn : l.length = n) (hm : n ≤ maxLen) (H : CellsAt w a l)
    (a2 : Option Addr) (n2 cap2 : Nat) (row : List Int) (hn2 : row.length = n2) (hm2 : n2 ≤ maxLen) (H2 : IntsAt w a2 row) :
    Calls Try.prog 69 #[.agg #[.int .i64 p, .int .i64 t], .slice a n cap, .slice a2 n2 cap2] w fun e w' => e = .returned (.int .i64 (celledE p t l row)) ∧ Below w.heap.size w w' := by
  have hb0 : Below w.heap.size w (w.alloc (.cells #[.int .i64 p, .int .i64 t] 23)) := (Below.refl _ _).alloc (Nat.le_refl _) _
  have HV := hid (fun (W : World) (hb : Below w.heap.size w W) => refValidCells_c W p t a n cap l hn hm (H.below hb))
  have HR := hid (fun (W : World) (hb : Below w.heap.size w W) => refValidRow_c W p a2 n2 cap2 row hn2 hm2 (H2.below hb))
  clear hn H hn2 H2
  cases hf : okCells p t l <;> cases hr : okRow p row
  all_goals
    rw [hf] at HV
    rw [hr] at HR
    go_enter Try.func69, Try.ntmps69
    go_wp2_with (first | (go_at_call 22; refine (HV.out _ hb0).mono ?_; rintro e w1 ⟨rfl, hb1⟩; obtain ⟨hc1, hf1⟩ := bcell hb1; have hbw1 := chain hb0 hb1) | (go_at_call 93; refine (HR.out _ hbw1).mono ?_; rintro e w2 ⟨rfl, rfl⟩))
    go_ret
    exact ⟨ret_int (by simp [celledE, hf, hr]), hbw1⟩

def partsE (p t : Int) (l : List Cel) (row : List Int) (thr : Int) : Int := if okCells p t l && okRow p row then (if inB thr (-100) 100 then 0 else 7) else 1
def partsLo (p t : Int) (l : List Cel) (row : List Int) (thr : Int) : Int := if partsE p t l row thr = 0 then (((fitting p.toNat t.toNat l).map (dotW row)).countP (lowB thr) : Nat) else 0
def partsHi (p t : Int) (l : List Cel) (row : List Int) (thr : Int) : Int := if partsE p t l row thr = 0 then (((fitting p.toNat t.toNat l).map (dotW row)).countP (highB thr) : Nat) else 0

theorem fitting_le {p t : Nat} (hp : p ≤ 8) (ht : t ≤ 3) (l : List Cel) : (fitting p t l).length ≤ 65536 := by
  have h1 := List.length_filter_le (fitA l) (pics (t + 1) p)
  have h2 := length_pics (t + 1) p
  have h3 := pow_le hp ht
  unfold fitting
  omega

set_option maxRecDepth 100000 in
theorem partsP_c (w : World) (p t : Int) (a : Option Addr) (n cap : Nat) (l : List Cel) (hn : l.length = n) (hm : n ≤ maxLen) (H : CellsAt w a l)
    (a2 : Option Addr) (n2 cap2 : Nat) (row : List Int) (hn2 : row.length = n2) (hm2 : n2 ≤ maxLen) (H2 : IntsAt w a2 row) (thr : Int) :
    Calls Try.prog 25 #[.agg #[.int .i64 p, .int .i64 t], .slice a n cap, .slice a2 n2 cap2, .int .i64 thr] w fun e w' => e = .returned (.tuple #[.int .i64 (partsLo p t l row thr), .int .i64 (partsHi p t l row thr), .int .i64 (partsE p t l row thr)]) ∧ Below w.heap.size w w' := by
  have hb0 : Below w.heap.size w (w.alloc (.cells #[.int .i64 p, .int .i64 t] 23)) := (Below.refl _ _).alloc (Nat.le_refl _) _
  have HV := hid (fun (W : World) (hb : Below w.heap.size w W) => validCells_c W p t a n cap l hn hm (H.below hb))
  have HR := hid (fun (W : World) (hb : Below w.heap.size w W) => validRow_c W p a2 n2 cap2 row hn2 hm2 (H2.below hb))
  cases hf : okCells p t l
  · have e0 : partsE p t l row thr = 1 := by simp [partsE, hf]
    have e1 : partsLo p t l row thr = 0 := by simp [partsLo, e0]
    have e2 : partsHi p t l row thr = 0 := by simp [partsHi, e0]
    rw [e0, e1, e2]
    rw [hf] at HV
    clear e0 e1 e2 hn H hn2 H2
    go_enter Try.func25, Try.ntmps25
    go_wp2_with (go_at_call 21; refine (HV.out _ hb0).mono ?_; rintro e w1 ⟨rfl, hb1⟩; obtain ⟨hc1, hf1⟩ := bcell hb1)
    go_ret3
    exact ⟨rfl, chain hb0 hb1⟩
  cases hr : okRow p row
  · have e0 : partsE p t l row thr = 1 := by simp [partsE, hf, hr]
    have e1 : partsLo p t l row thr = 0 := by simp [partsLo, e0]
    have e2 : partsHi p t l row thr = 0 := by simp [partsHi, e0]
    rw [e0, e1, e2]
    rw [hf] at HV
    rw [hr] at HR
    clear e0 e1 e2 hn H hn2 H2
    go_enter Try.func25, Try.ntmps25
    go_wp2_with (first | (go_at_call 21; refine (HV.out _ hb0).mono ?_; rintro e w1 ⟨rfl, hb1⟩; obtain ⟨hc1, hf1⟩ := bcell hb1; have hbw1 := chain hb0 hb1) | (go_at_call 58; refine (HR.out _ hbw1).mono ?_; rintro e w2 ⟨rfl, hb2⟩))
    go_ret3
    exact ⟨rfl, chain hbw1 hb2⟩
  rw [hf] at HV
  rw [hr] at HR
  cases hs : inB thr (-100) 100
  · have e0 : partsE p t l row thr = 7 := by simp [partsE, hf, hr, hs]
    have e1 : partsLo p t l row thr = 0 := by simp [partsLo, e0]
    have e2 : partsHi p t l row thr = 0 := by simp [partsHi, e0]
    rw [e0, e1, e2]
    clear e0 e1 e2 hn H hn2 H2
    go_enter Try.func25, Try.ntmps25
    go_wp2_with (first | (go_at_call 21; refine (HV.out _ hb0).mono ?_; rintro e w1 ⟨rfl, hb1⟩; obtain ⟨hc1, hf1⟩ := bcell hb1; have hbw1 := chain hb0 hb1) | (go_at_call 58; refine (HR.out _ hbw1).mono ?_; rintro e w2 ⟨rfl, hb2⟩) | (go_at_call 59; refine (within_c _ _ _ _).mono ?_; rintro e w3 ⟨rfl, rfl⟩))
    go_ret3
    exact ⟨rfl, chain hbw1 hb2⟩
  · obtain ⟨hfd, hrows⟩ := okCells_bd hf
    obtain ⟨p1, p8, t0, t3⟩ := okField_bd hfd
    obtain ⟨P, rfl⟩ := Int.eq_ofNat_of_zero_le (show 0 ≤ p by omega)
    obtain ⟨T, rfl⟩ := Int.eq_ofNat_of_zero_le t0
    have hP : P ≤ 8 := by omega
    have hT : T ≤ 3 := by omega
    have e0 : partsE (P : Int) (T : Int) l row thr = 0 := by simp [partsE, hf, hr, hs]
    have e1 : partsLo (P : Int) (T : Int) l row thr = (((fitting P T l).map (dotW row)).countP (lowB thr) : Nat) := by rw [partsLo, if_pos e0]; rfl
    have e2 : partsHi (P : Int) (T : Int) l row thr = (((fitting P T l).map (dotW row)).countP (highB thr) : Nat) := by rw [partsHi, if_pos e0]; rfl
    rw [e0, e1, e2]
    have HL := hid (fun (W : World) (hb : Below w.heap.size w W) => left_c W P T hP hT a n cap l hn hm (H.below hb) hrows)
    have hfl : ∀ x ∈ fitting P T l, x.length = P := fun x hx => fitting_len hx
    have hfz := fitting_le hP hT l
    have hrl := (okRow_len hr).1
    obtain ⟨F, hF⟩ : ∃ F, F = fitting P T l := ⟨_, rfl⟩
    rw [← hF] at HL hfl hfz ⊢
    have HS := hid (fun (W : World) (hb : Below w.heap.size w W) (a3 : Option Addr) (c3 : Nat) (H3 : RowsAt W a3 F) => sums_c W a3 F.length c3 F rfl hfz H3 a2 n2 cap2 row hn2 hm2 (H2.below hb) (fun x hx => by rw [hfl x hx]; omega))
    have HP := hid (fun (W : World) (B : Nat) (h : W.ownsMap Try.prog 3 (plainElem (H := Unit) Try.prog 3) B F.length (cntD (F.map (dotW row)) F.length)) => parts_c W B F.length (F.map (dotW row)) (by simp) hfz h thr)
    obtain ⟨N1, hN1⟩ : ∃ N, N = (F.map (dotW row)).countP (lowB thr) := ⟨_, rfl⟩
    obtain ⟨N2, hN2⟩ : ∃ N, N = (F.map (dotW row)).countP (highB thr) := ⟨_, rfl⟩
    rw [← hN1, ← hN2] at HP ⊢
    clear hN1 hN2
    clear e0 e1 e2 hn H hn2 H2 hrows hF hfl hrl
    go_enter Try.func25, Try.ntmps25
    go_wp2_with (first | (go_at_call 21; refine (HV.out _ hb0).mono ?_; rintro e w1 ⟨rfl, hb1⟩; obtain ⟨hc1, hf1⟩ := bcell hb1; have hbw1 := chain hb0 hb1; have hz1 := hb1.size) | (go_at_call 58; refine (HR.out _ hbw1).mono ?_; rintro e w2 ⟨rfl, hb2⟩; have hbw2 := chain hbw1 hb2; refine Stop.of ?_))
    refine Stop.go ?_
    have g0 : w2.cell? ⟨w.heap.size, 0, none⟩ = some (.int .i64 (P : Int)) := ((chain hb1 hb2).cell (p := ⟨w.heap.size, 0, none⟩) (by simp)).trans (by rw [World.cell?_alloc_at _ _ _ _ rfl]; rfl)
    have g1 : w2.cell? ⟨w.heap.size, 1, none⟩ = some (.int .i64 (T : Int)) := ((chain hb1 hb2).cell (p := ⟨w.heap.size, 1, none⟩) (by simp)).trans (by rw [World.cell?_alloc_at _ _ _ _ rfl]; rfl)
    clear hc1 hf1 hz1
    go_wp2_with (first
      | (go_at_call 59; refine (within_c _ _ _ _).mono ?_; rintro e w3 ⟨rfl, rfl⟩)
      | (go_at_call 65; refine (HL.out _ hbw2).mono ?_; rintro e w4 ⟨v, base, rfl, hbase, hR, hb4⟩; refine Stop.of ?_))
    refine Stop.go ?_
    obtain ⟨a4, c4, rfl, hl4, hreads, _⟩ := hR.reads
    have hbw4 := chain hbw2 hb4
    have HS2 := hid (HS.out w4 hbw4 a4 c4 hreads)
    clear hR hreads HS
    unfold maxLen at hl4
    go_wp2_with (first
      | (go_at_call 68; refine HS2.out.mono ?_; rintro e w5 ⟨rfl, hown5, hb5⟩; have HP2 := hid (HP.out w5 _ hown5); clear hown5; have hbw5 := chain hbw4 hb5)
      | (go_at_call 67; refine HP2.out.mono ?_; rintro e w6 ⟨rfl, hb6⟩))
    go_ret3
    exact ⟨rfl, chain hbw5 hb6⟩

set_option maxRecDepth 100000 in
theorem refPartsP_c (w : World) (p t : Int) (a : Option Addr) (n cap : Nat) (l : List Cel) (hn : l.length = n) (hm : n ≤ maxLen) (H : CellsAt w a l)
    (a2 : Option Addr) (n2 cap2 : Nat) (row : List Int) (hn2 : row.length = n2) (hm2 : n2 ≤ maxLen) (H2 : IntsAt w a2 row) (thr : Int) :
    Calls Try.prog 26 #[.agg #[.int .i64 p, .int .i64 t], .slice a n cap, .slice a2 n2 cap2, .int .i64 thr] w fun e w' => e = .returned (.tuple #[.int .i64 (partsLo p t l row thr), .int .i64 (partsHi p t l row thr), .int .i64 (partsE p t l row thr)]) ∧ Below w.heap.size w w' := by
  have hb0 : Below w.heap.size w (w.alloc (.cells #[.int .i64 p, .int .i64 t] 23)) := (Below.refl _ _).alloc (Nat.le_refl _) _
  have HV := hid (fun (W : World) (hb : Below w.heap.size w W) => celled_c W p t a n cap l hn hm (H.below hb) a2 n2 cap2 row hn2 hm2 (H2.below hb))
  cases hc : okCells p t l && okRow p row
  · have e0 : partsE p t l row thr = 1 := by simp [partsE, hc]
    have e1 : partsLo p t l row thr = 0 := by simp [partsLo, e0]
    have e2 : partsHi p t l row thr = 0 := by simp [partsHi, e0]
    have e3 : celledE p t l row = 1 := by simp [celledE, hc]
    rw [e0, e1, e2]
    rw [e3] at HV
    clear e0 e1 e2 e3 hn H hn2 H2
    go_enter Try.func26, Try.ntmps26
    go_wp2_with (go_at_call 69; refine (HV.out _ hb0).mono ?_; rintro e w1 ⟨rfl, hb1⟩; obtain ⟨hc1, hf1⟩ := bcell hb1)
    go_ret3
    exact ⟨rfl, chain hb0 hb1⟩
  have e3 : celledE p t l row = 0 := by simp [celledE, hc]
  rw [e3] at HV
  clear e3
  obtain ⟨hf, hr⟩ := (Bool.and_eq_true _ _).mp hc
  cases hs : inB thr (-100) 100
  · have e0 : partsE p t l row thr = 7 := by simp [partsE, hf, hr, hs]
    have e1 : partsLo p t l row thr = 0 := by simp [partsLo, e0]
    have e2 : partsHi p t l row thr = 0 := by simp [partsHi, e0]
    rw [e0, e1, e2]
    clear e0 e1 e2 hn H hn2 H2
    go_enter Try.func26, Try.ntmps26
    go_wp2_with (first | (go_at_call 69; refine (HV.out _ hb0).mono ?_; rintro e w1 ⟨rfl, hb1⟩; obtain ⟨hc1, hf1⟩ := bcell hb1) | (go_at_call 60; refine (in_c _ _ _ _).mono ?_; rintro e w3 ⟨rfl, rfl⟩))
    go_ret3
    exact ⟨rfl, chain hb0 hb1⟩
  · obtain ⟨hfd, hrows⟩ := okCells_bd hf
    obtain ⟨p1, p8, t0, t3⟩ := okField_bd hfd
    obtain ⟨P, rfl⟩ := Int.eq_ofNat_of_zero_le (show 0 ≤ p by omega)
    obtain ⟨T, rfl⟩ := Int.eq_ofNat_of_zero_le t0
    have hP : P ≤ 8 := by omega
    have hT : T ≤ 3 := by omega
    have e0 : partsE (P : Int) (T : Int) l row thr = 0 := by simp [partsE, hf, hr, hs]
    have e1 : partsLo (P : Int) (T : Int) l row thr = (((fitting P T l).map (dotW row)).countP (lowB thr) : Nat) := by rw [partsLo, if_pos e0]; rfl
    have e2 : partsHi (P : Int) (T : Int) l row thr = (((fitting P T l).map (dotW row)).countP (highB thr) : Nat) := by rw [partsHi, if_pos e0]; rfl
    rw [e0, e1, e2]
    have HL := hid (fun (W : World) (hb : Below w.heap.size w W) => refFitting_c W P T hP hT a n cap l hn hm (H.below hb) hrows)
    have hfl : ∀ x ∈ fitting P T l, x.length = P := fun x hx => fitting_len hx
    have hfz := fitting_le hP hT l
    have hrl := (okRow_len hr).1
    obtain ⟨F, hF⟩ : ∃ F, F = fitting P T l := ⟨_, rfl⟩
    rw [← hF] at HL hfl hfz ⊢
    have HS := hid (fun (W : World) (hb : Below w.heap.size w W) (a3 : Option Addr) (c3 : Nat) (H3 : RowsAt W a3 F) => refParts_c W a3 F.length c3 F rfl hfz H3 a2 n2 cap2 row hn2 hm2 (H2.below hb) (fun x hx => by rw [hfl x hx]; omega) thr)
    obtain ⟨N1, hN1⟩ : ∃ N, N = (F.map (dotW row)).countP (lowB thr) := ⟨_, rfl⟩
    obtain ⟨N2, hN2⟩ : ∃ N, N = (F.map (dotW row)).countP (highB thr) := ⟨_, rfl⟩
    rw [← hN1, ← hN2] at HS ⊢
    clear hN1 hN2
    clear e0 e1 e2 hn H hn2 H2 hrows hF hfl hrl
    go_enter Try.func26, Try.ntmps26
    go_wp2_with (first
      | (go_at_call 69; refine (HV.out _ hb0).mono ?_; rintro e w1 ⟨rfl, hb1⟩; obtain ⟨hc1, hf1⟩ := bcell hb1; have hbw1 := chain hb0 hb1)
      | (go_at_call 60; refine (in_c _ _ _ _).mono ?_; rintro e w3 ⟨rfl, rfl⟩)
      | (go_at_call 71; refine (HL.out _ hbw1).mono ?_; rintro e w4 ⟨v, base, rfl, hbase, hR, hb4⟩; refine Stop.of ?_))
    refine Stop.go ?_
    obtain ⟨a4, c4, rfl, hl4, hreads, _⟩ := hR.reads
    have hbw4 := chain hbw1 hb4
    have HS2 := hid (HS.out w4 hbw4 a4 c4 hreads)
    clear hR hreads HS
    unfold maxLen at hl4
    go_wp2_with (first
      | (go_at_call 70; refine HS2.out.mono ?_; rintro e w6 ⟨rfl, hb6⟩))
    go_ret3
    exact ⟨rfl, chain hbw4 hb6⟩
end Go.Proofs.Ytdcflpfaaeijoaa
