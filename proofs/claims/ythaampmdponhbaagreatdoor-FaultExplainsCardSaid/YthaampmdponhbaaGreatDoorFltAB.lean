/- Tests: what they read as; walks of fault.test, ValidTests of both, the law's tests. -/
import Derived.Test.YthaampmdponhbaaGreatDoorFltAA
namespace Go.Proofs.YthaampmdponhbaaGreatDoor
open Go.RowKit
set_option linter.unusedVariables false

/-- a test of the document -/
structure Tst where
  shown : List Int
  read : List Int
deriving DecidableEq

def TstV (w : World) (v : Value) (t : Tst) : Prop :=
  ∃ sa sn sc ra rn rc, v = .agg #[.slice sa sn sc, .slice ra rn rc] ∧ t.shown.length = sn ∧ sn ≤ maxLen ∧ IntsAt w sa t.shown ∧ t.read.length = rn ∧ rn ≤ maxLen ∧ IntsAt w ra t.read
theorem TstV.below {w w' : World} {v : Value} {t : Tst} (h : TstV w v t) (hb : Below w.heap.size w w') : TstV w' v t := by
  obtain ⟨sa, sn, sc, ra, rn, rc, e, h1, h2, h3, h4, h5, h6⟩ := h
  exact ⟨sa, sn, sc, ra, rn, rc, e, h1, h2, h3.below hb, h4, h5, h6.below hb⟩

/-- the cells of a slice of tests -/
def TestsAt (w : World) (a : Option Addr) (l : List Tst) : Prop :=
  ∀ j (hj : j < l.length), ∃ b off sa sn sc ra rn rc, a = some ⟨b, off, none⟩ ∧ b < w.heap.size ∧ w.cell? ⟨b, off + j * 2, none⟩ = some (.slice sa sn sc) ∧ w.cell? ⟨b, off + j * 2 + 1, none⟩ = some (.slice ra rn rc) ∧
    l[j].shown.length = sn ∧ sn ≤ maxLen ∧ IntsAt w sa l[j].shown ∧ l[j].read.length = rn ∧ rn ≤ maxLen ∧ IntsAt w ra l[j].read
theorem TestsAt.below {w w' : World} {a : Option Addr} {l : List Tst} (h : TestsAt w a l) (hb : Below w.heap.size w w') : TestsAt w' a l := by
  intro j hj
  obtain ⟨b, off, sa, sn, sc, ra, rn, rc, e, hlt, c0, c1, h1, h2, h3, h4, h5, h6⟩ := h j hj
  exact ⟨b, off, sa, sn, sc, ra, rn, rc, e, Nat.lt_of_lt_of_le hlt hb.size, (hb.cell (p := ⟨b, _, none⟩) hlt).trans c0, (hb.cell (p := ⟨b, _, none⟩) hlt).trans c1, h1, h2, h3.below hb, h4, h5, h6.below hb⟩

def PredT (P : Program) (g : Nat) (lb : Array Value) (w : World) (ok : Tst → Prop) (p : Tst → Bool) : Prop :=
  ∀ (c : Tst) (v : Value) (W : World), ok c → Below w.heap.size w W → TstV W v c → Calls P g (#[v] ++ lb) W fun e W' => e = .returned (.bool (p c)) ∧ Below W.heap.size W W'

theorem indexT (w : World) (a : Option Addr) (n cap : Nat) (l : List Tst) (hn : l.length = n) (hm : n ≤ maxLen) (H : TestsAt w a l) (g : Nat) (lb : Array Value) (ok : Tst → Prop) (p : Tst → Bool)
    (eg : ∀ args w, (callFunc g args).run Tryz.prog w = .ok (.enter g args) w) (hp : PredT Tryz.prog g lb w ok p) (hok : ∀ c ∈ l, ok c) :
    Calls Tryz.prog 91 #[.slice a n cap, .func (.func g) #[] lb] w fun e w' => e = .returned (.int .i64 (idxP p l 0)) ∧ Below w.heap.size w w' := by
  have HN := hid hn
  have HH := hid H
  have HP := hid hp
  have HO := hid hok
  clear hn H hp hok
  unfold maxLen at hm
  go_enter Tryz.func91, Tryz.ntmps91
  go_wp2
  go_loopw [8] (fun i wr => ∃ k : Nat, k ≤ n ∧ i = .int .i64 k ∧ Below w.heap.size w wr ∧ ∀ i y, i < k → l[i]? = some y → p y = false) (fun i _ => n - (intOf i).toNat)
  case atStart => exact ⟨0, Nat.zero_le _, rfl, Below.refl _ _, fun i y h => by omega⟩
  case round =>
    obtain ⟨k, hk, rfl, hb, hno⟩ := hrel
    have HNO := hid hno
    clear hno
    by_cases hlt : k < n
    · have hkl : k < l.length := by rw [HN.out]; exact hlt
      obtain ⟨b, off, sa, sn, sc, ra, rn, rc, rfl, hbs, h0, h1, hsn, hsm, hsi, hrn, hrm, hri⟩ := (HH.out.below hb) k hkl
      have HV := hid (show TstV wr (.agg #[.slice sa sn sc, .slice ra rn rc]) l[k] from ⟨sa, sn, sc, ra, rn, rc, rfl, hsn, hsm, hsi, hrn, hrm, hri⟩)
      clear hrn hri hsn hsi
      have HK := hid (List.getElem?_eq_getElem hkl)
      cases hpx : p l[k]
      · go_wp2_with (refine (HP.out _ _ _ (HO.out _ (List.getElem_mem hkl)) hb HV.out).mono ?_; rintro e w1 ⟨rfl, hb1⟩)
        refine ⟨⟨k + 1, by omega, by go_num, chain hb hb1, ?_⟩, by simp [intOf]; omega⟩
        intro i y hi hy
        by_cases e : i = k
        · subst e; rw [HK.out] at hy; cases hy; exact hpx
        · exact HNO.out i y (by omega) hy
      · go_wp2_with (refine (HP.out _ _ _ (HO.out _ (List.getElem_mem hkl)) hb HV.out).mono ?_; rintro e w1 ⟨rfl, hb1⟩)
        go_ret
        refine ⟨ret_int ?_, chain hb hb1⟩
        rw [idxP_at p l 0 k _ HK.out hpx HNO.out]; simp
    · go_wp2
      go_ret
      refine ⟨ret_int ?_, hb⟩
      rw [idxP_neg]
      intro x hx
      obtain ⟨i, hi, e⟩ := List.getElem_of_mem hx
      exact HNO.out i x (by have := HN.out; omega) (by rw [List.getElem?_eq_getElem hi, e])

theorem containsT (w : World) (a : Option Addr) (n cap : Nat) (l : List Tst) (hn : l.length = n) (hm : n ≤ maxLen) (H : TestsAt w a l) (g : Nat) (lb : Array Value) (ok : Tst → Prop) (p : Tst → Bool)
    (eg : ∀ args w, (callFunc g args).run Tryz.prog w = .ok (.enter g args) w) (hp : PredT Tryz.prog g lb w ok p) (hok : ∀ c ∈ l, ok c) :
    Calls Tryz.prog 57 #[.slice a n cap, .func (.func g) #[] lb] w fun e w' => e = .returned (.bool (l.any p)) ∧ Below w.heap.size w w' := by
  have HC := hid (indexT w a n cap l hn hm H g lb ok p eg hp hok)
  have HG := idxP_ge p l 0
  have HG' := hid HG
  clear hn H hp HG hok
  go_enter Tryz.func57, Tryz.ntmps57
  go_wp2_with (refine HC.out.mono ?_; rintro e w1 ⟨rfl, hb1⟩)
  go_ret
  refine ⟨ret_bool ?_, hb1⟩
  rw [Bool.eq_iff_iff, decide_eq_true_iff, HG'.out]

/-- a test that is one of a mask -/
def okTest (M : Mask) (t : Tst) : Bool := okShown M t.shown && decide (t.read.length = M.length)
/-- valid tests -/
def okTests (M : Mask) (l : List Tst) : Bool := okM M && decide (l.length ≤ 12) && l.all (okTest M)

theorem tstBox (w : World) (sa ra : Option Addr) (sn sc rn rc : Nat) : ∃ wt, wt = w.alloc (.cells #[.slice sa sn sc, .slice ra rn rc] 29) ∧ Below w.heap.size w wt ∧ (∀ W, Below wt.heap.size wt W → w.heap.size < W.heap.size ∧ W.cell? ⟨w.heap.size, 0, none⟩ = some (.slice sa sn sc) ∧ W.cell? ⟨w.heap.size, 1, none⟩ = some (.slice ra rn rc)) := by
  refine ⟨_, rfl, (Below.refl _ _).alloc (Nat.le_refl _) _, fun W hb => ?_⟩
  have hs := hb.size
  simp at hs
  refine ⟨by omega, ?_, ?_⟩ <;> (rw [hb.cell (p := ⟨w.heap.size, _, none⟩) (by simp), World.cell?_alloc_at _ _ _ _ rfl]; rfl)

theorem ftest_c (w : World) (a : Option Addr) (n cap : Nat) (M : Mask) (hn : M.length = n) (hm : n ≤ maxLen) (H : RowsAt w a M) (v : Value) (t : Tst) (hv : TstV w v t) :
    Calls Tryz.prog 66 #[.slice a n cap, v] w fun e w' => e = .returned (.bool (okTest M t)) ∧ Below w.heap.size w w' := by
  obtain ⟨sa, sn, sc, ra, rn, rc, rfl, hsn, hsm, hsi, hrn, hrm, hri⟩ := hv
  obtain ⟨wt, hwt, hb0, hcells⟩ := tstBox w sa ra sn sc rn rc
  have HS := hid (maskShown_c wt a n cap M hn hm (H.below hb0) sa sn sc t.shown hsn hsm (hsi.below hb0))
  have HE := hid (show okTest M t = (okShown M t.shown && decide (rn = n)) by unfold okTest; rw [hrn, hn])
  have HB0 := hid hb0
  have HC := hid hcells
  obtain ⟨_, f0, f1⟩ := hcells wt (Below.refl _ _)
  have HW := hid hwt
  clear hn H hsn hsi hrn hri hb0 hcells hwt
  cases h : okShown M t.shown
  · rw [h] at HS HE
    clear h
    have hw := HW.out
    clear HW
    subst hw
    go_enter Tryz.func66, Tryz.ntmps66
    go_wp2_with (go_at_call 77; refine HS.out.mono ?_; rintro e w1 ⟨rfl, hb1⟩)
    go_ret
    exact ⟨ret_bool (by rw [HE.out]; rfl), chain HB0.out hb1⟩
  · rw [h] at HS HE
    clear h
    have hw := HW.out
    clear HW
    subst hw
    unfold maxLen at hm hrm
    by_cases e : rn = n
    · have HE2 := hid (show okTest M t = true by rw [HE.out, e]; simp)
      subst e
      go_enter Tryz.func66, Tryz.ntmps66
      go_wp2_with (go_at_call 77; refine HS.out.mono ?_; rintro e w1 ⟨rfl, hb1⟩; obtain ⟨_, f0, f1⟩ := HC.out w1 hb1)
      go_ret
      exact ⟨ret_bool (by rw [HE2.out]), chain HB0.out hb1⟩
    · have HE2 := hid (show okTest M t = false by rw [HE.out, decide_eq_false e]; rfl)
      have e2 : ((rn : Int) == (n : Int)) = false := by simp; omega
      clear e
      go_enter Tryz.func66, Tryz.ntmps66
      go_wp2_with (go_at_call 77; refine HS.out.mono ?_; rintro e w1 ⟨rfl, hb1⟩; obtain ⟨_, f0, f1⟩ := HC.out w1 hb1)
      go_ret
      exact ⟨ret_bool (by rw [HE2.out]), chain HB0.out hb1⟩

theorem validTests1 (w : World) (b : Nat) (a : Option Addr) (n cap : Nat) (M : Mask) (hn : M.length = n) (hm : n ≤ maxLen) (H : RowsAt w a M) (hb : b < w.heap.size) (hc : w.cell? ⟨b, 0, none⟩ = some (.slice a n cap)) :
    PredT Tryz.prog 65 #[.pointer (some ⟨b, 0, none⟩)] w (fun _ => True) (fun t => !okTest M t) := by
  intro t v W _ hbw hv
  have hc' : W.cell? ⟨b, 0, none⟩ = some (.slice a n cap) := (hbw.cell (p := ⟨b, 0, none⟩) hb).trans hc
  have hbW : b < W.heap.size := by have := hbw.size; omega
  have HT := hid (fun (X : World) (hx : Below W.heap.size W X) => ftest_c X a n cap M hn hm (H.below (chain hbw hx)) v t (hv.below hx))
  obtain ⟨sa, sn, sc, ra, rn, rc, rfl, hsn, hsm, hsi, hrn, hrm, hri⟩ := hv
  have hba := (Below.refl W.heap.size W).alloc (Nat.le_refl _) (.cells #[.slice sa sn sc, .slice ra rn rc] 29)
  have HT1 := hid (HT.out _ hba)
  have HBA := hid hba
  clear hn H hsn hsi hrn hri hc HT hba
  go_enter Tryz.func65, Tryz.ntmps65
  go_wp2_with (go_at_call 66; refine HT1.out.mono ?_; rintro e w1 ⟨rfl, hb1⟩)
  go_ret
  exact ⟨rfl, chain HBA.out hb1⟩

theorem faultValidTests_c (w : World) (a : Option Addr) (n cap : Nat) (M : Mask) (hn : M.length = n) (hm : n ≤ maxLen) (H : RowsAt w a M) (a2 : Option Addr) (n2 cap2 : Nat) (l : List Tst) (hn2 : l.length = n2) (hm2 : n2 ≤ maxLen) (H2 : TestsAt w a2 l) :
    Calls Tryz.prog 32 #[.slice a n cap, .slice a2 n2 cap2] w fun e w' => e = .returned (.bool (okTests M l)) ∧ Below w.heap.size w w' := by
  have hmf : ∀ (fn : Fn) (first cap : Array Value) (w : World), (Instr.makeFunc fn first cap).run Tryz.prog w = .ok (.func fn first cap) w := fun _ _ _ _ => rfl
  have hb0 : Below w.heap.size w (w.alloc (.cells #[.slice a n cap] 23)) := (Below.refl _ _).alloc (Nat.le_refl _) _
  have HV := hid (maskValid_c _ a n cap M hn hm (H.below hb0))
  have HT := hid (fun (W : World) (hb : Below (w.alloc (.cells #[.slice a n cap] 23)).heap.size (w.alloc (.cells #[.slice a n cap] 23)) W) =>
    containsT W a2 n2 cap2 l hn2 hm2 (H2.below (chain hb0 hb)) 65 #[.pointer (some ⟨w.heap.size, 0, none⟩)] (fun _ => True) (fun t => !okTest M t) (enters_of Tryz.func65 (by kernel_rfl) rfl)
      (validTests1 W w.heap.size a n cap M hn hm (H.below (chain hb0 hb)) (by have := hb.size; simp at this; omega) (by rw [hb.cell (p := ⟨w.heap.size, 0, none⟩) (by simp), World.cell?_alloc_at _ _ _ _ rfl]; rfl)) (fun _ _ => trivial))
  have HE := hid (show okTests M l = (okM M && decide (n2 ≤ 12) && !(l.any fun t => !okTest M t)) by
    unfold okTests; rw [hn2]; congr 1; rw [Bool.eq_iff_iff]; simp)
  have HB0 := hid hb0
  unfold maxLen at hm2
  clear hn H hn2 H2 hb0
  obtain ⟨A, hA⟩ : ∃ A, A = l.any (fun t => !okTest M t) := ⟨_, rfl⟩
  rw [← hA] at HE HT
  clear hA
  cases h : okM M
  · rw [h] at HV HE
    clear h
    go_enter Tryz.func32, Tryz.ntmps32
    go_wp2_with (go_at_call 62; refine HV.out.mono ?_; rintro e w1 ⟨rfl, hb1⟩)
    go_ret
    exact ⟨ret_bool (by rw [HE.out]; rfl), chain HB0.out hb1⟩
  · rw [h] at HV HE
    clear h
    by_cases h12 : n2 ≤ 12
    · have HE2 := hid (show okTests M l = !A by rw [HE.out]; simp [h12])
      go_enter Tryz.func32, Tryz.ntmps32
      go_wp2_with (first | (go_at_call 62; refine HV.out.mono ?_; rintro e w1 ⟨rfl, hb1⟩) | (refine (HT.out _ hb1).mono ?_; rintro e w2 ⟨rfl, hb2⟩))
      go_ret
      exact ⟨ret_bool (by rw [HE2.out]), chain HB0.out (chain hb1 hb2)⟩
    · have HE2 := hid (show okTests M l = false by rw [HE.out]; simp [h12])
      go_enter Tryz.func32, Tryz.ntmps32
      go_wp2_with (first | (go_at_call 62; refine HV.out.mono ?_; rintro e w1 ⟨rfl, hb1⟩))
      go_ret
      exact ⟨ret_bool (by rw [HE2.out]), chain HB0.out hb1⟩

set_option maxHeartbeats 1000000 in
theorem refValidTests_c (w : World) (a : Option Addr) (n cap : Nat) (M : Mask) (hn : M.length = n) (hm : n ≤ maxLen) (H : RowsAt w a M) (a2 : Option Addr) (n2 cap2 : Nat) (l : List Tst) (hn2 : l.length = n2) (hm2 : n2 ≤ maxLen) (H2 : TestsAt w a2 l) :
    Calls Tryz.prog 35 #[.slice a n cap, .slice a2 n2 cap2] w fun e w' => e = .returned (.bool (okTests M l)) ∧ Below w.heap.size w w' := by
  have HV := hid (fun (W : World) (hb : Below w.heap.size w W) => r2Valid_c W a n cap M hn hm (H.below hb))
  have HSh := hid (fun (W : World) (hb : Below w.heap.size w W) (xa : Option Addr) (xn xc : Nat) (x : List Int) (hx : x.length = xn) (hxm : xn ≤ maxLen) (hxi : IntsAt W xa x) => r2Shown_c W a n cap M hn hm (H.below hb) xa xn xc x hx hxm hxi)
  have HN := hid hn
  have HN2 := hid hn2
  have HH2 := hid H2
  have HE := hid (show okTests M l = (l.all (okTest M) && (okM M && decide (n2 ≤ 12))) by unfold okTests; rw [hn2, Bool.and_comm])
  unfold maxLen at hm hm2
  clear hn H hn2 H2
  go_enter Tryz.func35, Tryz.ntmps35
  go_wp2
  go_loopw [9] (fun i wr => ∃ k : Nat, k ≤ n2 ∧ i = .int .i64 k ∧ Below w.heap.size w wr ∧ Hid (∀ j (hj : j < l.length), j < k → okTest M l[j] = true)) (fun i _ => n2 - (intOf i).toNat)
  case atStart => exact ⟨0, Nat.zero_le _, rfl, Below.refl _ _, hid (fun j _ h => by omega)⟩
  case round =>
    obtain ⟨k, hk, rfl, hb, hno⟩ := hrel
    by_cases hlt : k < n2
    · have hkl : k < l.length := by rw [HN2.out]; exact hlt
      obtain ⟨b, off, sa, sn, sc, ra, rn, rc, rfl, hbs, h0, h1, hsn, hsm, hsi, hrn, hrm, hri⟩ := (HH2.out.below hb) k hkl
      obtain ⟨wt, hwt, hbt, hcells⟩ := tstBox wr sa ra sn sc rn rc
      have HS := hid (HSh.out wt (chain hb hbt) sa sn sc l[k].shown hsn hsm (hsi.below hbt))
      have hot : okTest M l[k] = (okShown M l[k].shown && decide (rn = n)) := by unfold okTest; rw [hrn, HN.out]
      obtain ⟨x, hx⟩ : ∃ x, x = l[k] := ⟨_, rfl⟩
      rw [← hx] at HS hot
      obtain ⟨_, f0, f1⟩ := hcells wt (Below.refl _ _)
      have hot2 : okTest M l[k] = okTest M x := by rw [hx]
      rw [← hot2] at hot
      have HOT := hid hot
      have HBT := hid (chain hb hbt)
      have HKL := hid hkl
      have HWT := hid hwt
      unfold maxLen at hrm
      clear hsn hsi hrn hri hcells hot hot2 hx hb hbt hwt
      cases h : okShown M x.shown
      · have HF := hid (show okTest M (l[k]'HKL.out) = false by rw [HOT.out, h]; rfl)
        rw [h] at HS
        clear h
        go_wp2_with fail
        rw [← HWT.out]
        go_wp2_with (go_at_call 71; refine HS.out.mono ?_; rintro e w1 ⟨rfl, rfl⟩)
        go_ret
        exact ⟨ret_bool (by rw [HE.out, all_stop HKL.out HF.out]; rfl), HBT.out⟩
      · rw [h] at HS
        by_cases e : rn = n
        · have HF := hid (show okTest M (l[k]'HKL.out) = true by rw [HOT.out, h, e]; simp)
          have e2 : ((rn : Int) != (n : Int)) = false := by simp [e]
          clear h e
          go_wp2_with fail
          rw [← HWT.out]
          go_wp2_with (go_at_call 71; refine HS.out.mono ?_; rintro e w1 ⟨rfl, rfl⟩)
          refine ⟨⟨k + 1, by omega, by go_num, HBT.out, hid (fun j hj hjk => ?_)⟩, by simp [intOf]; omega⟩
          rcases Nat.lt_or_ge j k with h | h
          · exact hno.out j hj h
          · obtain rfl : j = k := by omega
            exact HF.out
        · have HF := hid (show okTest M (l[k]'HKL.out) = false by rw [HOT.out, h, decide_eq_false e]; rfl)
          have e2 : ((rn : Int) != (n : Int)) = true := by simp; omega
          clear h e
          go_wp2_with fail
          rw [← HWT.out]
          go_wp2_with (go_at_call 71; refine HS.out.mono ?_; rintro e w1 ⟨rfl, rfl⟩)
          go_ret
          exact ⟨ret_bool (by rw [HE.out, all_stop HKL.out HF.out]; rfl), HBT.out⟩
    · obtain rfl : k = n2 := by omega
      have HV1 := hid (HV.out wr hb)
      have hall : l.all (okTest M) = true := all_done (fun j hj => hno.out j hj (by rw [← HN2.out]; exact hj))
      have HE2 := hid (show okTests M l = (okM M && decide (k ≤ 12)) by rw [HE.out, hall, Bool.true_and])
      have HB := hid hb
      clear hall hno
      cases h : okM M
      · rw [h] at HV1 HE2
        clear h
        go_wp2_with (go_at_call 69; refine HV1.out.mono ?_; rintro e w1 ⟨rfl, rfl⟩)
        go_ret
        exact ⟨ret_bool (by rw [HE2.out]; rfl), HB.out⟩
      · rw [h] at HV1 HE2
        clear h
        by_cases h12 : k ≤ 12
        · go_wp2_with (go_at_call 69; refine HV1.out.mono ?_; rintro e w1 ⟨rfl, rfl⟩)
          go_ret
          exact ⟨ret_bool (by rw [HE2.out]; simp; omega), HB.out⟩
        · go_wp2_with (go_at_call 69; refine HV1.out.mono ?_; rintro e w1 ⟨rfl, rfl⟩)
          go_ret
          exact ⟨ret_bool (by rw [HE2.out]; simp; omega), HB.out⟩

/-- tests that are few and short -/
def fitT (l : List Tst) : Bool := l.all (fun t => decide (t.shown.length ≤ 20) && decide (t.read.length ≤ 20)) && decide (l.length ≤ 16)
theorem tests_c (w : World) (a2 : Option Addr) (n2 cap2 : Nat) (l : List Tst) (hn2 : l.length = n2) (hm2 : n2 ≤ maxLen) (H2 : TestsAt w a2 l) :
    Calls Tryz.prog 7 #[.slice a2 n2 cap2] w fun e w' => e = .returned (.bool (fitT l)) ∧ Below w.heap.size w w' := by
  have HN2 := hid hn2
  have HH2 := hid H2
  have HE := hid (show fitT l = (l.all (fun t => decide (t.shown.length ≤ 20) && decide (t.read.length ≤ 20)) && decide (n2 ≤ 16)) by unfold fitT; rw [hn2])
  unfold maxLen at hm2
  clear hn2 H2
  go_enter Tryz.func7, Tryz.ntmps7
  go_wp2
  go_loopw [7] (fun i wr => ∃ k : Nat, k ≤ n2 ∧ i = .int .i64 k ∧ Below w.heap.size w wr ∧ Hid (∀ j (hj : j < l.length), j < k → (decide (l[j].shown.length ≤ 20) && decide (l[j].read.length ≤ 20)) = true)) (fun i _ => n2 - (intOf i).toNat)
  case atStart => exact ⟨0, Nat.zero_le _, rfl, Below.refl _ _, hid (fun j _ h => by omega)⟩
  case round =>
    obtain ⟨k, hk, rfl, hb, hno⟩ := hrel
    by_cases hlt : k < n2
    · have hkl : k < l.length := by rw [HN2.out]; exact hlt
      obtain ⟨b, off, sa, sn, sc, ra, rn, rc, rfl, hbs, h0, h1, hsn, hsm, hsi, hrn, hrm, hri⟩ := (HH2.out.below hb) k hkl
      have HOT := hid (show (decide (l[k].shown.length ≤ 20) && decide (l[k].read.length ≤ 20)) = (decide (sn ≤ 20) && decide (rn ≤ 20)) by rw [hsn, hrn])
      have HKL := hid hkl
      have HB := hid (hb.alloc hb.size (.cells #[.slice sa sn sc, .slice ra rn rc] 29))
      unfold maxLen at hrm hsm
      clear hsn hsi hrn hri hb
      by_cases hs : sn ≤ 20
      · by_cases hr : rn ≤ 20
        · go_wp2
          refine ⟨⟨k + 1, by omega, by go_num, HB.out, hid (fun j hj hjk => ?_)⟩, by simp [intOf]; omega⟩
          rcases Nat.lt_or_ge j k with h | h
          · exact hno.out j hj h
          · obtain rfl : j = k := by omega
            rw [HOT.out]; simp [hs, hr]
        · go_wp2
          go_ret
          exact ⟨ret_bool (by rw [HE.out, all_stop (p := fun t => decide (t.shown.length ≤ 20) && decide (t.read.length ≤ 20)) HKL.out (by rw [HOT.out]; simp [hr])]; rfl), HB.out⟩
      · go_wp2
        go_ret
        exact ⟨ret_bool (by rw [HE.out, all_stop (p := fun t => decide (t.shown.length ≤ 20) && decide (t.read.length ≤ 20)) HKL.out (by rw [HOT.out]; simp [hs])]; rfl), HB.out⟩
    · obtain rfl : k = n2 := by omega
      have hall : l.all (fun t => decide (t.shown.length ≤ 20) && decide (t.read.length ≤ 20)) = true := all_done (fun j hj => hno.out j hj (by rw [← HN2.out]; exact hj))
      have HE2 := hid (show fitT l = decide (k ≤ 16) by rw [HE.out, hall, Bool.true_and])
      clear hall hno
      go_wp2
      go_ret
      exact ⟨ret_bool (by rw [HE2.out]; simp; omega), hb⟩
end Go.Proofs.YthaampmdponhbaaGreatDoor
