/- Walks of package fault: explains, Explains, which, Which. -/
import Derived.Test.YthaampmdponhbaaGreatDoorFltAI
import Derived.Test.YthaampmdponhbaaGreatDoorFltAD
import Derived.Test.YthaampmdponhbaaGreatDoorTake
namespace Go.Proofs.YthaampmdponhbaaGreatDoor
open Go.RowKit
set_option linter.unusedVariables false

/-- a fault explains tests -/
def explainsF (M : Mask) (f : Flt) (t : List Tst) : Bool := t.all (fun x => decide (readF M f x.shown = x.read))

theorem okTest_ok {M : Mask} {x : Tst} (h : okTest M x = true) : okShown M x.shown = true ∧ x.read.length = M.length := by
  unfold okTest at h; simpa using h

set_option maxHeartbeats 1000000 in
theorem explains1 (w : World) (mb fb : Nat) (a : Option Addr) (n cap : Nat) (M : Mask) (hn : M.length = n) (H : RowsAt w a M) (hM : okM M = true) (f : Flt) (hf : okF M f = true) (hmb : mb < w.heap.size) (hmc : w.cell? ⟨mb, 0, none⟩ = some (.slice a n cap))
    (hfb : fb < w.heap.size) (hfc : FC w fb f.kind f.row f.pixel) :
    PredT Tryz.prog 67 #[.pointer (some ⟨mb, 0, none⟩), .pointer (some ⟨fb, 0, none⟩)] w (fun t => okTest M t = true) (fun t => !decide (readF M f t.shown = t.read)) := by
  intro t v W hok hbw hv
  obtain ⟨hsh, hrd⟩ := okTest_ok hok
  obtain ⟨sa, sn, sc, ra, rn, rc, rfl, hsn, hsm, hsi, hrn, hrm, hri⟩ := hv
  obtain ⟨wt, hwt, hb0, hcells⟩ := tstBox W sa ra sn sc rn rc
  have hm : n ≤ maxLen := by have := (okM_len hM).2.1; unfold maxLen; omega
  have HRd := hid (fun (X : World) (hb : Below wt.heap.size wt X) => reads_v X a n cap M hn (H.below (chain hbw (chain hb0 hb))) hM f hf sa sn sc t.shown hsn (hsi.below (chain hb0 hb)) hsh)
  obtain ⟨D, hD⟩ : ∃ D, D = decide (readF M f t.shown = t.read) := ⟨_, rfl⟩
  have HEq := hid (fun (X : World) (hb : Below wt.heap.size wt X) (va : Option Addr) (vc : Nat) (hv : IntsAt X va (readF M f t.shown)) => slEqual_d X va ra n rn vc rc _ _ D (by rw [readF_length, hn]) hrn hm hrm hv (hri.below (chain hb0 hb)) hD)
  have HS := hid (fun (X : World) (hb : Below wt.heap.size wt X) => show (X.cell? ⟨mb, 0, none⟩ = some (.slice a n cap) ∧ X.cell? ⟨fb, 0, none⟩ = some (.int .i64 f.kind) ∧ X.cell? ⟨fb, 1, none⟩ = some (.int .i64 f.row) ∧ X.cell? ⟨fb, 2, none⟩ = some (.int .i64 f.pixel)) ∧ X.cell? ⟨W.heap.size, 0, none⟩ = some (.slice sa sn sc) ∧ X.cell? ⟨W.heap.size, 1, none⟩ = some (.slice ra rn rc) from by
    have q := chain hbw (chain hb0 hb)
    exact ⟨⟨(q.cell (p := ⟨mb, 0, none⟩) hmb).trans hmc, hfc.below hfb q⟩, (hcells X hb).2⟩)
  show Calls _ _ _ W fun e W' => e = Ending.returned (.bool (!decide (readF M f t.shown = t.read))) ∧ Below W.heap.size W W'
  rw [← hD]
  have HB0 := hid hb0
  have HWT := hid hwt
  clear hn H hf hsn hsi hrn hri hsh hrd hok hM hfc hmc hD hcells hb0 hwt
  obtain ⟨kind, row, pixel⟩ := f
  simp only [Flt.val] at HRd HS
  go_enter Tryz.func67, Tryz.ntmps67
  go_wp2
  rw [← HWT.out]
  refine plain_region (fun j' X => wAll j' = true → ((X.cell? ⟨mb, 0, none⟩ = some (.slice a n cap) ∧ X.cell? ⟨fb, 0, none⟩ = some (.int .i64 kind) ∧ X.cell? ⟨fb, 1, none⟩ = some (.int .i64 row) ∧ X.cell? ⟨fb, 2, none⟩ = some (.int .i64 pixel)) ∧ X.cell? ⟨W.heap.size, 0, none⟩ = some (.slice sa sn sc) ∧ X.cell? ⟨W.heap.size, 1, none⟩ = some (.slice ra rn rc))) (by kernel_rfl) ?_
  have hbd : Below wt.heap.size wt wt.drew := (Below.refl _ _).drew
  generalize wt.drew = wd at hbd ⊢
  refine AnyT.takeD (i := 0) (v := .slice a n cap) rfl rfl (by kernel_rfl) (by kernel_rfl) (by kernel_rfl) (by first | exact (fun _ _ _ h => h) | exact (fun _ _ _ h => absurd h.1 (by simp))) (by kernel_rfl) (by rfl) (by rintro w' ⟨⟨q0, q1, q2, q3⟩, q4, q5⟩; go_simp) (HS.out _ hbd) ?_; go_frame
  refine AnyT.takeD (i := 1) (v := .agg #[.int .i64 kind, .int .i64 row, .int .i64 pixel]) rfl rfl (by kernel_rfl) (by kernel_rfl) (by kernel_rfl) (by first | exact (fun _ _ _ h => h) | exact (fun _ _ _ h => absurd h.1 (by simp))) (by kernel_rfl) (by rfl) (by rintro w' ⟨⟨q0, q1, q2, q3⟩, q4, q5⟩; go_simp) (HS.out _ hbd) ?_; go_frame
  refine AnyT.takeD (i := 2) (v := .pointer (some ⟨W.heap.size, 0, none⟩)) rfl rfl (by kernel_rfl) (by kernel_rfl) (by kernel_rfl) (by first | exact (fun _ _ _ h => h) | exact (fun _ _ _ h => absurd h.1 (by simp))) (by kernel_rfl) (by rfl) (by rintro w' ⟨⟨q0, q1, q2, q3⟩, q4, q5⟩; go_simp) (HS.out _ hbd) ?_; go_frame
  refine AnyT.takeD (i := 3) (v := .slice sa sn sc) rfl rfl (by kernel_rfl) (by kernel_rfl) (by kernel_rfl) (by first | exact (fun _ _ _ h => h) | exact (fun _ _ _ h => absurd h.1 (by simp))) (by kernel_rfl) (by rfl) (by rintro w' ⟨⟨q0, q1, q2, q3⟩, q4, q5⟩; go_simp) (HS.out _ hbd) ?_; go_frame
  refine AnyT.takeD (i := 5) (v := .pointer (some ⟨W.heap.size, 1, none⟩)) rfl rfl (by kernel_rfl) (by kernel_rfl) (by kernel_rfl) (by first | exact (fun _ _ _ h => h) | exact (fun _ _ _ h => absurd h.1 (by simp))) (by kernel_rfl) (by rfl) (by rintro w' ⟨⟨q0, q1, q2, q3⟩, q4, q5⟩; go_simp) (HS.out _ hbd) ?_; go_frame
  refine AnyT.takeD (i := 6) (v := .slice ra rn rc) rfl rfl (by kernel_rfl) (by kernel_rfl) (by kernel_rfl) (by first | exact (fun _ _ _ h => h) | exact (fun _ _ _ h => absurd h.1 (by simp))) (by kernel_rfl) (by rfl) (by rintro w' ⟨⟨q0, q1, q2, q3⟩, q4, q5⟩; go_simp) (HS.out _ hbd) ?_; go_frame
  refine AnyT.next (i := 4) (by kernel_rfl) rfl (wpOp_of_list rfl ?_)
  go_wp2_with (go_at_call 44; refine (HRd.out _ hbd).mono ?_; rintro e w4 ⟨a4, c4, rfl, hA4, hbl4⟩; refine Stop.of ?_)
  refine Stop.go ?_
  have hw4 := chain hbd hbl4
  go_wp2
  refine ⟨fun _ => HS.out _ hw4, ?_⟩
  refine AnyT.next (i := 7) (by kernel_rfl) rfl (wpOp_of_list rfl ?_)
  go_wp2_with (go_at_call 68; refine (HEq.out _ hw4 _ _ hA4).mono ?_; rintro e w5 ⟨rfl, hbl5⟩; refine Stop.of ?_)
  refine Stop.go ?_
  have hw5 := chain hw4 hbl5
  go_wp2
  refine ⟨fun _ => HS.out _ hw5, ?_⟩
  refine AnyT.next (i := 8) (by kernel_rfl) rfl (wpOp_of_list rfl ?_)
  go_wp2
  refine ⟨fun _ => HS.out _ hw5, ?_⟩
  refine AnyT.next (i := 9) (by kernel_rfl) rfl (wpOp_of_list rfl ?_)
  go_wp2
  refine ⟨fun _ => HS.out _ hw5, ?_⟩
  refine AnyT.done (by kernel_rfl) ?_ _
  go_wp2
  go_ret
  exact ⟨rfl, chain HB0.out hw5⟩

/-- a mask and a fault in boxes -/
theorem explains_c (w : World) (a : Option Addr) (n cap : Nat) (M : Mask) (hn : M.length = n) (H : RowsAt w a M) (hM : okM M = true) (f : Flt) (hf : okF M f = true) (a3 : Option Addr) (n3 cap3 : Nat) (t : List Tst) (hn3 : t.length = n3) (hm3 : n3 ≤ maxLen) (H3 : TestsAt w a3 t) (hok : ∀ x ∈ t, okTest M x = true) :
    Calls Tryz.prog 33 #[.slice a n cap, f.val, .slice a3 n3 cap3] w fun e w' => e = .returned (.bool (explainsF M f t)) ∧ Below w.heap.size w w' := by
  have hmf : ∀ (fn : Fn) (first cap : Array Value) (w : World), (Instr.makeFunc fn first cap).run Tryz.prog w = .ok (.func fn first cap) w := fun _ _ _ _ => rfl
  obtain ⟨w1, hw1⟩ : ∃ w1, w1 = w.alloc (.cells #[.slice a n cap] 23) := ⟨_, rfl⟩
  have hb1 : Below w.heap.size w w1 := by rw [hw1]; exact (Below.refl _ _).alloc (Nat.le_refl _) _
  obtain ⟨wf, hwf, hbf, hcells⟩ := fltBox w1 f
  have hs1 : w1.heap.size = w.heap.size + 1 := by rw [hw1]; simp
  have hbw := chain hb1 hbf
  obtain ⟨hsz, f0, f1, f2⟩ := hcells wf (Below.refl _ _)
  have hmc : wf.cell? ⟨w.heap.size, 0, none⟩ = some (.slice a n cap) := by
    rw [hbf.cell (p := ⟨w.heap.size, 0, none⟩) (by rw [hs1]; simp), hw1, World.cell?_alloc_at _ _ _ _ rfl]; rfl
  have HCt := hid (containsT wf a3 n3 cap3 t hn3 hm3 (H3.below hbw) 67 #[.pointer (some ⟨w.heap.size, 0, none⟩), .pointer (some ⟨w1.heap.size, 0, none⟩)] _ _ (enters_of Tryz.func67 (by kernel_rfl) rfl)
    (explains1 wf w.heap.size w1.heap.size a n cap M hn (H.below hbw) hM f hf (by omega) hmc hsz ⟨f0, f1, f2⟩) hok)
  have HE := hid (show explainsF M f t = !(t.any fun x => !decide (readF M f x.shown = x.read)) by
    unfold explainsF; rw [Bool.eq_iff_iff]; simp)
  obtain ⟨A, hA⟩ : ∃ A, A = t.any (fun x => !decide (readF M f x.shown = x.read)) := ⟨_, rfl⟩
  rw [← hA] at HCt HE
  rw [hs1] at HCt
  have HBW := hid hbw
  have HWF := hid (show wf = (w.alloc (.cells #[.slice a n cap] 23)).alloc (.cells #[.int .i64 f.kind, .int .i64 f.row, .int .i64 f.pixel] 25) by rw [hwf, hw1])
  clear hn H hf hn3 H3 hok hA hb1 hbf hcells hsz f0 f1 f2 hmc hbw hwf hw1 hs1 hM
  obtain ⟨kind, row, pixel⟩ := f
  simp only [Flt.val] at HWF ⊢
  go_enter Tryz.func33, Tryz.ntmps33
  go_wp2_with fail
  rw [← HWF.out]
  go_wp2_with (refine HCt.out.mono ?_; rintro e w1 ⟨rfl, hb1⟩)
  go_ret
  exact ⟨ret_bool (by rw [HE.out]), chain HBW.out hb1⟩

/-- the error of a fault and tests -/
def explE (M : Mask) (f : Flt) (t : List Tst) : Int := if validF M f = true ∧ okTests M t = true then 0 else 1
/-- what Explains returns -/
def explB (M : Mask) (f : Flt) (t : List Tst) : Bool := decide (explE M f t = 0) && explainsF M f t
theorem okTests_ok {M : Mask} {t : List Tst} (h : okTests M t = true) : okM M = true ∧ t.length ≤ 12 ∧ ∀ x ∈ t, okTest M x = true := by
  unfold okTests at h
  simp only [Bool.and_eq_true, decide_eq_true_eq, List.all_eq_true] at h
  exact ⟨h.1.1, h.1.2, h.2⟩

set_option maxHeartbeats 1000000 in
theorem Explains_c (w : World) (a : Option Addr) (n cap : Nat) (M : Mask) (hn : M.length = n) (hm : n ≤ maxLen) (H : RowsAt w a M) (f : Flt) (a3 : Option Addr) (n3 cap3 : Nat) (t : List Tst) (hn3 : t.length = n3) (hm3 : n3 ≤ maxLen) (H3 : TestsAt w a3 t) :
    Calls Tryz.prog 9 #[.slice a n cap, f.val, .slice a3 n3 cap3] w fun e w' => e = .returned (.tuple #[.bool (explB M f t), .int .i64 (explE M f t)]) ∧ Below w.heap.size w w' := by
  obtain ⟨wf, hwf, hb0, hcells⟩ := fltBox w f
  have HV := hid (faultValid_c wf a n cap M hn hm (H.below hb0) f)
  have HT := hid (fun (W : World) (hb : Below wf.heap.size wf W) => faultValidTests_c W a n cap M hn hm (H.below (chain hb0 hb)) a3 n3 cap3 t hn3 hm3 (H3.below (chain hb0 hb)))
  have HX := hid (fun (h : validF M f = true) (h2 : okTests M t = true) (W : World) (hb : Below wf.heap.size wf W) => explains_c W a n cap M hn (H.below (chain hb0 hb)) (validF_ok h).1 f (validF_ok h).2 a3 n3 cap3 t hn3 hm3 (H3.below (chain hb0 hb)) (okTests_ok h2).2.2)
  have HC := hid hcells
  have HB0 := hid hb0
  obtain ⟨_, f0, f1, f2⟩ := hcells wf (Below.refl _ _)
  have HWF := hid hwf
  clear hn H hcells hb0 hwf hn3 H3
  cases h1 : validF M f
  · have HE := hid (show explE M f t = 1 ∧ explB M f t = false by unfold explB explE; rw [h1]; simp)
    rw [h1] at HV
    clear h1 HX
    obtain ⟨kind, row, pixel⟩ := f
    simp only [Flt.val] at HV HWF f0 f1 f2 ⊢
    have hw := HWF.out
    clear HWF
    subst hw
    go_enter Tryz.func9, Tryz.ntmps9
    go_wp2_with (go_at_call 31; refine HV.out.mono ?_; rintro e w1 ⟨rfl, hb1⟩)
    go_ret2
    exact ⟨by rw [HE.out.1, HE.out.2]; rfl, chain HB0.out hb1⟩
  cases h2 : okTests M t
  · have HE := hid (show explE M f t = 1 ∧ explB M f t = false by unfold explB explE; rw [h1, h2]; simp)
    rw [h1] at HV
    rw [h2] at HT
    clear h1 h2 HX
    obtain ⟨kind, row, pixel⟩ := f
    simp only [Flt.val] at HV HWF f0 f1 f2 ⊢
    have hw := HWF.out
    clear HWF
    subst hw
    go_enter Tryz.func9, Tryz.ntmps9
    go_wp2_with (first | (go_at_call 31; refine HV.out.mono ?_; rintro e w1 ⟨rfl, hb1⟩) | (go_at_call 32; refine (HT.out _ hb1).mono ?_; rintro e w2 ⟨rfl, hb2⟩))
    go_ret2
    exact ⟨by rw [HE.out.1, HE.out.2]; rfl, chain HB0.out (chain hb1 hb2)⟩
  have HE := hid (show explE M f t = 0 ∧ explB M f t = explainsF M f t by unfold explB explE; rw [h1, h2]; simp)
  have HX1 := hid (HX.out h1 h2)
  rw [h1] at HV
  rw [h2] at HT
  clear h1 h2 HX
  obtain ⟨D, hD⟩ : ∃ D, D = explainsF M f t := ⟨_, rfl⟩
  rw [← hD] at HX1 HE
  clear hD
  obtain ⟨kind, row, pixel⟩ := f
  simp only [Flt.val] at HV HWF HX1 HC f0 f1 f2 ⊢
  have hw := HWF.out
  clear HWF
  subst hw
  go_enter Tryz.func9, Tryz.ntmps9
  go_wp2_with (first | (go_at_call 31; refine HV.out.mono ?_; rintro e w1 ⟨rfl, hb1⟩) | (go_at_call 32; refine (HT.out _ hb1).mono ?_; rintro e w2 ⟨rfl, hb2⟩; refine Stop.of ?_))
  refine Stop.go ?_
  have hb12 := chain hb1 hb2
  obtain ⟨_, f0, f1, f2⟩ := HC.out w2 hb12
  go_wp2_with (go_at_call 33; refine (HX1.out _ hb12).mono ?_; rintro e w3 ⟨rfl, hb3⟩)
  go_ret2
  exact ⟨by rw [HE.out.1, HE.out.2]; rfl, chain HB0.out (chain hb12 hb3)⟩

/-- the faults that explain tests -/
def whichF (M : Mask) (t : List Tst) : List Flt := (allF M).filter (fun f => explainsF M f t)
theorem allF_pos {M : Mask} (hM : okM M = true) : 0 < (allF M).length := by
  have h : (⟨0, 0, 0⟩ : Flt) ∈ everyF M := by rw [everyF_list hM]; unfold listF; simp
  obtain ⟨g, hg, _⟩ := allTo_has (M := M) h
  exact List.length_pos_of_mem hg

theorem which1 (w : World) (S : Nat → Prop) (N : Nat) (w0 : World) (hN : N ≤ w0.heap.size) (hw : Below N w0 w) (hS : ∀ k, k < N → S k) (mb tb : Nat) (a : Option Addr) (n cap : Nat) (M : Mask) (hn : M.length = n) (H : ∀ W, Below N w0 W → RowsAt W a M) (hM : okM M = true)
    (a3 : Option Addr) (n3 cap3 : Nat) (t : List Tst) (hn3 : t.length = n3) (hm3 : n3 ≤ maxLen) (H3 : ∀ W, Below N w0 W → TestsAt W a3 t) (hok : ∀ x ∈ t, okTest M x = true)
    (hmb : mb < N) (hmc : w0.cell? ⟨mb, 0, none⟩ = some (.slice a n cap)) (htb : tb < N) (htc : w0.cell? ⟨tb, 0, none⟩ = some (.slice a3 n3 cap3)) :
    PredF Tryz.prog 73 #[.pointer (some ⟨mb, 0, none⟩), .pointer (some ⟨tb, 0, none⟩)] S w (fun f => okF M f = true) (fun f => !explainsF M f t) := by
  intro f W hf hk
  have hbW : Below N w0 W := hk.below hw (Nat.le_trans hN hw.size) hS
  have d0 : W.cell? ⟨mb, 0, none⟩ = some (.slice a n cap) := (hbW.cell (p := ⟨mb, 0, none⟩) hmb).trans hmc
  have d1 : W.cell? ⟨tb, 0, none⟩ = some (.slice a3 n3 cap3) := (hbW.cell (p := ⟨tb, 0, none⟩) htb).trans htc
  have hz0 : mb < W.heap.size := by have := hbW.size; omega
  have hz1 : tb < W.heap.size := by have := hbW.size; omega
  obtain ⟨wf, hwf, hb0, hcells⟩ := fltBox W f
  have hbf : Below N w0 wf := hbW.trans (hb0.mono (Nat.le_trans hN hbW.size))
  have HX := hid (explains_c wf a n cap M hn (H wf hbf) hM f hf a3 n3 cap3 t hn3 hm3 (H3 wf hbf) hok)
  have c0 : wf.cell? ⟨mb, 0, none⟩ = some (.slice a n cap) := (hbf.cell (p := ⟨mb, 0, none⟩) hmb).trans hmc
  have c1 : wf.cell? ⟨tb, 0, none⟩ = some (.slice a3 n3 cap3) := (hbf.cell (p := ⟨tb, 0, none⟩) htb).trans htc
  obtain ⟨_, f0, f1, f2⟩ := hcells wf (Below.refl _ _)
  have HB0 := hid hb0
  have HWF := hid hwf
  clear hn H hM hf hn3 H3 hok hmc htc hcells hb0 hbf hbW hk hS hw hwf
  obtain ⟨D, hD⟩ : ∃ D, D = explainsF M f t := ⟨_, rfl⟩
  show Calls _ _ _ W fun e W' => e = Ending.returned (.bool (!explainsF M f t)) ∧ Below W.heap.size W W'
  rw [← hD] at HX ⊢
  clear hD
  obtain ⟨kind, row, pixel⟩ := f
  simp only [Flt.val] at HX HWF ⊢
  simp only [] at f0 f1 f2
  have hw := HWF.out
  clear HWF
  subst hw
  go_enter Tryz.func73, Tryz.ntmps73
  go_wp2_with (go_at_call 33; refine HX.out.mono ?_; rintro e w1 ⟨rfl, hb1⟩)
  go_ret
  exact ⟨rfl, chain HB0.out hb1⟩

set_option maxHeartbeats 1000000 in
theorem which_c (w : World) (a : Option Addr) (n cap : Nat) (M : Mask) (hn : M.length = n) (H : RowsAt w a M) (hM : okM M = true) (a3 : Option Addr) (n3 cap3 : Nat) (t : List Tst) (hn3 : t.length = n3) (hm3 : n3 ≤ maxLen) (H3 : TestsAt w a3 t) (hok : ∀ x ∈ t, okTest M x = true) :
    Calls Tryz.prog 37 #[.slice a n cap, .slice a3 n3 cap3] w fun e w' => ∃ v base, e = .returned v ∧ w.heap.size ≤ base ∧ FltsO w' base v (whichF M t) ∧ Below w.heap.size w w' := by
  have hmf : ∀ (fn : Fn) (first cap : Array Value) (w : World), (Instr.makeFunc fn first cap).run Tryz.prog w = .ok (.func fn first cap) w := fun _ _ _ _ => rfl
  obtain ⟨wt, hwt⟩ : ∃ wt, wt = (w.alloc (.cells #[.slice a n cap] 23)).alloc (.cells #[.slice a3 n3 cap3] 26) := ⟨_, rfl⟩
  have hb0 : Below w.heap.size w wt := by rw [hwt]; exact ((Below.refl _ _).alloc (Nat.le_refl _) _).alloc (by simp) _
  have hst : wt.heap.size = w.heap.size + 2 := by rw [hwt]; simp
  have hmc : wt.cell? ⟨w.heap.size, 0, none⟩ = some (.slice a n cap) := by rw [hwt, World.cell?_alloc_lt _ _ _ (show w.heap.size < (w.alloc _).heap.size by simp), World.cell?_alloc_at _ _ _ _ rfl]; rfl
  have htc : wt.cell? ⟨w.heap.size + 1, 0, none⟩ = some (.slice a3 n3 cap3) := by
    rw [hwt, World.cell?_alloc_at _ _ _ _ (by simp)]; rfl
  have HA := hid (all_c wt a n cap M hn (H.below hb0) hM)
  have HDel := hid (fun (w1 : World) (hb1 : Below wt.heap.size wt w1) (v : Value) (base : Nat) (hbase : wt.heap.size ≤ base) (hF : FltsO w1 base v (allF M)) => show ∃ va vc, v = .slice va (allF M).length vc ∧ Calls Tryz.prog 72 #[.slice va (allF M).length vc, .func (.func 73) #[] #[.pointer (some ⟨w.heap.size, 0, none⟩), .pointer (some ⟨w.heap.size + 1, 0, none⟩)]] w1 fun e w' => ∃ v', e = .returned v' ∧ FltsO w' base v' (whichF M t) ∧ Below w.heap.size w w' from by
    have hpos := allF_pos hM
    rcases hF.2 with ⟨rfl, h0⟩ | ⟨g, vc, cur, rfl, hbg, hgg, hnc, hcm, hsz, htk⟩
    · omega
    · refine ⟨_, _, rfl, ?_⟩
      have h1 := deleteF w1 base g (allF M).length vc cur (allF M) rfl (by have := all_240 hM; omega) hgg hnc hcm hsz htk hbg 73 #[.pointer (some ⟨w.heap.size, 0, none⟩), .pointer (some ⟨w.heap.size + 1, 0, none⟩)] (fun f => okF M f = true) (fun f => !explainsF M f t)
        (enters_of Tryz.func73 (by kernel_rfl) rfl)
        (which1 w1 (fun k => k ≠ g) wt.heap.size wt (Nat.le_refl _) hb1 (fun k hk => by omega) w.heap.size (w.heap.size + 1) a n cap M hn (fun W hb => H.below (chain hb0 hb)) hM a3 n3 cap3 t hn3 hm3 (fun W hb => H3.below (chain hb0 hb)) hok (by omega) hmc (by omega) htc)
        (fun f hf => all_ok hf)
      refine h1.mono fun e w' ⟨v', he, hF', hk⟩ => ⟨v', he, ?_, ?_⟩
      · have e2 : whichF M t = (allF M).filter (fun x => !(!explainsF M x t)) := by unfold whichF; simp
        rw [e2]; exact hF'
      · exact chain hb0 (hk.below hb1 hb1.size (fun k hk => by omega)))
  have HWT := hid hwt
  have HB0 := hid hb0
  clear hn H hM hn3 H3 hok hmc htc hst hb0 hwt
  go_enter Tryz.func37, Tryz.ntmps37
  go_wp2_with fail
  rw [← HWT.out]
  go_wp2_with (go_at_call 63; refine HA.out.mono ?_; rintro e w1 ⟨v, base, rfl, hbase, hF, hb1⟩; refine Stop.of ?_)
  refine Stop.go ?_
  obtain ⟨va, vc, rfl, hD⟩ := HDel.out w1 hb1 v base hbase hF
  have HDD := hid hD
  clear hD hF HDel
  go_wp2_with (go_at_call 72; refine HDD.out.mono ?_; rintro e w2 ⟨v2, rfl, hF2, hb2⟩)
  go_ret
  exact ⟨v2, base, rfl, Nat.le_trans HB0.out.size hbase, hF2, hb2⟩

/-- the error of tests -/
def whichE (M : Mask) (t : List Tst) : Int := if okTests M t = true then 0 else 1
/-- what Which returns -/
def whichL (M : Mask) (t : List Tst) : List Flt := if okTests M t = true then whichF M t else []
theorem Which_c (w : World) (a : Option Addr) (n cap : Nat) (M : Mask) (hn : M.length = n) (hm : n ≤ maxLen) (H : RowsAt w a M) (a3 : Option Addr) (n3 cap3 : Nat) (t : List Tst) (hn3 : t.length = n3) (hm3 : n3 ≤ maxLen) (H3 : TestsAt w a3 t) :
    Calls Tryz.prog 11 #[.slice a n cap, .slice a3 n3 cap3] w fun e w' => ∃ v base, e = .returned (.tuple #[v, .int .i64 (whichE M t)]) ∧ w.heap.size ≤ base ∧ FltsO w' base v (whichL M t) ∧ Below w.heap.size w w' := by
  have HT := hid (faultValidTests_c w a n cap M hn hm H a3 n3 cap3 t hn3 hm3 H3)
  have HX := hid (fun (h : okTests M t = true) (W : World) (hb : Below w.heap.size w W) => which_c W a n cap M hn (H.below hb) (okTests_ok h).1 a3 n3 cap3 t hn3 hm3 (H3.below hb) (okTests_ok h).2.2)
  clear hn H hn3 H3
  cases h2 : okTests M t
  · have HE := hid (show whichE M t = 1 ∧ whichL M t = [] by unfold whichE whichL; rw [h2]; simp)
    rw [h2] at HT
    clear h2 HX
    go_enter Tryz.func11, Tryz.ntmps11
    go_wp2_with (go_at_call 32; refine HT.out.mono ?_; rintro e w2 ⟨rfl, hb2⟩)
    go_ret2
    refine ⟨.slice none 0 0, w2.heap.size, by rw [HE.out.1]; rfl, hb2.size, ?_, hb2⟩
    rw [HE.out.2]
    exact FltsO.nil _ _
  · have HE := hid (show whichE M t = 0 ∧ whichL M t = whichF M t by unfold whichE whichL; rw [h2]; simp)
    rw [h2] at HT
    have HX1 := hid (HX.out h2)
    clear h2 HX
    go_enter Tryz.func11, Tryz.ntmps11
    go_wp2_with (first | (go_at_call 32; refine HT.out.mono ?_; rintro e w2 ⟨rfl, hb2⟩) | (go_at_call 37; refine (HX1.out _ hb2).mono ?_; rintro e w3 ⟨v, base, rfl, hbase, hF, hb3⟩))
    go_ret2
    refine ⟨v, base, by rw [HE.out.1]; rfl, Nat.le_trans hb2.size hbase, ?_, chain hb2 hb3⟩
    rw [HE.out.2]
    exact hF
end Go.Proofs.YthaampmdponhbaaGreatDoor
