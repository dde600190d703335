/- Walks and plain laws for FaultPlaysRow, part 6. -/
import Derived.ChangeOld
import Derived.Deep.Slices
import Derived.Lib.SmallJoins
import Derived.LaidMore
import Derived.LaidHandle
import Derived.MakeChecks
import Derived.Stop.LaidErr
import Derived.Lib.LaidTab
import Derived.Test.YthaampmdponhbaaGreatDoorPkFaultPlaysRow5
namespace Go.Proofs.YthaampmdponhbaaGreatDoor
open Go.RowKit Go.Maps
set_option linter.unusedVariables false

theorem step_ge {M : Mask} {f : Flt} {L : List (List Int)} {out : List Tst} (h : (whichF M out).length ≤ (bestJ (whichF M out) (bestTo M (whichF M out) L L.length)).2) : stepF M f L out = none := by
  unfold stepF
  split
  · rfl
  · cases hb : bestTo M (whichF M out) L L.length with
    | none => rfl
    | some pl =>
      obtain ⟨p, l⟩ := pl
      rw [hb] at h
      simp only [bestJ] at h ⊢
      rcases bestTo_spec M (whichF M out) L L.length with ⟨_, h2⟩ | ⟨a', l', h2, _, h4, _⟩
      · rw [hb] at h2; cases h2
      · rw [hb] at h2; cases h2
        have := most_len M (L[p]?.getD []) (whichF M out)
        rw [if_pos (by omega)]
theorem bestJ_some {M : Mask} {F : List Flt} {L : List (List Int)} (h : (bestJ F (bestTo M F L L.length)).2 < F.length) : ∃ p l, bestTo M F L L.length = some (p, l) ∧ p < L.length ∧ bestJ F (bestTo M F L L.length) = (p, l) := by
  rcases bestTo_spec M F L L.length with ⟨_, hb⟩ | ⟨a, l, hb, ha, hl, _⟩
  · rw [hb] at h; simp [bestJ] at h; omega
  · exact ⟨a, l, hb, ha, by rw [hb]; rfl⟩

set_option maxRecDepth 100000 in
set_option maxHeartbeats 8000000 in
theorem refPlay_c (w : World) (a : Option Addr) (n cap : Nat) (M : Mask) (hn : M.length = n) (hm : n ≤ maxLen) (H : RowsAt w a M) (f : Flt) (a2 : Option Addr) (n2 cap2 : Nat) (L : List (List Int)) (hn2 : L.length = n2) (hm2 : n2 ≤ maxLen) (H2 : RowsAt w a2 L) :
    Calls Tryz.prog 22 #[.slice a n cap, f.val, .slice a2 n2 cap2] w fun e w' => ∃ v base, e = .returned (.tuple #[v, .int .i64 (playE M f L)]) ∧ w.heap.size ≤ base ∧ TestsO w' base v (playL M f L) ∧ Below w.heap.size w w' := by
  obtain ⟨wf, hwf, hb0, hcells⟩ := fltBox w f
  have HV := hid (refFValid_c wf a n cap M hn hm (H.below hb0) f)
  have HP := hid (fun (W : World) (hb : Below wf.heap.size wf W) => refShown_c W a n cap M hn hm (H.below (chain hb0 hb)) a2 n2 cap2 L hn2 hm2 (H2.below (chain hb0 hb)))
  have HC := hid hcells
  have HB0 := hid hb0
  have HWF := hid hwf
  cases h1 : validF M f
  · have HE := hid (show playE M f L = 1 ∧ playL M f L = [] by unfold playL playE; rw [h1]; simp)
    rw [h1] at HV
    obtain ⟨_, f0, f1, f2⟩ := hcells wf (Below.refl _ _)
    clear h1 HP hn H hn2 H2 hcells hb0 hwf
    obtain ⟨kind, row, pixel⟩ := f
    simp only [Flt.val] at HV HWF f0 f1 f2 ⊢
    have hw := HWF.out
    clear HWF
    subst hw
    go_enter Tryz.func22, Tryz.ntmps22
    go_wp2_with (go_at_call 34; refine HV.out.mono ?_; rintro e w2 ⟨rfl, hb2⟩)
    go_ret2
    refine ⟨.slice none 0 0, w2.heap.size, by rw [HE.out.1]; rfl, (chain HB0.out hb2).size, ?_, chain HB0.out hb2⟩
    rw [HE.out.2]; exact TestsO.nil _ _
  rw [h1] at HV
  cases h2 : picsB M L
  · have HE := hid (show playE M f L = 7 ∧ playL M f L = [] by unfold playL playE; rw [h1, h2]; simp)
    rw [h2] at HP
    obtain ⟨_, f0, f1, f2⟩ := hcells wf (Below.refl _ _)
    clear h1 h2 hn H hn2 H2 hcells hb0 hwf
    obtain ⟨kind, row, pixel⟩ := f
    simp only [Flt.val] at HV HWF f0 f1 f2 ⊢
    have hw := HWF.out
    clear HWF
    subst hw
    go_enter Tryz.func22, Tryz.ntmps22
    go_wp2_with (first | (go_at_call 34; refine HV.out.mono ?_; rintro e w2 ⟨rfl, hb2⟩) | (go_at_call 41; refine (HP.out _ hb2).mono ?_; rintro e w9 ⟨rfl, rfl⟩))
    go_ret2
    refine ⟨.slice none 0 0, w2.heap.size, by rw [HE.out.1]; rfl, (chain HB0.out hb2).size, ?_, chain HB0.out hb2⟩
    rw [HE.out.2]; exact TestsO.nil _ _
  rw [h2] at HP
  have HE := hid (show playE M f L = 0 ∧ playL M f L = playF M f L by unfold playL playE; rw [h1, h2]; simp)
  obtain ⟨hM, hfo⟩ := validF_ok h1
  obtain ⟨hp12, hsh⟩ := picsB_iff h2
  have hn12 : n2 ≤ 12 := by omega
  have HW := hid (fun (W : World) (hb : Below wf.heap.size wf W) (a3 : Option Addr) (n3 c3 k : Nat) (h3 : (playTo M f L k).length = n3) (hm3 : n3 ≤ maxLen) (H3 : TestsAt W a3 (playTo M f L k)) => refWhich_c W a n cap M hn (H.below (chain hb0 hb)) hM a3 n3 c3 (playTo M f L k) h3 hm3 H3 (play_tests hsh k))
  have HB := hid (fun (W : World) (hb : Below wf.heap.size wf W) (fa : Option Addr) (fc k q : Nat) (hq : (whichF M (playTo M f L k)).length = q) (hF : FltsAt W fa (whichF M (playTo M f L k))) => refBest0_c W a n cap M hn (H.below (chain hb0 hb)) hM fa q fc (whichF M (playTo M f L k)) hq (by rw [← hq]; exact which_240 hM) hF (fun f hf => which_ok hf) a2 n2 cap2 L hn2 hn12 (H2.below (chain hb0 hb)) hsh)
  have HRd := hid (fun (W : World) (hb : Below wf.heap.size wf W) (xa : Option Addr) (xn xc : Nat) (x : List Int) (hxL : x ∈ L) (hxn : x.length = xn) (hxi : IntsAt W xa x) => refReads_c W a n cap M hn (H.below (chain hb0 hb)) hM f hfo xa xn xc x hxn hxi (hsh x hxL))
  have H240 := hid (fun k => show (whichF M (playTo M f L k)).length ≤ 240 from which_240 hM)
  have HX10 := hid (fun (x : List Int) (hx : x ∈ L) => show x.length ≤ 100 from by
    have h := hsh x hx
    unfold okShown at h
    simp only [Bool.and_eq_true, decide_eq_true_eq] at h
    have := okM10 hM
    omega)
  have HRL := hid (fun x => show (readF M f x).length = n from by rw [readF_length, hn])
  have hn6 : n ≤ 6 := by have := (okM_len hM).2.1; omega
  have HR2 := hid (fun (W : World) (hb : Below wf.heap.size wf W) => H2.below (chain hb0 hb))
  have HN2 := hid hn2
  have HST := hid (fun k hk h => play_stop (M := M) (f := f) (L := L) (k := k) hk h)
  have HMO := hid (fun k t h => play_more (M := M) (f := f) (L := L) (k := k) (t := t) h)
  obtain ⟨_, f0, f1, f2⟩ := hcells wf (Below.refl _ _)
  have HS1 := hid (fun out (h : (whichF M out).length < 2) => step_few (f := f) (L := L) h)
  have HS2 := hid (fun out (h : L = []) => show stepF M f L out = none from by rw [h]; exact step_nil)
  have HS3 := hid (fun out p l h h3 => step_all (M := M) (f := f) (L := L) (out := out) (p := p) (l := l) h h3)
  have HS5 := hid (fun out h => step_ge (M := M) (f := f) (L := L) (out := out) h)
  have HS6 := hid (fun F h => bestJ_some (M := M) (F := F) (L := L) h)
  have HS4 := hid (fun out p l h2 h h3 => step_one (M := M) (f := f) (L := L) (out := out) (p := p) (l := l) h2 h h3)
  clear h1 h2 hn H hn2 H2 hcells hb0 hwf hsh hM hfo hp12
  obtain ⟨PF, hPF⟩ : ∃ PF : Nat → List Tst, PF = playTo M f L := ⟨_, rfl⟩
  have HP0 := hid (show PF 0 = [] from by rw [hPF]; rfl)
  have HP12 := hid (show PF 12 = playF M f L from by rw [hPF]; rfl)
  rw [← hPF] at HW HB H240 HST HMO
  obtain ⟨SF, hSF⟩ : ∃ SF : List Tst → Option Tst, SF = stepF M f L := ⟨_, rfl⟩
  rw [← hSF] at HST HMO HS1 HS2 HS3 HS4 HS5
  obtain ⟨RF, hRF⟩ : ∃ RF : List Int → List Int, RF = readF M f := ⟨_, rfl⟩
  rw [← hRF] at HRd HRL HS4
  obtain ⟨PY, hPY⟩ : ∃ PY, PY = playF M f L := ⟨_, rfl⟩
  rw [← hPY] at HST HP12 HE
  obtain ⟨PE, hPE⟩ : ∃ PE, PE = playE M f L := ⟨_, rfl⟩
  obtain ⟨PL, hPL⟩ : ∃ PE, PE = playL M f L := ⟨_, rfl⟩
  rw [← hPE, ← hPL] at HE ⊢
  clear hPF hSF hRF hPY hPE hPL
  obtain ⟨kind, row, pixel⟩ := f
  simp only [Flt.val] at HV HWF HC HRd f0 f1 f2 ⊢
  have hw := HWF.out
  clear HWF
  go_enter Tryz.func22, Tryz.ntmps22
  go_wp2_with fail
  rw [← hw]
  clear hw
  go_wp2_with (first | (go_at_call 34; refine HV.out.mono ?_; rintro e w2 ⟨rfl, hb2⟩) | (go_at_call 41; refine (HP.out _ hb2).mono ?_; rintro e w9 ⟨rfl, rfl⟩; refine Stop.of ?_))
  refine Stop.go ?_
  have HB23 := hid hb2
  clear hb2 f0 f1 f2
  go_wp2
  go_loopw [8] (fun s8 wr => ∃ (k : Nat) (va : Option Addr) (vc : Nat), k ≤ 12 ∧ s8 = .slice va k vc ∧ (PF k).length = k ∧ TestsO wr w2.heap.size (.slice va k vc) (PF k) ∧ Below w2.heap.size w2 wr) (fun v _ => 12 - lenV v)
  case atStart => exact ⟨0, none, 0, Nat.zero_le _, rfl, by rw [HP0.out]; rfl, by rw [HP0.out]; exact TestsO.nil _ _, Below.refl _ _⟩
  case round =>
    obtain ⟨k, va, vc, hk, rfl, hkl, hto, hbr⟩ := hrel
    have HTO := hid hto
    have HKL := hid hkl
    have HBR := hid hbr
    have HFI := hid (fun (h : PY = PF k) (W : World) (hb : Below wr.heap.size wr W) => show w.heap.size ≤ w2.heap.size ∧ TestsO W w2.heap.size (.slice va k vc) PL ∧ Below w.heap.size w W from by
      refine ⟨(chain HB0.out HB23.out).size, ?_, chain HB0.out (chain HB23.out (chain HBR.out hb))⟩
      rw [HE.out.2, h]
      exact HTO.out.below hb)
    by_cases hlt : k < 12
    · obtain ⟨ra, rc, e9, hrm, hra⟩ := hto.reads
      rw [HKL.out] at e9
      cases e9
      have HW1 := hid (HW.out wr (chain HB23.out hbr) va k vc k hkl (by unfold maxLen; omega) hra)
      clear hto hra hrm hkl hbr
      go_wp2_with (go_at_call 38; refine HW1.out.mono ?_; rintro e w4 ⟨v4, base4, rfl, hbase4, hF4, hb4⟩; refine Stop.of ?_)
      refine Stop.go ?_
      obtain ⟨fa, fc, rfl, _, hfa⟩ := hF4.reads
      have h240 := H240.out k
      obtain ⟨q, hq⟩ : ∃ q, q = (whichF M (PF k)).length := ⟨_, rfl⟩
      rw [← hq] at h240 ⊢
      have HQ := hid hq
      have HFA := hid hfa
      have HB4 := hid hb4
      clear hF4 hfa hbase4 hq hb4
      obtain ⟨p, hpe⟩ : ∃ p, p = (bestJ (whichF M (PF k)) (bestTo M (whichF M (PF k)) L n2)).1 := ⟨_, rfl⟩
      obtain ⟨l, hle⟩ : ∃ l, l = (bestJ (whichF M (PF k)) (bestTo M (whichF M (PF k)) L n2)).2 := ⟨_, rfl⟩
      have hll := (bestJ_le (M := M) (F := whichF M (PF k)) (L := L) n2).2
      have hl1 := (bestJ_le (M := M) (F := whichF M (PF k)) (L := L) n2).1
      rw [← hle, ← HQ.out] at hl1
      rw [← hpe] at hll
      have HBE := hid (HB.out w4 (chain HB23.out (chain HBR.out HB4.out)) fa fc k q HQ.out.symm HFA.out)
      rw [← hpe, ← hle] at HBE
      have HPL := hid (And.intro hpe hle)
      clear hpe hle
      go_wp2_with (go_at_call 42; refine HBE.out.mono ?_; rintro e w5 ⟨rfl, hb5⟩; refine Stop.of ?_)
      refine Stop.go ?_
      have HB5 := hid (chain HB4.out hb5)
      clear hb5
      by_cases hq2 : q < 2
      · have HPY := hid (HST.out k hk (HS1.out _ (by rw [← HQ.out]; exact hq2)))
        go_wp2
        go_ret2
        first | exact ⟨.slice va _ vc, by rw [HE.out.1]; rfl, w2.heap.size, HFI.out HPY.out _ HB5.out⟩ | exact ⟨.slice va _ vc, w2.heap.size, by rw [HE.out.1]; rfl, HFI.out HPY.out _ HB5.out⟩
      · by_cases hql : q ≤ l
        · have HPY := hid (HST.out k hk (HS5.out _ (by rw [← HQ.out, HN2.out, ← HPL.out.2]; exact hql)))
          go_wp2
          go_ret2
          first | exact ⟨.slice va _ vc, by rw [HE.out.1]; rfl, w2.heap.size, HFI.out HPY.out _ HB5.out⟩ | exact ⟨.slice va _ vc, w2.heap.size, by rw [HE.out.1]; rfl, HFI.out HPY.out _ HB5.out⟩
        · obtain ⟨p', l', hbt, hp, hbj⟩ := HS6.out (whichF M (PF k)) (by rw [HN2.out, ← HPL.out.2, ← HQ.out]; omega)
          rw [HN2.out] at hbj
          have e1 : p = p' := by rw [HPL.out.1, hbj]
          have e2 : l = l' := by rw [HPL.out.2, hbj]
          subst e1
          subst e2
          · have hso := HMO.out k _ (HS4.out _ p l (by rw [← HQ.out]; exact hq2) hbt (by rw [← HQ.out]; omega))
            rw [HN2.out] at hp
            clear hbt hbj
            have hpL : p < L.length := by rw [HN2.out]; exact hp
            have hb35 := chain HB23.out (chain HBR.out HB5.out)
            obtain ⟨b, off, xa, xn, xc, e2, hbs, hcx, hxn, hxm, hxi⟩ := (HR2.out wf (Below.refl _ _)) p hpL
            subst e2
            have hxL := List.getElem_mem hpL
            rw [List.getElem?_eq_getElem hpL] at hso
            simp only [Option.getD_some] at hso
            obtain ⟨x, hxe⟩ : ∃ x, x = L[p]'hpL := ⟨_, rfl⟩
            rw [← hxe] at hxn hxi hxL hso
            have hx100 : xn ≤ 100 := by have := HX10.out x hxL; omega
            have HSO := hid hso
            have HXI := hid (And.intro hxn (And.intro hxL hxi))
            have HB35 := hid hb35
            have HS := hid (fun (W : World) (hb : Below wf.heap.size wf W) => show (W.cell? ⟨w.heap.size, 0, none⟩ = some (.int .i64 kind) ∧ W.cell? ⟨w.heap.size, 1, none⟩ = some (.int .i64 row) ∧ W.cell? ⟨w.heap.size, 2, none⟩ = some (.int .i64 pixel)) ∧ W.cell? ⟨b, off + p, none⟩ = some (.slice xa xn xc) from
              ⟨(HC.out W hb).2, (hb.cell (p := ⟨b, off + p, none⟩) hbs).trans hcx⟩)
            clear hso hxn hxL hxi hxe hb35 hpL
            go_wp2
            refine plain_region (fun j' X => wAll j' = true → ((X.cell? ⟨w.heap.size, 0, none⟩ = some (.int .i64 kind) ∧ X.cell? ⟨w.heap.size, 1, none⟩ = some (.int .i64 row) ∧ X.cell? ⟨w.heap.size, 2, none⟩ = some (.int .i64 pixel)) ∧ X.cell? ⟨b, off + p, none⟩ = some (.slice xa xn xc))) (by kernel_rfl) ?_
            have hbd : Below w5.heap.size w5 w5.drew := (Below.refl _ _).drew
            generalize w5.drew = wd at hbd ⊢
            refine AnyT.takeD (i := 0) (v := .slice va k vc) rfl rfl (by kernel_rfl) (by kernel_rfl) (by kernel_rfl) (by first | exact (fun _ _ _ h => h) | exact (fun _ _ _ h => absurd h.1 (by simp))) (by kernel_rfl) (by rfl) (by rintro w' hw'; go_simp) (HS.out _ (chain HB35.out hbd)) ?_; go_frame
            refine AnyT.takeD (i := 2) (v := .slice (some ⟨b, off, none⟩) n2 cap2) rfl rfl (by kernel_rfl) (by kernel_rfl) (by kernel_rfl) (by first | exact (fun _ _ _ h => h) | exact (fun _ _ _ h => absurd h.1 (by simp))) (by kernel_rfl) (by rfl) (by rintro w' hw'; go_simp) (HS.out _ (chain HB35.out hbd)) ?_; go_frame
            refine AnyT.takeD (i := 3) (v := .int .i64 p) rfl rfl (by kernel_rfl) (by kernel_rfl) (by kernel_rfl) (by first | exact (fun _ _ _ h => h) | exact (fun _ _ _ h => absurd h.1 (by simp))) (by kernel_rfl) (by rfl) (by rintro w' hw'; go_simp) (HS.out _ (chain HB35.out hbd)) ?_; go_frame
            refine AnyT.takeD (i := 4) (v := .pointer (some ⟨b, off + p, none⟩)) rfl rfl (by kernel_rfl) (by kernel_rfl) (by kernel_rfl) (by first | exact (fun _ _ _ h => h) | exact (fun _ _ _ h => absurd h.1 (by simp))) (by kernel_rfl) (by rfl) (by rintro w' hw'; go_simp) (HS.out _ (chain HB35.out hbd)) ?_; go_frame
            refine AnyT.takeD (i := 5) (v := .slice xa xn xc) rfl rfl (by kernel_rfl) (by kernel_rfl) (by kernel_rfl) (by first | exact (fun _ _ _ h => h) | exact (fun _ _ _ h => absurd h.1 (by simp))) (by kernel_rfl) (by rfl) (by rintro w' ⟨⟨q0, q1, q2⟩, q3⟩; go_simp) (HS.out _ (chain HB35.out hbd)) ?_; go_frame
            refine AnyT.takeD (i := 7) (v := .slice a n cap) rfl rfl (by kernel_rfl) (by kernel_rfl) (by kernel_rfl) (by first | exact (fun _ _ _ h => h) | exact (fun _ _ _ h => absurd h.1 (by simp))) (by kernel_rfl) (by rfl) (by rintro w' hw'; go_simp) (HS.out _ (chain HB35.out hbd)) ?_; go_frame
            refine AnyT.takeD (i := 8) (v := .agg #[.int .i64 kind, .int .i64 row, .int .i64 pixel]) rfl rfl (by kernel_rfl) (by kernel_rfl) (by kernel_rfl) (by first | exact (fun _ _ _ h => h) | exact (fun _ _ _ h => absurd h.1 (by simp))) (by kernel_rfl) (by rfl) (by rintro w' ⟨⟨q0, q1, q2⟩, q3⟩; go_simp) (HS.out _ (chain HB35.out hbd)) ?_; go_frame
            refine AnyT.takeD (i := 9) (v := .slice (some ⟨b, off, none⟩) n2 cap2) rfl rfl (by kernel_rfl) (by kernel_rfl) (by kernel_rfl) (by first | exact (fun _ _ _ h => h) | exact (fun _ _ _ h => absurd h.1 (by simp))) (by kernel_rfl) (by rfl) (by rintro w' hw'; go_simp) (HS.out _ (chain HB35.out hbd)) ?_; go_frame
            refine AnyT.takeD (i := 10) (v := .int .i64 p) rfl rfl (by kernel_rfl) (by kernel_rfl) (by kernel_rfl) (by first | exact (fun _ _ _ h => h) | exact (fun _ _ _ h => absurd h.1 (by simp))) (by kernel_rfl) (by rfl) (by rintro w' hw'; go_simp) (HS.out _ (chain HB35.out hbd)) ?_; go_frame
            refine AnyT.takeD (i := 11) (v := .pointer (some ⟨b, off + p, none⟩)) rfl rfl (by kernel_rfl) (by kernel_rfl) (by kernel_rfl) (by first | exact (fun _ _ _ h => h) | exact (fun _ _ _ h => absurd h.1 (by simp))) (by kernel_rfl) (by rfl) (by rintro w' hw'; go_simp) (HS.out _ (chain HB35.out hbd)) ?_; go_frame
            refine AnyT.takeD (i := 12) (v := .slice xa xn xc) rfl rfl (by kernel_rfl) (by kernel_rfl) (by kernel_rfl) (by first | exact (fun _ _ _ h => h) | exact (fun _ _ _ h => absurd h.1 (by simp))) (by kernel_rfl) (by rfl) (by rintro w' ⟨⟨q0, q1, q2⟩, q3⟩; go_simp) (HS.out _ (chain HB35.out hbd)) ?_; go_frame
            refine AnyT.next (i := 1) (by kernel_rfl) rfl (wpOp_of_list rfl ?_)
            go_wp2
            have hbA := hbd.alloc hbd.size (.cells #[] 3)
            refine ⟨fun _ => HS.out _ (chain HB35.out hbA), ?_⟩
            have M0 := World.ownsRow_made (base := wd.heap.size) (e := 3) (size := 1) wd #[] 0 (Nat.le_refl _) (Nat.zero_le _) rfl
            refine AnyT.next (i := 6) (by kernel_rfl) rfl (wpOp_of_list rfl ?_)
            refine wpList_app _ rfl (.tmp 43) (.tmp 47) 27 rfl wd.heap.size 3 (.int .i64 0) 1 8 Tryz.underlying27 info_int rfl Nat.one_pos (.slice (some ⟨wd.heap.size, 0, none⟩) 0 0) 0 [] rfl M0 xa xn xc (x.map (Value.int .i64)) rfl (by rw [List.length_map, HXI.out.1]; omega) (fun h => by rw [← HXI.out.1]; exact ints_none HXI.out.2.2 h) (ints_news (HXI.out.2.2.below (chain HB35.out hbA))) (ints_oneCell .i64 x) (by unfold maxLen; omega) (by omega) (by simp) ?_
            intro va6 vc6 w6 ho6 g6
            change _ ∧ AnyT _ _ _ _ _ _ _ (Act.put _ (some 48) _) _
            rw [Nat.zero_add] at ho6 ⊢
            rw [List.nil_append] at ho6
            have hw6 := hbA.grown g6 hbA.size (fun q hq => Nat.le_trans hbd.size ((M0.lt q hq).1))
            refine ⟨fun _ => HS.out _ (chain HB35.out hw6), ?_⟩
            refine AnyT.next (i := 13) (by kernel_rfl) rfl (wpOp_of_list rfl ?_)
            go_wp2_with (go_at_call 45; refine (HRd.out w6 (chain HB35.out hw6) xa xn xc x HXI.out.2.1 HXI.out.1 (HXI.out.2.2.below (chain HB35.out hw6))).mono ?_; rintro e w7 ⟨v7, base7, rfl, hbase7, ho7, hb7⟩; refine Stop.of ?_)
            refine Stop.go ?_
            obtain ⟨va7, vc7, rfl⟩ := ownsRow_slice ho7
            have hw7 := chain hw6 hb7
            go_wp2
            refine ⟨fun _ => HS.out _ (chain HB35.out hw7), ?_⟩
            obtain ⟨xs, ho, he⟩ := HTO.out.below (chain HB5.out hw7)
            rw [HKL.out] at ho
            have h1 : ElemI 3 w7 w2.heap.size (fun _ => True) (.slice va6 xn vc6) x := ElemI.own' (own_below ho6 hb7) rfl HXI.out.1 (by unfold maxLen; omega) (fun _ _ => trivial)
            have h2 : ElemI 3 w7 w2.heap.size (fun _ => True) (.slice va7 n vc7) (RF x) := ElemI.own' ho7 rfl (HRL.out x) (by unfold maxLen; omega) (fun _ _ => trivial)
            have HH := hid (And.intro he (And.intro h1 h2))
            have HO := hid ho
            have HN7 := hid (news2 w7 (.slice va6 xn vc6) (.slice va7 n vc7) 29)
            have HO2 := hid (show ∀ u ∈ [Value.slice va6 xn vc6, .slice va7 n vc7], u.oneCell' = true from by intro u hu; simp at hu; rcases hu with rfl | rfl <;> rfl)
            have M1 := hid (show k + 1 ≤ maxLen by unfold maxLen; omega)
            have M2 := hid (show (k + 1) * 48 ≤ 140737488355328 by omega)
            have hz7 : w2.heap.size ≤ w7.heap.size := (chain HBR.out (chain HB5.out hw7)).size
            have M3 := hid (Nat.le_trans hz7 (le_alloc w7 (.cells #[.slice va6 xn vc6, .slice va7 n vc7] 29)))
            have hbP := hw7.alloc hw7.size (.cells #[.slice va6 xn vc6, .slice va7 n vc7] 29)
            clear he h1 h2 ho ho6 ho7 hbase7
            refine AnyT.takeD (i := 14) (v := .agg #[.slice va6 xn vc6, .slice va7 n vc7]) rfl rfl (by kernel_rfl) (by kernel_rfl) (by kernel_rfl) (by first | exact (fun _ _ _ h => h) | exact (fun _ _ _ h => absurd h.1 (by simp))) (by kernel_rfl) (by rfl) (by rintro w' hw'; go_simp) (HS.out _ (chain HB35.out hw7)) ?_; go_frame
            refine AnyT.next (i := 15) (by kernel_rfl) rfl (wpOp_of_list rfl ?_)
            go_wp2
            refine ⟨fun _ => HS.out _ (chain HB35.out hbP), ?_⟩
            refine AnyT.next (i := 16) (by kernel_rfl) rfl (wpOp_of_list rfl ?_)
            refine wpList_app _ rfl (.tmp 42) (.tmp 57) 26 rfl w2.heap.size 29 (.agg #[.slice none 0 0, .slice none 0 0]) 2 48 Tryz.underlying26 info_test rfl (by decide) (.slice va k vc) k xs rfl (HO.out.alloc _) (some ⟨w7.heap.size, 0, none⟩) 1 1 [.slice va6 xn vc6, .slice va7 n vc7] rfl rfl no_none HN7.out HO2.out M1.out M2.out M3.out ?_
            intro a8 c8 w8 own8 g8
            have hT8 : TestsO w8 w2.heap.size (.slice a8 (k + 1) c8) (PF k ++ [⟨x, RF x⟩]) := TestsO.snoc (us := .slice va6 xn vc6) (ur := .slice va7 n vc7) (W := w7) (w1 := w7.alloc (.cells #[.slice va6 xn vc6, .slice va7 n vc7] 29)) (v := .slice va k vc) (by rw [HKL.out]; exact HO.out) HH.out.1 HH.out.2.1 HH.out.2.2 ((Below.refl _ w7).alloc (Nat.le_refl _) _) g8 (by rw [HKL.out]; exact own8)
            have hb8 : Below w2.heap.size w2 w8 := (chain HBR.out (chain HB5.out hbP)).grown g8 (chain HBR.out (chain HB5.out hbP)).size (fun q hq => (HO.out.lt q hq).1)
            change _ ∧ AnyT _ _ _ _ _ _ _ (Act.put _ (some 58) _) _
            refine ⟨fun _ => HS.out _ (chain HB23.out hb8), ?_⟩
            have HT8 := hid hT8
            have HB8 := hid hb8
            clear own8 g8 hT8 hbP hw6 hw7 hbd hb7 hb8 hz7 g6 M0 hbA
            refine AnyT.takeD (i := 17) (v := .slice a8 (k + 1) c8) rfl rfl (by kernel_rfl) (by kernel_rfl) (by kernel_rfl) (by first | exact (fun _ _ _ h => h) | exact (fun _ _ _ h => absurd h.1 (by simp))) (by kernel_rfl) (by rfl) (by rintro w' hw'; go_simp) (HS.out _ (chain HB23.out HB8.out)) ?_; go_frame
            refine AnyT.done (by kernel_rfl) ?_ _
            go_wp2
            refine ⟨⟨k + 1, a8, c8, by omega, rfl, ?_, ?_, HB8.out⟩, ?_⟩
            · rw [HSO.out, List.length_append, HKL.out]; rfl
            · rw [HSO.out]; exact HT8.out
            · simp [lenV]; omega
    · obtain rfl : k = 12 := by omega
      have HPY := hid HP12.out.symm
      clear hto hkl hbr
      go_wp2
      go_ret2
      first | exact ⟨.slice va _ vc, by rw [HE.out.1]; rfl, w2.heap.size, HFI.out HPY.out _ (Below.refl _ _)⟩ | exact ⟨.slice va _ vc, w2.heap.size, by rw [HE.out.1]; rfl, HFI.out HPY.out _ (Below.refl _ _)⟩
end Go.Proofs.YthaampmdponhbaaGreatDoor

namespace Go.Proofs.YthaampmdponhbaaGreatDoor
open Go.RowKit Go.Maps
set_option linter.unusedVariables false

set_option maxRecDepth 100000 in
set_option maxHeartbeats 4000000 in
theorem sameTests_t (w : World) (a a2 : Option Addr) (n c c2 : Nat) (T : List Tst) (hn : T.length = n) (hm : n ≤ maxLen) (H : TestsAt w a T) (H2 : TestsAt w a2 T) :
    Calls Tryz.prog 23 #[.slice a n c, .slice a2 n c2] w fun e w' => e = .returned (.bool true) ∧ Below w.heap.size w w' := by
  have HN := hid hn
  have HH := hid H
  have HH2 := hid H2
  unfold maxLen at hm
  have hnn : ((n : Int) != (n : Int)) = false := by simp
  clear hn H H2
  go_enter Tryz.func23, Tryz.ntmps23
  go_wp2
  go_loopw [13] (fun i wr => ∃ k : Nat, k ≤ n ∧ i = .int .i64 k ∧ Below w.heap.size w wr) (fun i _ => n - (intOf i).toNat)
  case atStart => exact ⟨0, Nat.zero_le _, rfl, Below.refl _ _⟩
  case round =>
    obtain ⟨k, hk, rfl, hb⟩ := hrel
    by_cases hlt : k < n
    · have hkl : k < T.length := by rw [HN.out]; exact hlt
      obtain ⟨b, off, sa, sn, sc, ra, rn, rc, rfl, hbs, h0, h1, hsn, hsm, hsi, hrn, hrm, hri⟩ := (HH.out.below hb) k hkl
      obtain ⟨b', off', sa', sn', sc', ra', rn', rc', rfl, hbs', h0', h1', hsn', hsm', hsi', hrn', hrm', hri'⟩ := (HH2.out.below hb) k hkl
      obtain rfl : sn' = sn := by omega
      obtain rfl : rn' = rn := by omega
      have HS1 := hid (fun (W : World) (hb : Below wr.heap.size wr W) => sameInts_d W sa sa' sn' sn' sc sc' _ _ true hsn hsn' hsm hsm (hsi.below hb) (hsi'.below hb) (by simp))
      have HS2 := hid (fun (W : World) (hb : Below wr.heap.size wr W) => sameInts_d W ra ra' rn' rn' rc rc' _ _ true hrn hrn' hrm hrm (hri.below hb) (hri'.below hb) (by simp))
      have HC := hid (fun (W : World) (hb : Below wr.heap.size wr W) => show (W.cell? ⟨b, off + k * 2, none⟩ = some (.slice sa sn' sc) ∧ W.cell? ⟨b, off + k * 2 + 1, none⟩ = some (.slice ra rn' rc)) ∧ W.cell? ⟨b', off' + k * 2, none⟩ = some (.slice sa' sn' sc') ∧ W.cell? ⟨b', off' + k * 2 + 1, none⟩ = some (.slice ra' rn' rc') from
        ⟨⟨(hb.cell (p := ⟨b, _, none⟩) hbs).trans h0, (hb.cell (p := ⟨b, _, none⟩) hbs).trans h1⟩, (hb.cell (p := ⟨b', _, none⟩) hbs').trans h0', (hb.cell (p := ⟨b', _, none⟩) hbs').trans h1'⟩)
      have HB := hid hb
      clear hb hsn hsm hsi hrn hrm hri hsn' hsm' hsi' hrn' hrm' hri' h0 h1 h0' h1' hkl
      go_wp2
      refine plain_region (fun j W => wAll j = true → ((W.cell? ⟨b, off + k * 2, none⟩ = some (.slice sa sn' sc) ∧ W.cell? ⟨b, off + k * 2 + 1, none⟩ = some (.slice ra rn' rc)) ∧ W.cell? ⟨b', off' + k * 2, none⟩ = some (.slice sa' sn' sc') ∧ W.cell? ⟨b', off' + k * 2 + 1, none⟩ = some (.slice ra' rn' rc'))) (by kernel_rfl) ?_
      have hbd : Below wr.heap.size wr wr.drew := (Below.refl _ _).drew
      generalize wr.drew = wd at hbd ⊢
      refine AnyT.takeD (i := 0) (v := .slice (some ⟨b, off, none⟩) n c) rfl rfl (by kernel_rfl) (by kernel_rfl) (by kernel_rfl) (by first | exact (fun _ _ _ h => h) | exact (fun _ _ _ h => absurd h.1 (by simp))) (by kernel_rfl) (by rfl) (by rintro w' hw'; go_simp) (HC.out _ hbd) ?_; go_frame
      refine AnyT.takeD (i := 1) (v := .int .i64 k) rfl rfl (by kernel_rfl) (by kernel_rfl) (by kernel_rfl) (by first | exact (fun _ _ _ h => h) | exact (fun _ _ _ h => absurd h.1 (by simp))) (by kernel_rfl) (by rfl) (by rintro w' hw'; go_simp) (HC.out _ hbd) ?_; go_frame
      refine AnyT.takeD (i := 2) (v := .pointer (some ⟨b, off + k * 2, none⟩)) rfl rfl (by kernel_rfl) (by kernel_rfl) (by kernel_rfl) (by first | exact (fun _ _ _ h => h) | exact (fun _ _ _ h => absurd h.1 (by simp))) (by kernel_rfl) (by rfl) (by rintro w' hw'; go_simp) (HC.out _ hbd) ?_; go_frame
      refine AnyT.takeD (i := 3) (v := .pointer (some ⟨b, off + k * 2, none⟩)) rfl rfl (by kernel_rfl) (by kernel_rfl) (by kernel_rfl) (by first | exact (fun _ _ _ h => h) | exact (fun _ _ _ h => absurd h.1 (by simp))) (by kernel_rfl) (by rfl) (by rintro w' hw'; go_simp) (HC.out _ hbd) ?_; go_frame
      refine AnyT.takeD (i := 4) (v := .slice sa sn' sc) rfl rfl (by kernel_rfl) (by kernel_rfl) (by kernel_rfl) (by first | exact (fun _ _ _ h => h) | exact (fun _ _ _ h => absurd h.1 (by simp))) (by kernel_rfl) (by rfl) (by rintro w' ⟨⟨q0, q1⟩, q2, q3⟩; go_simp) (HC.out _ hbd) ?_; go_frame
      refine AnyT.takeD (i := 5) (v := .slice (some ⟨b', off', none⟩) n c2) rfl rfl (by kernel_rfl) (by kernel_rfl) (by kernel_rfl) (by first | exact (fun _ _ _ h => h) | exact (fun _ _ _ h => absurd h.1 (by simp))) (by kernel_rfl) (by rfl) (by rintro w' hw'; go_simp) (HC.out _ hbd) ?_; go_frame
      refine AnyT.takeD (i := 6) (v := .int .i64 k) rfl rfl (by kernel_rfl) (by kernel_rfl) (by kernel_rfl) (by first | exact (fun _ _ _ h => h) | exact (fun _ _ _ h => absurd h.1 (by simp))) (by kernel_rfl) (by rfl) (by rintro w' hw'; go_simp) (HC.out _ hbd) ?_; go_frame
      refine AnyT.takeD (i := 7) (v := .pointer (some ⟨b', off' + k * 2, none⟩)) rfl rfl (by kernel_rfl) (by kernel_rfl) (by kernel_rfl) (by first | exact (fun _ _ _ h => h) | exact (fun _ _ _ h => absurd h.1 (by simp))) (by kernel_rfl) (by rfl) (by rintro w' hw'; go_simp) (HC.out _ hbd) ?_; go_frame
      refine AnyT.takeD (i := 8) (v := .pointer (some ⟨b', off' + k * 2, none⟩)) rfl rfl (by kernel_rfl) (by kernel_rfl) (by kernel_rfl) (by first | exact (fun _ _ _ h => h) | exact (fun _ _ _ h => absurd h.1 (by simp))) (by kernel_rfl) (by rfl) (by rintro w' hw'; go_simp) (HC.out _ hbd) ?_; go_frame
      refine AnyT.takeD (i := 9) (v := .slice sa' sn' sc') rfl rfl (by kernel_rfl) (by kernel_rfl) (by kernel_rfl) (by first | exact (fun _ _ _ h => h) | exact (fun _ _ _ h => absurd h.1 (by simp))) (by kernel_rfl) (by rfl) (by rintro w' ⟨⟨q0, q1⟩, q2, q3⟩; go_simp) (HC.out _ hbd) ?_; go_frame
      refine AnyT.next (i := 10) (by kernel_rfl) rfl (wpOp_of_list rfl ?_)
      go_wp2_with (go_at_call 46; refine (HS1.out _ hbd).mono ?_; rintro e w4 ⟨rfl, hbl4⟩; refine Stop.of ?_)
      refine Stop.go ?_
      have hw4 := chain hbd hbl4
      go_wp2
      refine ⟨fun _ => HC.out _ hw4, ?_⟩
      refine AnyT.takeD (i := 11) (v := .bool false) rfl rfl (by kernel_rfl) (by kernel_rfl) (by kernel_rfl) (by first | exact (fun _ _ _ h => h) | exact (fun _ _ _ h => absurd h.1 (by simp))) (by kernel_rfl) (by rfl) (by rintro w' hw'; go_simp) (HC.out _ hw4) ?_; go_frame
      refine AnyT.takeD (i := 12) (v := .bool false) rfl rfl (by kernel_rfl) (by kernel_rfl) (by kernel_rfl) (by first | exact (fun _ _ _ h => h) | exact (fun _ _ _ h => absurd h.1 (by simp))) (by kernel_rfl) (by rfl) (by rintro w' hw'; go_simp) (HC.out _ hw4) ?_; go_frame
      refine AnyT.takeD (i := 13) (v := .slice (some ⟨b, off, none⟩) n c) rfl rfl (by kernel_rfl) (by kernel_rfl) (by kernel_rfl) (by first | exact (fun _ _ _ h => h) | exact (fun _ _ _ h => absurd h.1 (by simp))) (by kernel_rfl) (by rfl) (by rintro w' hw'; go_simp) (HC.out _ hw4) ?_; go_frame
      refine AnyT.takeD (i := 14) (v := .int .i64 k) rfl rfl (by kernel_rfl) (by kernel_rfl) (by kernel_rfl) (by first | exact (fun _ _ _ h => h) | exact (fun _ _ _ h => absurd h.1 (by simp))) (by kernel_rfl) (by rfl) (by rintro w' hw'; go_simp) (HC.out _ hw4) ?_; go_frame
      refine AnyT.takeD (i := 15) (v := .pointer (some ⟨b, off + k * 2, none⟩)) rfl rfl (by kernel_rfl) (by kernel_rfl) (by kernel_rfl) (by first | exact (fun _ _ _ h => h) | exact (fun _ _ _ h => absurd h.1 (by simp))) (by kernel_rfl) (by rfl) (by rintro w' hw'; go_simp) (HC.out _ hw4) ?_; go_frame
      refine AnyT.takeD (i := 16) (v := .pointer (some ⟨b, off + k * 2 + 1, none⟩)) rfl rfl (by kernel_rfl) (by kernel_rfl) (by kernel_rfl) (by first | exact (fun _ _ _ h => h) | exact (fun _ _ _ h => absurd h.1 (by simp))) (by kernel_rfl) (by rfl) (by rintro w' hw'; go_simp) (HC.out _ hw4) ?_; go_frame
      refine AnyT.takeD (i := 17) (v := .slice ra rn' rc) rfl rfl (by kernel_rfl) (by kernel_rfl) (by kernel_rfl) (by first | exact (fun _ _ _ h => h) | exact (fun _ _ _ h => absurd h.1 (by simp))) (by kernel_rfl) (by rfl) (by rintro w' ⟨⟨q0, q1⟩, q2, q3⟩; go_simp) (HC.out _ hw4) ?_; go_frame
      refine AnyT.takeD (i := 18) (v := .slice (some ⟨b', off', none⟩) n c2) rfl rfl (by kernel_rfl) (by kernel_rfl) (by kernel_rfl) (by first | exact (fun _ _ _ h => h) | exact (fun _ _ _ h => absurd h.1 (by simp))) (by kernel_rfl) (by rfl) (by rintro w' hw'; go_simp) (HC.out _ hw4) ?_; go_frame
      refine AnyT.takeD (i := 19) (v := .int .i64 k) rfl rfl (by kernel_rfl) (by kernel_rfl) (by kernel_rfl) (by first | exact (fun _ _ _ h => h) | exact (fun _ _ _ h => absurd h.1 (by simp))) (by kernel_rfl) (by rfl) (by rintro w' hw'; go_simp) (HC.out _ hw4) ?_; go_frame
      refine AnyT.takeD (i := 20) (v := .pointer (some ⟨b', off' + k * 2, none⟩)) rfl rfl (by kernel_rfl) (by kernel_rfl) (by kernel_rfl) (by first | exact (fun _ _ _ h => h) | exact (fun _ _ _ h => absurd h.1 (by simp))) (by kernel_rfl) (by rfl) (by rintro w' hw'; go_simp) (HC.out _ hw4) ?_; go_frame
      refine AnyT.takeD (i := 21) (v := .pointer (some ⟨b', off' + k * 2 + 1, none⟩)) rfl rfl (by kernel_rfl) (by kernel_rfl) (by kernel_rfl) (by first | exact (fun _ _ _ h => h) | exact (fun _ _ _ h => absurd h.1 (by simp))) (by kernel_rfl) (by rfl) (by rintro w' hw'; go_simp) (HC.out _ hw4) ?_; go_frame
      refine AnyT.takeD (i := 22) (v := .slice ra' rn' rc') rfl rfl (by kernel_rfl) (by kernel_rfl) (by kernel_rfl) (by first | exact (fun _ _ _ h => h) | exact (fun _ _ _ h => absurd h.1 (by simp))) (by kernel_rfl) (by rfl) (by rintro w' ⟨⟨q0, q1⟩, q2, q3⟩; go_simp) (HC.out _ hw4) ?_; go_frame
      refine AnyT.next (i := 23) (by kernel_rfl) rfl (wpOp_of_list rfl ?_)
      go_wp2_with (go_at_call 46; refine (HS2.out _ hw4).mono ?_; rintro e w5 ⟨rfl, hbl5⟩; refine Stop.of ?_)
      refine Stop.go ?_
      have hw5 := chain hw4 hbl5
      go_wp2
      refine ⟨fun _ => HC.out _ hw5, ?_⟩
      have HW5 := hid (chain HB.out hw5)
      refine AnyT.takeD (i := 24) (v := .bool false) rfl rfl (by kernel_rfl) (by kernel_rfl) (by kernel_rfl) (by first | exact (fun _ _ _ h => h) | exact (fun _ _ _ h => absurd h.1 (by simp))) (by kernel_rfl) (by rfl) (by rintro w' hw'; go_simp) (HC.out _ hw5) ?_; go_frame
      refine AnyT.takeD (i := 25) (v := .bool false) rfl rfl (by kernel_rfl) (by kernel_rfl) (by kernel_rfl) (by first | exact (fun _ _ _ h => h) | exact (fun _ _ _ h => absurd h.1 (by simp))) (by kernel_rfl) (by rfl) (by rintro w' hw'; go_simp) (HC.out _ hw5) ?_; go_frame
      refine AnyT.done (by kernel_rfl) ?_ _
      go_wp2
      exact ⟨⟨k + 1, by omega, by go_num, HW5.out⟩, by simp [intOf]; omega⟩
    · obtain rfl : k = n := by omega
      go_wp2
      go_ret
      exact ⟨rfl, hb⟩

theorem play_law {M : Mask} {f : Flt} {L : List (List Int)} (h : playE M f L = 0) : explE M f (playL M f L) = 0 ∧ explB M f (playL M f L) = true ∧ whichE M (playL M f L) = 0 ∧ 0 < (whichL M (playL M f L)).length ∧ listedE M L = 0 := by
  obtain ⟨h1, h2⟩ := playE_ok h
  obtain ⟨hM, hf⟩ := validF_ok h1
  obtain ⟨h12, hsh⟩ := picsB_iff h2
  have e : playL M f L = playTo M f L 12 := by unfold playL; rw [if_pos h]; rfl
  rw [e]
  have hok : okTests M (playTo M f L 12) = true := by
    unfold okTests
    simp only [Bool.and_eq_true, decide_eq_true_eq, List.all_eq_true]
    exact ⟨⟨hM, play_len M f L 12⟩, play_tests hsh 12⟩
  obtain ⟨X, _, hX⟩ := play_form M f L 12
  obtain ⟨o1, g, hg, _, _⟩ := own_which (M := M) (f := f) (L := X) h1
  rw [← hX] at o1 hg
  have eE : explE M f (playTo M f L 12) = 0 := by unfold explE; rw [if_pos ⟨h1, hok⟩]
  refine ⟨eE, by unfold explB; rw [eE, o1]; rfl, by unfold whichE; rw [if_pos hok], ?_, by unfold listedE; rw [if_pos hM, if_pos h2]⟩
  unfold whichL
  rw [if_pos hok]
  exact List.length_pos_of_mem hg
theorem play_law2 {M : Mask} {f : Flt} {L : List (List Int)} (h : playE M f L = 0) (hL : L.length < 12) (he : enoughB M L = true) : ∃ g, whichL M (playL M f L) = [g] ∧ oneE M f g = 0 ∧ oneB M f g = true := by
  obtain ⟨h1, h2⟩ := playE_ok h
  obtain ⟨hM, hf⟩ := validF_ok h1
  have e : playL M f L = playTo M f L 12 := by unfold playL; rw [if_pos h]; rfl
  have hok : okTests M (playTo M f L 12) = true := by
    have := (play_law h).2.2.1
    rw [e] at this
    unfold whichE at this
    by_cases h9 : okTests M (playTo M f L 12) = true
    · exact h9
    · rw [if_neg h9] at this; omega
  have hen : enoughF M L = true := by
    unfold enoughB at he
    simp only [Bool.and_eq_true] at he
    exact he.2
  have hone := play_one (M := M) (f := f) hL hen
  obtain ⟨X, _, hX⟩ := play_form M f L 12
  obtain ⟨_, g, hg, g1, g2⟩ := own_which (M := M) (f := f) (L := X) h1
  rw [← hX] at hg
  have ew : whichL M (playL M f L) = whichF M (playTo M f L 12) := by rw [e]; unfold whichL; rw [if_pos hok]
  rw [ew]
  have hone' : (whichF M (playTo M f L 12)).length < 2 := hone
  rcases hF : whichF M (playTo M f L 12) with _ | ⟨x, l⟩
  · rw [hF] at hg; simp at hg
  · rw [hF] at hone' hg
    have : l = [] := by
      cases l with
      | nil => rfl
      | cons y l => simp at hone'; omega
    subst this
    simp at hg
    subst hg
    exact ⟨g, rfl, g1, g2⟩
end Go.Proofs.YthaampmdponhbaaGreatDoor

namespace Go.Proofs.YthaampmdponhbaaGreatDoor
open Go.RowKit
set_option linter.unusedVariables false

set_option maxRecDepth 100000 in
set_option maxHeartbeats 8000000 in
theorem faultPlays_c (w : World) (ht : Tab w) (a : Option Addr) (n cap : Nat) (M : Mask) (hn : M.length = n) (hm : n ≤ maxLen) (H : RowsAt w a M) (f : Flt)
    (a4 : Option Addr) (n4 cap4 : Nat) (t : List Tst) (hn4 : t.length = n4) (hm4 : n4 ≤ maxLen) (H4 : TestsAt w a4 t)
    (a3 : Option Addr) (n3 cap3 : Nat) (L : List (List Int)) (hn3 : L.length = n3) (hm3 : n3 ≤ maxLen) (H3 : RowsAt w a3 L) :
    Calls Tryz.prog 4 #[.slice a n cap, f.val, .slice a4 n4 cap4, .slice a3 n3 cap3] w fun e w' => e = .returned (.bool true) ∧ Below w.heap.size w w' := by
  obtain ⟨wf, hwf, hb0, hcells⟩ := fltBox w f
  have HSm := hid (small_c wf a n cap M hn hm (H.below hb0))
  have HLs := hid (lists_c wf a3 n3 cap3 L hn3 hm3 (H3.below hb0) 4 (by omega))
  have HTs := hid (tests_c wf a4 n4 cap4 t hn4 hm4 (H4.below hb0))
  have HAw := hid (fun (W : World) (hb : Below wf.heap.size wf W) => awake_c W (ht.below (chain hb0 hb)))
  have HB1 := hid (fun (W : World) (hb : Below wf.heap.size wf W) => Best_c W (ht.below (chain hb0 hb)) a n cap M hn hm (H.below (chain hb0 hb)) a4 n4 cap4 t hn4 hm4 (H4.below (chain hb0 hb)) a3 n3 cap3 L hn3 hm3 (H3.below (chain hb0 hb)))
  have HB2 := hid (fun (W : World) (hb : Below wf.heap.size wf W) => refBest_c W (ht.below (chain hb0 hb)) a n cap M hn hm (H.below (chain hb0 hb)) a4 n4 cap4 t hn4 hm4 (H4.below (chain hb0 hb)) a3 n3 cap3 L hn3 hm3 (H3.below (chain hb0 hb)))
  have HP1 := hid (fun (W : World) (hb : Below wf.heap.size wf W) => Play_c W (ht.below (chain hb0 hb)) a n cap M hn hm (H.below (chain hb0 hb)) f a3 n3 cap3 L hn3 hm3 (H3.below (chain hb0 hb)))
  have HP2 := hid (fun (W : World) (hb : Below wf.heap.size wf W) => refPlay_c W a n cap M hn hm (H.below (chain hb0 hb)) f a3 n3 cap3 L hn3 hm3 (H3.below (chain hb0 hb)))
  have HEx := hid (fun (W : World) (hb : Below wf.heap.size wf W) (va : Option Addr) (vn vc : Nat) (T : List Tst) (h1 : T.length = vn) (h2 : vn ≤ maxLen) (h3 : TestsAt W va T) => Explains_c W a n cap M hn hm (H.below (chain hb0 hb)) f va vn vc T h1 h2 h3)
  have HWh := hid (fun (W : World) (hb : Below wf.heap.size wf W) (va : Option Addr) (vn vc : Nat) (T : List Tst) (h1 : T.length = vn) (h2 : vn ≤ maxLen) (h3 : TestsAt W va T) => Which_c W a n cap M hn hm (H.below (chain hb0 hb)) va vn vc T h1 h2 h3)
  have HEn := hid (fun (W : World) (hb : Below wf.heap.size wf W) => Enough_c W (ht.below (chain hb0 hb)) a n cap M hn hm (H.below (chain hb0 hb)) a3 n3 cap3 L hn3 hm3 (H3.below (chain hb0 hb)))
  have HOn := hid (fun (W : World) (hb : Below wf.heap.size wf W) (g : Flt) => One_c W a n cap M hn hm (H.below (chain hb0 hb)) f g)
  have HLN := hid hn3
  have HC := hid hcells
  have HB0 := hid hb0
  have HWF := hid hwf
  obtain ⟨_, f0, f1, f2⟩ := hcells wf (Below.refl _ _)
  clear hn H hn4 H4 hn3 H3 hcells hb0 hwf ht
  by_cases hfit : smallB M = true ∧ fitL L (4 : Nat) = true ∧ fitT t = true
  rotate_left
  · -- too large
    cases h1 : smallB M
    · rw [h1] at HSm
      clear hfit
      obtain ⟨kind, row, pixel⟩ := f
      simp only [Flt.val] at HWF f0 f1 f2 ⊢
      have hw := HWF.out
      clear HWF
      subst hw
      go_enter Tryz.func4, Tryz.ntmps4
      go_wp2_with (first
        | (go_at_call 17; refine HSm.out.mono ?_; rintro e w1 ⟨rfl, rfl⟩)
        | (go_at_call 8; refine (HAw.out _ (Below.refl _ _)).mono ?_; rintro e w12 ⟨rfl, hb12⟩))
      go_ret
      exact ⟨rfl, chain HB0.out hb12⟩
    · rw [h1] at HSm
      cases h2 : fitL L (4 : Nat)
      · rw [h2] at HLs
        clear hfit
        obtain ⟨kind, row, pixel⟩ := f
        simp only [Flt.val] at HWF f0 f1 f2 ⊢
        have hw := HWF.out
        clear HWF
        subst hw
        go_enter Tryz.func4, Tryz.ntmps4
        go_wp2_with (first
          | (go_at_call 17; refine HSm.out.mono ?_; rintro e w1 ⟨rfl, rfl⟩)
          | (go_at_call 18; refine HLs.out.mono ?_; rintro e w1 ⟨rfl, rfl⟩)
          | (go_at_call 8; refine (HAw.out _ (Below.refl _ _)).mono ?_; rintro e w12 ⟨rfl, hb12⟩))
        go_ret
        exact ⟨rfl, chain HB0.out hb12⟩
      · rw [h2] at HLs
        cases h3 : fitT t
        · rw [h3] at HTs
          clear hfit
          obtain ⟨kind, row, pixel⟩ := f
          simp only [Flt.val] at HWF f0 f1 f2 ⊢
          have hw := HWF.out
          clear HWF
          subst hw
          go_enter Tryz.func4, Tryz.ntmps4
          go_wp2_with (first
            | (go_at_call 17; refine HSm.out.mono ?_; rintro e w1 ⟨rfl, rfl⟩)
            | (go_at_call 18; refine HLs.out.mono ?_; rintro e w1 ⟨rfl, rfl⟩)
            | (go_at_call 7; refine HTs.out.mono ?_; rintro e w1 ⟨rfl, hb1⟩)
            | (go_at_call 8; refine (HAw.out _ hb1).mono ?_; rintro e w12 ⟨rfl, hb12⟩))
          go_ret
          exact ⟨rfl, chain HB0.out (chain hb1 hb12)⟩
        · exact absurd ⟨h1, h2, h3⟩ hfit
  obtain ⟨h1, h2, h3⟩ := hfit
  rw [h1] at HSm
  rw [h2] at HLs
  rw [h3] at HTs
  have HFL := hid h2
  clear h1 h2 h3
  obtain ⟨BV, hBV⟩ : ∃ B, B = bestV M t L := ⟨_, rfl⟩
  obtain ⟨BE, hBE⟩ : ∃ B, B = bestE M t L := ⟨_, rfl⟩
  rw [← hBV, ← hBE] at HB1 HB2
  clear hBV hBE
  obtain ⟨PE, hPE⟩ : ∃ B, B = playE M f L := ⟨_, rfl⟩
  obtain ⟨PL, hPL⟩ : ∃ B, B = playL M f L := ⟨_, rfl⟩
  rw [← hPE, ← hPL] at HP1 HP2
  have HPP := hid (And.intro hPE hPL)
  have hpl12 : PL.length ≤ 12 := by
    rw [hPL]; unfold playL
    split
    · exact play_len M f L 12
    · simp
  obtain ⟨EX, hEX⟩ : ∃ B, B = explB M f PL := ⟨_, rfl⟩
  obtain ⟨EE, hEE⟩ : ∃ B, B = explE M f PL := ⟨_, rfl⟩
  have HEx1 := hid (fun (W : World) (hb : Below wf.heap.size wf W) (va : Option Addr) (vn vc : Nat) (h1 : PL.length = vn) (h2 : vn ≤ maxLen) (h3 : TestsAt W va PL) => HEx.out W hb va vn vc PL h1 h2 h3)
  rw [← hEX, ← hEE] at HEx1
  have HOn1 := hid (fun (W : World) (hb : Below wf.heap.size wf W) (g : Flt) (h1 : oneE M f g = 0) (h2 : oneB M f g = true) => show Calls Tryz.prog 25 #[.slice a n cap, f.val, g.val] W fun e w' => e = .returned (.tuple #[.bool true, .int .i64 0]) ∧ Below W.heap.size W w' from by
    have := HOn.out W hb g
    rw [h1, h2] at this; exact this)
  have HL1 := hid (fun (h : PE = 0) => show EX = true ∧ EE = 0 ∧ whichE M PL = 0 ∧ 0 < (whichL M PL).length ∧ listedE M L = 0 from by
    have h0 : playE M f L = 0 := by rw [← hPE]; exact h
    have := play_law h0
    rw [← hPL] at this
    exact ⟨by rw [hEX]; exact this.2.1, by rw [hEE]; exact this.1, this.2.2.1, this.2.2.2.1, this.2.2.2.2⟩)
  have HL2 := hid (fun (h : PE = 0) (he : enoughB M L = true) => show ∃ g, whichL M PL = [g] ∧ oneE M f g = 0 ∧ oneB M f g = true from by
    have h0 : playE M f L = 0 := by rw [← hPE]; exact h
    have h12 := (picsB_iff (playE_ok h0).2).1
    have hl := HFL.out
    have hlt : L.length < 12 := by
      unfold fitL at hl
      simp only [Bool.and_eq_true, Bool.or_eq_true, decide_eq_true_eq] at hl
      omega
    have := play_law2 h0 hlt he
    rw [← hPL] at this
    exact this)
  have HWL := hid (fun (h : PE = 0) => show (whichL M PL).length ≤ 240 from by
    have h0 : playE M f L = 0 := by rw [← hPE]; exact h
    have hM := (validF_ok (playE_ok h0).1).1
    unfold whichL
    split
    · exact which_240 hM
    · simp)
  clear hPE hPL hEX hEE HEx HOn
  obtain ⟨kind, row, pixel⟩ := f
  simp only [Flt.val] at HWF HP1 HP2 HEx1 HOn1 HC f0 f1 f2 ⊢
  have hw := HWF.out
  clear HWF
  go_enter Tryz.func4, Tryz.ntmps4
  go_wp2_with fail
  rw [← hw]
  clear hw
  go_wp2_with (first
    | (go_at_call 17; refine HSm.out.mono ?_; rintro e w1 ⟨rfl, rfl⟩)
    | (go_at_call 18; refine HLs.out.mono ?_; rintro e w1 ⟨rfl, rfl⟩)
    | (go_at_call 7; refine HTs.out.mono ?_; rintro e w1 ⟨rfl, hb1⟩)
    | (go_at_call 19; refine (HB1.out _ hb1).mono ?_; rintro e w2 ⟨rfl, hb2⟩; refine Stop.of ?_))
  refine Stop.go ?_
  have hb12 := chain hb1 hb2
  clear f0 f1 f2
  go_wp2_with (go_at_call 20; refine (HB2.out _ hb12).mono ?_; rintro e w3 ⟨rfl, hb3⟩; refine Stop.of ?_)
  refine Stop.go ?_
  have hb13 := chain hb12 hb3
  obtain ⟨_, f0, f1, f2⟩ := HC.out w3 hb13
  go_wp2_with (go_at_call 21; refine (HP1.out _ hb13).mono ?_; rintro e w4 ⟨v4, base4, rfl, hbase4, hT4, hb4⟩; refine Stop.of ?_)
  refine Stop.go ?_
  obtain ⟨pa, pc, rfl, _, hpT⟩ := hT4.reads
  have hb14 := chain hb13 hb4
  have HPT := hid hpT
  clear hT4 hpT hbase4 f0 f1 f2
  obtain ⟨_, f0, f1, f2⟩ := HC.out w4 hb14
  go_wp2_with (go_at_call 22; refine (HP2.out _ hb14).mono ?_; rintro e w5 ⟨v5, base5, rfl, hbase5, hT5, hb5⟩; refine Stop.of ?_)
  refine Stop.go ?_
  obtain ⟨qa, qc, rfl, _, hqT⟩ := hT5.reads
  have hb15 := chain hb14 hb5
  have HPT5 := hid (HPT.out.below hb5)
  obtain ⟨pn, hpn⟩ : ∃ pn, pn = PL.length := ⟨_, rfl⟩
  rw [← hpn] at hpl12
  have HPN := hid hpn
  have HST := hid (sameTests_t w5 pa qa PL.length pc qc PL rfl (by rw [← hpn]; unfold maxLen; omega) HPT5.out hqT)
  rw [← hpn] at HST ⊢
  have HB15 := hid hb15
  clear hT5 hqT hbase5 f0 f1 f2 HPT hpn hb1 hb2 hb12 hb3 hb13 hb4 hb14 hb5 hb15
  by_cases hz : PE = 0
  · obtain ⟨x1, x2, x3, x4, x5⟩ := HL1.out hz
    have x6 := HWL.out hz
    have HZ := hid hz
    subst hz
    subst x1
    subst x2
    have HWh1 := hid (fun (W : World) (hb : Below wf.heap.size wf W) (va : Option Addr) (vn vc : Nat) (h1 : PL.length = vn) (h2 : vn ≤ maxLen) (h3 : TestsAt W va PL) => HWh.out W hb va vn vc PL h1 h2 h3)
    rw [x3] at HWh1
    rw [x5] at HEn
    obtain ⟨WL, hWL⟩ : ∃ l, l = whichL M PL := ⟨_, rfl⟩
    have HL3 := hid (fun he => HL2.out rfl he)
    rw [← hWL] at HWh1 x4 x6 HL3
    obtain ⟨wn, hwn⟩ : ∃ k, k = WL.length := ⟨_, rfl⟩
    rw [← hwn] at x4 x6
    have HWN := hid hwn
    obtain ⟨EB, hEB⟩ : ∃ b, b = enoughB M L := ⟨_, rfl⟩
    rw [← hEB] at HEn HL3
    clear x3 x5 HL1 HL2 HWL HWh hWL hwn hEB
    have hwz : ((wn : Int) == 0) = false := by simp; omega
    go_wp2_with (go_at_call 23; refine HST.out.mono ?_; rintro e w6 ⟨rfl, hb6⟩; refine Stop.of ?_)
    refine Stop.go ?_
    have HB16 := hid (chain HB15.out hb6)
    have HPT6 := hid (HPT5.out.below hb6)
    clear hb6
    obtain ⟨_, f0, f1, f2⟩ := HC.out w6 HB16.out
    go_wp2_with (go_at_call 9; refine (HEx1.out _ HB16.out pa pn pc HPN.out.symm (by unfold maxLen; omega) HPT6.out).mono ?_; rintro e w7 ⟨rfl, hb7⟩; refine Stop.of ?_)
    refine Stop.go ?_
    have HB17 := hid (chain HB16.out hb7)
    have HPT7 := hid (HPT6.out.below hb7)
    clear hb7 f0 f1 f2
    go_wp2_with (go_at_call 11; refine (HWh1.out _ HB17.out pa pn pc HPN.out.symm (by unfold maxLen; omega) HPT7.out).mono ?_; rintro e w8 ⟨v8, base8, rfl, hbase8, hF8, hb8⟩; refine Stop.of ?_)
    refine Stop.go ?_
    obtain ⟨la, lc, rfl, _, hlF⟩ := hF8.reads
    rw [← HWN.out]
    have HB18 := hid (chain HB17.out hb8)
    have HLF := hid hlF
    clear hb8 hF8 hlF hbase8
    go_wp2_with (go_at_call 24; refine (HEn.out _ HB18.out).mono ?_; rintro e w9 ⟨rfl, hb9⟩; refine Stop.of ?_)
    refine Stop.go ?_
    have HB19 := hid (chain HB18.out hb9)
    have HLF9 := hid (HLF.out.below hb9)
    clear hb9
    cases EB with
    | false =>
      go_wp2_with (go_at_call 8; refine (HAw.out _ HB19.out).mono ?_; rintro e w12 ⟨rfl, hb12⟩)
      go_ret
      exact ⟨rfl, chain HB0.out (chain HB19.out hb12)⟩
    | true =>
      obtain ⟨g, hg, g1, g2⟩ := HL3.out rfl
      have hw1 : wn = 1 := by rw [HWN.out, hg]; rfl
      subst hw1
      have hlf := HLF9.out
      rw [hg] at hlf
      obtain ⟨b, off, rfl, hbs, k0, k1, k2⟩ := hlf 0 (by simp)
      simp only [List.getElem_cons_zero, Nat.zero_mul, Nat.add_zero] at k0 k1 k2
      have HO := hid (fun (W : World) (hb : Below wf.heap.size wf W) => HOn1.out W hb g g1 g2)
      have HS := hid (fun (W : World) (hb : Below w9.heap.size w9 W) => show (W.cell? ⟨w.heap.size, 0, none⟩ = some (.int .i64 kind) ∧ W.cell? ⟨w.heap.size, 1, none⟩ = some (.int .i64 row) ∧ W.cell? ⟨w.heap.size, 2, none⟩ = some (.int .i64 pixel)) ∧ W.cell? ⟨b, off, none⟩ = some (.int .i64 g.kind) ∧ W.cell? ⟨b, off + 1, none⟩ = some (.int .i64 g.row) ∧ W.cell? ⟨b, off + 2, none⟩ = some (.int .i64 g.pixel) from
        ⟨(HC.out W (chain HB19.out hb)).2, (hb.cell (p := ⟨b, _, none⟩) hbs).trans k0, (hb.cell (p := ⟨b, _, none⟩) hbs).trans k1, (hb.cell (p := ⟨b, _, none⟩) hbs).trans k2⟩)
      clear hlf hg g1 g2 k0 k1 k2
      obtain ⟨gk, gr, gp⟩ := g
      simp only [Flt.val] at HO HS
      go_wp2
      refine plain_region (fun j' X => wAll j' = true → ((X.cell? ⟨w.heap.size, 0, none⟩ = some (.int .i64 kind) ∧ X.cell? ⟨w.heap.size, 1, none⟩ = some (.int .i64 row) ∧ X.cell? ⟨w.heap.size, 2, none⟩ = some (.int .i64 pixel)) ∧ X.cell? ⟨b, off, none⟩ = some (.int .i64 gk) ∧ X.cell? ⟨b, off + 1, none⟩ = some (.int .i64 gr) ∧ X.cell? ⟨b, off + 2, none⟩ = some (.int .i64 gp))) (by kernel_rfl) ?_
      have hbd : Below w9.heap.size w9 w9.drew := (Below.refl _ _).drew
      generalize w9.drew = wd at hbd ⊢
      refine AnyT.takeD (i := 0) (v := .slice a n cap) rfl rfl (by kernel_rfl) (by kernel_rfl) (by kernel_rfl) (by first | exact (fun _ _ _ h => h) | exact (fun _ _ _ h => absurd h.1 (by simp))) (by kernel_rfl) (by rfl) (by rintro w' hw'; go_simp) (HS.out _ hbd) ?_; go_frame
      refine AnyT.takeD (i := 1) (v := .agg #[.int .i64 kind, .int .i64 row, .int .i64 pixel]) rfl rfl (by kernel_rfl) (by kernel_rfl) (by kernel_rfl) (by first | exact (fun _ _ _ h => h) | exact (fun _ _ _ h => absurd h.1 (by simp))) (by kernel_rfl) (by rfl) (by rintro w' ⟨⟨q0, q1, q2⟩, q3, q4, q5⟩; go_simp) (HS.out _ hbd) ?_; go_frame
      refine AnyT.takeD (i := 2) (v := .slice (some ⟨b, off, none⟩) 1 lc) rfl rfl (by kernel_rfl) (by kernel_rfl) (by kernel_rfl) (by first | exact (fun _ _ _ h => h) | exact (fun _ _ _ h => absurd h.1 (by simp))) (by kernel_rfl) (by rfl) (by rintro w' hw'; go_simp) (HS.out _ hbd) ?_; go_frame
      refine AnyT.takeD (i := 3) (v := .pointer (some ⟨b, off, none⟩)) rfl rfl (by kernel_rfl) (by kernel_rfl) (by kernel_rfl) (by first | exact (fun _ _ _ h => h) | exact (fun _ _ _ h => absurd h.1 (by simp))) (by kernel_rfl) (by rfl) (by rintro w' hw'; go_simp) (HS.out _ hbd) ?_; go_frame
      refine AnyT.takeD (i := 4) (v := .agg #[.int .i64 gk, .int .i64 gr, .int .i64 gp]) rfl rfl (by kernel_rfl) (by kernel_rfl) (by kernel_rfl) (by first | exact (fun _ _ _ h => h) | exact (fun _ _ _ h => absurd h.1 (by simp))) (by kernel_rfl) (by rfl) (by rintro w' ⟨⟨q0, q1, q2⟩, q3, q4, q5⟩; go_simp) (HS.out _ hbd) ?_; go_frame
      refine AnyT.next (i := 5) (by kernel_rfl) rfl (wpOp_of_list rfl ?_)
      go_wp2_with (go_at_call 25; refine (HO.out _ (chain HB19.out hbd)).mono ?_; rintro e w10 ⟨rfl, hb10⟩; refine Stop.of ?_)
      refine Stop.go ?_
      have hb20 := chain hbd hb10
      go_wp2
      refine ⟨fun _ => HS.out _ hb20, ?_⟩
      refine AnyT.takeD (i := 6) (v := .tuple #[.bool true, .int .i64 0]) rfl rfl (by kernel_rfl) (by kernel_rfl) (by kernel_rfl) (by first | exact (fun _ _ _ h => h) | exact (fun _ _ _ h => absurd h.1 (by simp))) (by kernel_rfl) (by rfl) (by rintro w' hw'; go_simp) (HS.out _ hb20) ?_; go_frame
      refine AnyT.takeD (i := 7) (v := .bool true) rfl rfl (by kernel_rfl) (by kernel_rfl) (by kernel_rfl) (by first | exact (fun _ _ _ h => h) | exact (fun _ _ _ h => absurd h.1 (by simp))) (by kernel_rfl) (by rfl) (by rintro w' hw'; go_simp) (HS.out _ hb20) ?_; go_frame
      refine AnyT.takeD (i := 8) (v := .int .i64 0) rfl rfl (by kernel_rfl) (by kernel_rfl) (by kernel_rfl) (by first | exact (fun _ _ _ h => h) | exact (fun _ _ _ h => absurd h.1 (by simp))) (by kernel_rfl) (by rfl) (by rintro w' hw'; go_simp) (HS.out _ hb20) ?_; go_frame
      refine AnyT.takeD (i := 9) (v := .bool true) rfl rfl (by kernel_rfl) (by kernel_rfl) (by kernel_rfl) (by first | exact (fun _ _ _ h => h) | exact (fun _ _ _ h => absurd h.1 (by simp))) (by kernel_rfl) (by rfl) (by rintro w' hw'; go_simp) (HS.out _ hb20) ?_; go_frame
      refine AnyT.takeD (i := 10) (v := .int .i64 0) rfl rfl (by kernel_rfl) (by kernel_rfl) (by kernel_rfl) (by first | exact (fun _ _ _ h => h) | exact (fun _ _ _ h => absurd h.1 (by simp))) (by kernel_rfl) (by rfl) (by rintro w' hw'; go_simp) (HS.out _ hb20) ?_; go_frame
      refine AnyT.done (by kernel_rfl) ?_ _
      have HB20 := hid (chain HB19.out hb20)
      clear hb20 hb10 hbd
      go_wp2_with (go_at_call 8; refine (HAw.out _ HB20.out).mono ?_; rintro e w12 ⟨rfl, hb12⟩)
      go_ret
      exact ⟨rfl, chain HB0.out (chain HB20.out hb12)⟩
  · have hz2 : (PE != 0) = true := by simpa using hz
    clear hz
    go_wp2_with (first
      | (go_at_call 23; refine HST.out.mono ?_; rintro e w7 ⟨rfl, hb7⟩)
      | (go_at_call 8; refine (HAw.out _ (chain HB15.out hb7)).mono ?_; rintro e w8 ⟨rfl, hb8⟩))
    go_ret
    exact ⟨rfl, chain HB0.out (chain HB15.out (chain hb7 hb8))⟩
end Go.Proofs.YthaampmdponhbaaGreatDoor

namespace Go.Proofs.YthaampmdponhbaaGreatDoor
open Go.ChangeShapes Go.WideShapes Go.ChangeAt Go.RowKit Go.Deep
set_option linter.unusedVariables false

def Fits64 (n : Int) : Prop := -9223372036854775808 ≤ n ∧ n ≤ 9223372036854775807
theorem fits64 {n : Int} (h : (Lit.int .i64 n).wf = true) : Fits64 n := by
  simpa [Fits64, Lit.wf, IntKind.min, IntKind.max, IntKind.signed, IntKind.bits] using h

theorem cell_plain {w : World} {a : Addr} {v : Value} (h : w.cell? a = some v) : a = ⟨a.block, a.off, none⟩ ∧ a.block < w.heap.size := by
  unfold World.cell? at h
  split at h
  · rename_i c _ _ hb
    obtain ⟨b, o, s⟩ := a
    cases s with
    | none => exact ⟨rfl, (Array.getElem?_eq_some_iff.1 hb).1⟩
    | some s => simp at h
  · simp at h

theorem add_plain (b o : Nat) (i : Nat) : (Addr.mk b o none).add i = ⟨b, o + i, none⟩ := by
  unfold Addr.add
  split
  · rename_i h; rw [h]; rfl
  · rfl

section
variable {H : Type} {enc : TypeId × Value → H} {P : Program} {w : World} {base : Nat} {held : Bool}

theorem ints_opened {e q : TypeId} {fuel : Nat} {a : Option Addr} {n cap : Nat} {x : DataW H × List MemPlace} (he : P.underlying e = some (.slice q)) (hq : P.underlying q = some (.int .i64)) (cq : P.cellsOf q = 1)
    (h : DataW.trod enc P w base (fun _ => true) held fuel e [.slice a n cap] = some x) : ∃ l : List Int, l.length = n ∧ n ≤ maxLen ∧ IntsAt w a l ∧ ∀ y ∈ l, Fits64 y := by
  rcases open_ints he hq cq h with ⟨hcs, _⟩ | ⟨x, l, c, zs, hcs, _, hl, hm, hz, _, hcell, hwz⟩
  · simp at hcs
    obtain ⟨rfl, rfl, rfl⟩ := hcs
    exact ⟨[], rfl, by decide, fun j hj => by simp at hj, fun y hy => by simp at hy⟩
  · simp at hcs
    obtain ⟨rfl, rfl, rfl⟩ := hcs
    simp only [if_true] at hz
    refine ⟨zs.take n, by rw [List.length_take]; omega, by omega, fun j hj => ?_, fun y hy => fits64 (hwz y (List.mem_of_mem_take hy))⟩
    rw [List.length_take] at hj
    have h0 := cell_plain (hcell 0 (by omega))
    simp only [Addr.add, if_true] at h0
    obtain ⟨b, o, s⟩ := x
    have hs : s = none := by have := h0.1; simp at this; exact this
    subst hs
    refine ⟨b, o, rfl, h0.2, ?_⟩
    have := hcell j (by omega)
    rw [add_plain] at this
    rw [this]
    simp [List.getElem?_take, show j < n by omega, List.getD]

theorem arg_rows {r : Reach} {b0 : Nat} {t e q : TypeId} {v : Value} {d : DataW H} {p : List MemPlace} (ht : P.underlying t = some (.slice e)) (ce : P.cellsOf e = 1) (he : P.underlying e = some (.slice q)) (hq : P.underlying q = some (.int .i64)) (cq : P.cellsOf q = 1)
    (hv : Value.okWide P w r b0 t v) (h : DataW.Trod enc P w base (fun _ => true) held t v d p) : ∃ a n cap, ∃ l : List (List Int), v = .slice a n cap ∧ l.length = n ∧ n ≤ maxLen ∧ RowsAt w a l ∧ ∀ y ∈ l, ∀ z ∈ y, Fits64 z := by
  obtain ⟨a, n, cap, rfl⟩ := okWide_slice ht hv
  obtain ⟨fuel, hf⟩ := h
  rcases open_slice1 ht ce (by simpa [Value.cells] using hf) with ⟨hcs, _⟩ | ⟨x, len, c', m, nn, V, D, Pl, hcs, _, hl, hm, hmm, _, hx⟩
  · simp at hcs
    obtain ⟨rfl, rfl, rfl⟩ := hcs
    exact ⟨none, 0, 0, [], rfl, rfl, by decide, fun j hj => by simp at hj, fun y hy => by simp at hy⟩
  simp at hcs
  obtain ⟨rfl, rfl, rfl⟩ := hcs
  simp only [if_true] at hmm
  have each : ∀ i, i < n → ∃ y : List Int × Option Addr × Nat × Nat, w.cell? (x.add i) = some (.slice y.2.1 y.2.2.1 y.2.2.2) ∧ y.1.length = y.2.2.1 ∧ y.2.2.1 ≤ maxLen ∧ IntsAt w y.2.1 y.1 ∧ (∀ z ∈ y.1, Fits64 z) := by
    intro i hi
    obtain ⟨hc, t0⟩ := hx i (by omega)
    have hsl : ∃ ra rn rc, V i = .slice ra rn rc := by
      rcases open_ints he hq cq t0 with ⟨hcs, _⟩ | ⟨x, l, c, zs, hcs, _⟩
      · simp at hcs; exact ⟨_, _, _, hcs⟩
      · simp at hcs; exact ⟨_, _, _, hcs⟩
    obtain ⟨ra, rn, rc, hV⟩ := hsl
    rw [hV] at hc t0
    obtain ⟨l, q1, q2, q3, q4⟩ := ints_opened he hq cq t0
    exact ⟨(l, ra, rn, rc), hc, q1, q2, q3, q4⟩
  haveI : Inhabited (List Int × Option Addr × Nat × Nat) := ⟨([], none, 0, 0)⟩
  obtain ⟨y, hy⟩ := choose_lt each
  refine ⟨some x, n, cap, (List.range n).map fun i => (y i).1, rfl, by simp, by omega, fun j hj => ?_, fun z hz => ?_⟩
  · have hjn : j < n := by simpa using hj
    have hp := cell_plain (hy 0 (by omega)).1
    simp only [Addr.add, if_true] at hp
    obtain ⟨b, o, s⟩ := x
    have hs' : s = none := by have := hp.1; simp at this; exact this
    subst hs'
    obtain ⟨r0, r3, r4, r5, r6⟩ := hy j hjn
    rw [add_plain] at r0
    refine ⟨b, o, (y j).2.1, (y j).2.2.1, (y j).2.2.2, rfl, hp.2, r0, ?_, r4, ?_⟩ <;> simp only [List.getElem_map, List.getElem_range] <;> assumption
  · obtain ⟨i, hi, rfl⟩ := List.mem_map.1 hz
    exact (hy i (List.mem_range.1 hi)).2.2.2.2
end
end Go.Proofs.YthaampmdponhbaaGreatDoor

namespace Go.Proofs.YthaampmdponhbaaGreatDoor
open Go.ChangeShapes Go.WideShapes Go.ChangeAt Go.RowKit Go.Deep
set_option linter.unusedVariables false

abbrev laid3 : List (String × DataW Unit) := [("math/bits.deBruijn32tab", Rows.laid_math_bits_deBruijn32tab), ("math/bits.deBruijn64tab", Rows.laid_math_bits_deBruijn64tab), ("internal/strconv.uint64pow10", Rows.laid_internal_strconv_uint64pow10)]

theorem tab_type : (Tryz.prog.globals[5]?).map (·.type) = some 176 := by kernel_rfl
theorem tab_of_laid {W : World} (h : laidMetH Tryz.prog laid3 W) : Tab W := by
  rw [MakeChecks.laidMetH_plain _ _ _ (by kernel_rfl)] at h
  have h3 := (laidMet.tail (laidMet.tail h))
  have e : (Rows.laid_internal_strconv_uint64pow10 : DataW Unit) = Lib.tabData .u64 Lib.pow10Tab := by kernel_rfl
  rw [e] at h3
  exact Lib.tabIs_of_head tabNamed tab_type Tryz.underlying176 Tryz.underlying148 (by kernel_rfl) (by kernel_rfl) h3

section
variable {H : Type} {enc : TypeId × Value → H} {P : Program} {w : World} {base : Nat} {held : Bool}

theorem arg_fault {r : Reach} {b0 : Nat} {t : TypeId} {f0 f1 f2 : Field} {v : Value} {d : DataW H} {p : List MemPlace} (hs : P.underlying t = some (.struct #[f0, f1, f2])) (hone : oneCellFields P #[f0, f1, f2] = true) (hC : P.cellsOf t = 3)
    (h0 : P.underlying f0.type = some (.int .i64)) (h1 : P.underlying f1.type = some (.int .i64)) (h2 : P.underlying f2.type = some (.int .i64)) (hv : Value.okWide P w r b0 t v) (h : DataW.Trod enc P w base (fun _ => true) held t v d p) :
    ∃ x : Flt, v = x.val ∧ Fits64 x.kind ∧ Fits64 x.row ∧ Fits64 x.pixel := by
  obtain ⟨v0, v1, v2, y0, y1, y2, n, rfl, _, _, k0, k1, k2⟩ := Go.Joins.open_agg3 hs hone hC hv h
  obtain ⟨z0, e0, _, w0⟩ := DataW.trod_int h0 k0
  obtain ⟨z1, e1, _, w1⟩ := DataW.trod_int h1 k1
  obtain ⟨z2, e2, _, w2⟩ := DataW.trod_int h2 k2
  simp at e0 e1 e2
  subst e0; subst e1; subst e2
  exact ⟨⟨z0, z1, z2⟩, rfl, fits64 w0, fits64 w1, fits64 w2⟩

theorem arg_tests {r : Reach} {b0 : Nat} {t c q : TypeId} {f0 f1 : Field} {v : Value} {d : DataW H} {p : List MemPlace} (ht : P.underlying t = some (.slice c)) (hs : P.underlying c = some (.struct #[f0, f1])) (hone : oneCellFields P #[f0, f1] = true) (hC : P.cellsOf c = 2)
    (he0 : P.underlying f0.type = some (.slice q)) (he1 : P.underlying f1.type = some (.slice q)) (hq : P.underlying q = some (.int .i64)) (cq : P.cellsOf q = 1)
    (hv : Value.okWide P w r b0 t v) (h : DataW.Trod enc P w base (fun _ => true) held t v d p) : ∃ a n cap, ∃ l : List Tst, v = .slice a n cap ∧ l.length = n ∧ n ≤ maxLen ∧ TestsAt w a l ∧ ∀ y ∈ l, (∀ z ∈ y.shown, Fits64 z) ∧ ∀ z ∈ y.read, Fits64 z := by
  obtain ⟨a, n, cap, rfl⟩ := okWide_slice ht hv
  obtain ⟨fuel, hf⟩ := h
  rcases open_slice ht (by simpa [Value.cells] using hf) with ⟨hcs, _⟩ | ⟨x, len, c', m, nn, D, Pl, hcs, _, hl, hm, hmm, _, hx⟩
  · simp at hcs
    obtain ⟨rfl, rfl, rfl⟩ := hcs
    exact ⟨none, 0, 0, [], rfl, rfl, by decide, fun j hj => by simp at hj, fun y hy => by simp at hy⟩
  simp at hcs
  obtain ⟨rfl, rfl, rfl⟩ := hcs
  simp only [if_true] at hmm
  obtain ⟨o0, k0⟩ := hone_of hone 0 f0 rfl
  obtain ⟨o1, k1⟩ := hone_of hone 1 f1 rfl
  have hsl : ∀ {fuel : Nat} {e : TypeId} (he : P.underlying e = some (.slice q)) {v0 : Value} {x : DataW H × List MemPlace}, DataW.trod enc P w base (fun _ => true) held fuel e [v0] = some x → ∃ ra rn rc, v0 = .slice ra rn rc := by
    intro fuel e he v0 x k0
    rcases open_ints he hq cq k0 with ⟨hcs, _⟩ | ⟨x, l, c, zs, hcs, _⟩
    · simp at hcs; exact ⟨_, _, _, hcs⟩
    · simp at hcs; exact ⟨_, _, _, hcs⟩
  have each : ∀ i, i < n → ∃ y : Tst × (Option Addr × Nat × Nat) × (Option Addr × Nat × Nat), w.cell? (x.add (i * 2)) = some (.slice y.2.1.1 y.2.1.2.1 y.2.1.2.2) ∧ w.cell? ((x.add (i * 2)).add 1) = some (.slice y.2.2.1 y.2.2.2.1 y.2.2.2.2) ∧
      y.1.shown.length = y.2.1.2.1 ∧ y.2.1.2.1 ≤ maxLen ∧ IntsAt w y.2.1.1 y.1.shown ∧ (∀ z ∈ y.1.shown, Fits64 z) ∧ y.1.read.length = y.2.2.2.1 ∧ y.2.2.2.1 ≤ maxLen ∧ IntsAt w y.2.2.1 y.1.read ∧ (∀ z ∈ y.1.read, Fits64 z) := by
    intro i hi
    obtain ⟨cs', hc, htr⟩ := hx i (by omega)
    rw [hC] at hc
    obtain ⟨_, hlen, hcell⟩ := World.cells?_some hc
    match cs', hlen with
    | [c0, c1], _ =>
      obtain ⟨y0, y1, n', _, _, t0, t1⟩ := trod_struct2 hs htr
      rw [o0, k0] at t0
      rw [o1, k1] at t1
      simp at t0 t1
      obtain ⟨sa, sn, sc, rfl⟩ := hsl he0 t0
      obtain ⟨ra, rn, rc, rfl⟩ := hsl he1 t1
      obtain ⟨l0, p1, p2, p3, p4⟩ := ints_opened he0 hq cq t0
      obtain ⟨l1, q1, q2, q3, q4⟩ := ints_opened he1 hq cq t1
      have hc0 := hcell 0 (by omega)
      rw [show (x.add (i * 2)).add 0 = x.add (i * 2) from rfl] at hc0
      exact ⟨(⟨l0, l1⟩, (sa, sn, sc), (ra, rn, rc)), by simpa using hc0, by simpa using hcell 1 (by omega), p1, p2, p3, p4, q1, q2, q3, q4⟩
  haveI : Inhabited (Tst × (Option Addr × Nat × Nat) × (Option Addr × Nat × Nat)) := ⟨(⟨[], []⟩, (none, 0, 0), (none, 0, 0))⟩
  obtain ⟨y, hy⟩ := choose_lt each
  refine ⟨some x, n, cap, (List.range n).map fun i => (y i).1, rfl, by simp, by omega, fun j hj => ?_, fun z hz => ?_⟩
  · have hjn : j < n := by simpa using hj
    have hp := cell_plain (hy 0 (by omega)).1
    simp only [Addr.add, Nat.zero_mul, if_true] at hp
    obtain ⟨b, o, s⟩ := x
    have hs' : s = none := by have := hp.1; simp at this; exact this
    subst hs'
    obtain ⟨r0, r1, r3, r4, r5, r6, r7, r8, r9, r10⟩ := hy j hjn
    rw [add_plain] at r0 r1
    rw [add_plain] at r1
    refine ⟨b, o, (y j).2.1.1, (y j).2.1.2.1, (y j).2.1.2.2, (y j).2.2.1, (y j).2.2.2.1, (y j).2.2.2.2, rfl, hp.2, r0, r1, ?_, r4, ?_, ?_, r8, ?_⟩ <;> simp only [List.getElem_map, List.getElem_range] <;> assumption
  · obtain ⟨i, hi, rfl⟩ := List.mem_map.1 hz
    obtain ⟨r0, r1, r3, r4, r5, r6, r7, r8, r9, r10⟩ := hy i (List.mem_range.1 hi)
    exact ⟨r6, r10⟩
end
end Go.Proofs.YthaampmdponhbaaGreatDoor
