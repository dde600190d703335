/- Walks of both packages: All, Faulty, Reads, One. -/
import Derived.Test.YthaampmdponhbaaDoorFltY
namespace Go.Proofs.YthaampmdponhbaaDoor
open Go.RowKit
set_option linter.unusedVariables false

theorem mask_small {M : Mask} {f : Flt} (hM : okM M = true) (hf : okF M f = true) : ∀ r ∈ faultyM M f, r.length ≤ maxLen := fun r hr => by
  have := (faultyM_cols hM hf r hr).1; have := (okM_len hM).2.2.2.1; unfold maxLen; omega

theorem faulty_v (w : World) (a : Option Addr) (n cap : Nat) (M : Mask) (hn : M.length = n) (H : RowsAt w a M) (hM : okM M = true) (f : Flt) (hf : okF M f = true) :
    Calls Tryd.prog 52 #[.slice a n cap, f.val] w fun e w' => ∃ va vc, e = .returned (.slice va n vc) ∧ RowsAt w' va (faultyM M f) ∧ Below w.heap.size w w' :=
  (faulty_c w a n cap M hn H hM f hf).mono fun e w' ⟨v, base, he, _, hown, hb⟩ => by
    obtain ⟨va, vc, hv, hr⟩ := hown.rows (mask_small hM hf)
    exact ⟨va, vc, by rw [he, hv, faultyM_row, hn], hr, hb⟩
theorem refFaulty_v (w : World) (a : Option Addr) (n cap : Nat) (M : Mask) (hn : M.length = n) (H : RowsAt w a M) (hM : okM M = true) (f : Flt) (hf : okF M f = true) :
    Calls Tryd.prog 53 #[.slice a n cap, f.val] w fun e w' => ∃ va vc, e = .returned (.slice va n vc) ∧ RowsAt w' va (faultyM M f) ∧ Below w.heap.size w w' :=
  (refFaulty_r w a n cap M hn H hM f hf).mono fun e w' ⟨v, base, he, _, hown, hb⟩ => by
    obtain ⟨va, vc, hv, _, hr, _⟩ := hown.reads
    exact ⟨va, vc, by rw [he, hv, faultyM_row, hn], hr, hb⟩

theorem r2Shown_b (w : World) (a : Option Addr) (n cap : Nat) (M : Mask) (hn : M.length = n) (hm : n ≤ maxLen) (H : RowsAt w a M) (a2 : Option Addr) (n2 cap2 : Nat) (x : List Int) (hn2 : x.length = n2) (hm2 : n2 ≤ maxLen) (H2 : IntsAt w a2 x) :
    Calls Tryd.prog 59 #[.slice a n cap, .slice a2 n2 cap2] w fun e w' => e = .returned (.bool (okShown M x)) ∧ Below w.heap.size w w' :=
  (r2Shown_c w a n cap M hn hm H a2 n2 cap2 x hn2 hm2 H2).mono fun e w' ⟨h1, h2⟩ => ⟨h1, h2 ▸ Below.refl _ _⟩

/-- the error of a fault -/
def faultE (M : Mask) (f : Flt) : Int := if validF M f = true then 0 else 1
/-- what Faulty returns -/
def faultyL (M : Mask) (f : Flt) : Mask := if validF M f = true then faultyM M f else []
/-- the error of a fault and a picture -/
def readsE (M : Mask) (f : Flt) (x : List Int) : Int := if validF M f = true then (if okShown M x = true then 0 else 7) else 1
/-- what Reads returns -/
def readsL (M : Mask) (f : Flt) (x : List Int) : List Int := if readsE M f x = 0 then readF M f x else []
/-- the error of two faults -/
def oneE (M : Mask) (f g : Flt) : Int := if validF M f = true ∧ validF M g = true then 0 else 1
/-- what One returns -/
def oneB (M : Mask) (f g : Flt) : Bool := decide (oneE M f g = 0) && decide (faultyM M f = faultyM M g)

theorem validF_ok {M : Mask} {f : Flt} (h : validF M f = true) : okM M = true ∧ okF M f = true := by
  unfold validF at h; simpa using h

theorem refAll2_c (w : World) (a : Option Addr) (n cap : Nat) (M : Mask) (hn : M.length = n) (hm : n ≤ maxLen) (H : RowsAt w a M) :
    Calls Tryd.prog 23 #[.slice a n cap] w fun e w' => ∃ v base, e = .returned (.tuple #[v, .int .i64 (maskE M)]) ∧ w.heap.size ≤ base ∧ FltsO w' base v (allL M) ∧ Below w.heap.size w w' := by
  have HV := hid (r2Valid_c w a n cap M hn hm H)
  cases h1 : okM M
  · rw [h1] at HV
    have HE := hid (show maskE M = 1 ∧ allL M = [] by unfold maskE allL; rw [h1]; simp)
    clear h1 hn H
    go_enter Tryd.func23, Tryd.ntmps23
    go_wp2_with (go_at_call 41; refine HV.out.mono ?_; rintro e w1 ⟨rfl, rfl⟩)
    go_ret2
    refine ⟨.slice none 0 0, w.heap.size, by rw [HE.out.1]; rfl, Nat.le_refl _, ?_, Below.refl _ _⟩
    rw [HE.out.2]
    exact FltsO.nil _ _
  · rw [h1] at HV
    have HE := hid (show maskE M = 0 ∧ allL M = allF M by unfold maskE allL; rw [h1]; simp)
    have HA := hid (refAll_c w a n cap M hn H h1)
    clear h1 hn H
    go_enter Tryd.func23, Tryd.ntmps23
    go_wp2_with (first | (go_at_call 41; refine HV.out.mono ?_; rintro e w1 ⟨rfl, rfl⟩) | (go_at_call 51; refine HA.out.mono ?_; rintro e w2 ⟨v, base, rfl, hbase, hF, hb2⟩))
    go_ret2
    refine ⟨v, base, by rw [HE.out.1]; rfl, hbase, ?_, hb2⟩
    rw [HE.out.2]
    exact hF

theorem Faulty_c (w : World) (a : Option Addr) (n cap : Nat) (M : Mask) (hn : M.length = n) (hm : n ≤ maxLen) (H : RowsAt w a M) (f : Flt) :
    Calls Tryd.prog 24 #[.slice a n cap, f.val] w fun e w' => ∃ va vc, e = .returned (.tuple #[.slice va (faultyL M f).length vc, .int .i64 (faultE M f)]) ∧ RowsAt w' va (faultyL M f) ∧ Below w.heap.size w w' := by
  obtain ⟨wf, hwf, hb0, hcells⟩ := fltBox w f
  have HV := hid (faultValid_c wf a n cap M hn hm (H.below hb0) f)
  have HC := hid hcells
  have HB0 := hid hb0
  obtain ⟨_, f0, f1, f2⟩ := hcells wf (Below.refl _ _)
  have HG := hid (fun (h : validF M f = true) (W : World) (hb : Below wf.heap.size wf W) => faulty_v W a n cap M hn (H.below (chain hb0 hb)) (validF_ok h).1 f (validF_ok h).2)
  have HN := hid (show (faultyM M f).length = n by rw [faultyM_row, hn])
  have HWF := hid hwf
  clear hn H hcells hb0 hwf
  cases hv : validF M f
  · have HE := hid (show faultE M f = 1 ∧ faultyL M f = [] by unfold faultE faultyL; rw [hv]; simp)
    rw [hv] at HV
    clear hv HG
    obtain ⟨kind, row, pixel⟩ := f
    simp only [Flt.val] at HV HWF f0 f1 f2 ⊢
    have hw := HWF.out
    clear HWF
    subst hw
    go_enter Tryd.func24, Tryd.ntmps24
    go_wp2_with (go_at_call 26; refine HV.out.mono ?_; rintro e w1 ⟨rfl, hb1⟩)
    go_ret2
    refine ⟨none, 0, by rw [HE.out.1, HE.out.2]; rfl, ?_, chain HB0.out hb1⟩
    rw [HE.out.2]
    intro j hj; simp at hj
  · have HE := hid (show faultE M f = 0 ∧ faultyL M f = faultyM M f by unfold faultE faultyL; rw [hv]; simp)
    rw [hv] at HV
    have HG1 := hid (HG.out hv)
    clear hv HG
    obtain ⟨kind, row, pixel⟩ := f
    simp only [Flt.val] at HV HWF HG1 HC f0 f1 f2 ⊢
    have hw := HWF.out
    clear HWF
    subst hw
    go_enter Tryd.func24, Tryd.ntmps24
    go_wp2_with (go_at_call 26; refine HV.out.mono ?_; rintro e w1 ⟨rfl, hb1⟩; refine Stop.of ?_)
    refine Stop.go ?_
    obtain ⟨_, f0, f1, f2⟩ := HC.out w1 hb1
    go_wp2_with (go_at_call 52; refine (HG1.out _ hb1).mono ?_; rintro e w2 ⟨va, vc, rfl, hr, hb2⟩)
    go_ret2
    refine ⟨va, vc, by rw [HE.out.1, HE.out.2, HN.out]; rfl, ?_, chain HB0.out (chain hb1 hb2)⟩
    rw [HE.out.2]; exact hr
theorem refFaulty2_c (w : World) (a : Option Addr) (n cap : Nat) (M : Mask) (hn : M.length = n) (hm : n ≤ maxLen) (H : RowsAt w a M) (f : Flt) :
    Calls Tryd.prog 25 #[.slice a n cap, f.val] w fun e w' => ∃ va vc, e = .returned (.tuple #[.slice va (faultyL M f).length vc, .int .i64 (faultE M f)]) ∧ RowsAt w' va (faultyL M f) ∧ Below w.heap.size w w' := by
  obtain ⟨wf, hwf, hb0, hcells⟩ := fltBox w f
  have HV := hid (refFValid_c wf a n cap M hn hm (H.below hb0) f)
  have HC := hid hcells
  have HB0 := hid hb0
  obtain ⟨_, f0, f1, f2⟩ := hcells wf (Below.refl _ _)
  have HG := hid (fun (h : validF M f = true) (W : World) (hb : Below wf.heap.size wf W) => refFaulty_v W a n cap M hn (H.below (chain hb0 hb)) (validF_ok h).1 f (validF_ok h).2)
  have HN := hid (show (faultyM M f).length = n by rw [faultyM_row, hn])
  have HWF := hid hwf
  clear hn H hcells hb0 hwf
  cases hv : validF M f
  · have HE := hid (show faultE M f = 1 ∧ faultyL M f = [] by unfold faultE faultyL; rw [hv]; simp)
    rw [hv] at HV
    clear hv HG
    obtain ⟨kind, row, pixel⟩ := f
    simp only [Flt.val] at HV HWF f0 f1 f2 ⊢
    have hw := HWF.out
    clear HWF
    subst hw
    go_enter Tryd.func25, Tryd.ntmps25
    go_wp2_with (go_at_call 27; refine HV.out.mono ?_; rintro e w1 ⟨rfl, hb1⟩)
    go_ret2
    refine ⟨none, 0, by rw [HE.out.1, HE.out.2]; rfl, ?_, chain HB0.out hb1⟩
    rw [HE.out.2]
    intro j hj; simp at hj
  · have HE := hid (show faultE M f = 0 ∧ faultyL M f = faultyM M f by unfold faultE faultyL; rw [hv]; simp)
    rw [hv] at HV
    have HG1 := hid (HG.out hv)
    clear hv HG
    obtain ⟨kind, row, pixel⟩ := f
    simp only [Flt.val] at HV HWF HG1 HC f0 f1 f2 ⊢
    have hw := HWF.out
    clear HWF
    subst hw
    go_enter Tryd.func25, Tryd.ntmps25
    go_wp2_with (go_at_call 27; refine HV.out.mono ?_; rintro e w1 ⟨rfl, hb1⟩; refine Stop.of ?_)
    refine Stop.go ?_
    obtain ⟨_, f0, f1, f2⟩ := HC.out w1 hb1
    go_wp2_with (go_at_call 53; refine (HG1.out _ hb1).mono ?_; rintro e w2 ⟨va, vc, rfl, hr, hb2⟩)
    go_ret2
    refine ⟨va, vc, by rw [HE.out.1, HE.out.2, HN.out]; rfl, ?_, chain HB0.out (chain hb1 hb2)⟩
    rw [HE.out.2]; exact hr

theorem Reads_c (w : World) (a : Option Addr) (n cap : Nat) (M : Mask) (hn : M.length = n) (hm : n ≤ maxLen) (H : RowsAt w a M) (f : Flt) (a2 : Option Addr) (n2 cap2 : Nat) (x : List Int) (hn2 : x.length = n2) (hm2 : n2 ≤ maxLen) (H2 : IntsAt w a2 x) :
    Calls Tryd.prog 32 #[.slice a n cap, f.val, .slice a2 n2 cap2] w fun e w' => ∃ va vc, e = .returned (.tuple #[.slice va (readsL M f x).length vc, .int .i64 (readsE M f x)]) ∧ IntsAt w' va (readsL M f x) ∧ Below w.heap.size w w' := by
  obtain ⟨wf, hwf, hb0, hcells⟩ := fltBox w f
  have HV := hid (faultValid_c wf a n cap M hn hm (H.below hb0) f)
  have HS := hid (fun (W : World) (hb : Below wf.heap.size wf W) => maskShown_c W a n cap M hn hm (H.below (chain hb0 hb)) a2 n2 cap2 x hn2 hm2 (H2.below (chain hb0 hb)))
  have HC := hid hcells
  have HB0 := hid hb0
  obtain ⟨_, f0, f1, f2⟩ := hcells wf (Below.refl _ _)
  have HG := hid (fun (h : validF M f = true) (hx : okShown M x = true) (W : World) (hb : Below wf.heap.size wf W) => reads_c W a n cap M hn (H.below (chain hb0 hb)) (validF_ok h).1 f (validF_ok h).2 a2 n2 cap2 x hn2 (H2.below (chain hb0 hb)) hx)
  have HN := hid (show (readF M f x).length = n by rw [readF_length, hn])
  have HWF := hid hwf
  clear hn H hcells hb0 hwf hn2 H2
  cases hv : validF M f
  · have HE := hid (show readsE M f x = 1 ∧ readsL M f x = [] by unfold readsL readsE; rw [hv]; simp)
    rw [hv] at HV
    clear hv HG HS
    obtain ⟨kind, row, pixel⟩ := f
    simp only [Flt.val] at HV HWF f0 f1 f2 ⊢
    have hw := HWF.out
    clear HWF
    subst hw
    go_enter Tryd.func32, Tryd.ntmps32
    go_wp2_with (go_at_call 26; refine HV.out.mono ?_; rintro e w1 ⟨rfl, hb1⟩)
    go_ret2
    refine ⟨none, 0, by rw [HE.out.1, HE.out.2]; rfl, ?_, chain HB0.out hb1⟩
    rw [HE.out.2]
    intro j hj; simp at hj
  · cases hx : okShown M x
    · have HE := hid (show readsE M f x = 7 ∧ readsL M f x = [] by unfold readsL readsE; rw [hv, hx]; simp)
      rw [hv] at HV
      rw [hx] at HS
      clear hv HG hx
      obtain ⟨kind, row, pixel⟩ := f
      simp only [Flt.val] at HV HWF HC f0 f1 f2 ⊢
      have hw := HWF.out
      clear HWF
      subst hw
      go_enter Tryd.func32, Tryd.ntmps32
      go_wp2_with (first | (go_at_call 26; refine HV.out.mono ?_; rintro e w1 ⟨rfl, hb1⟩) | (go_at_call 60; refine (HS.out _ hb1).mono ?_; rintro e w2 ⟨rfl, hb2⟩))
      go_ret2
      refine ⟨none, 0, by rw [HE.out.1, HE.out.2]; rfl, ?_, chain HB0.out (chain hb1 hb2)⟩
      rw [HE.out.2]
      intro j hj; simp at hj
    · have HE := hid (show readsE M f x = 0 ∧ readsL M f x = readF M f x by unfold readsL readsE; rw [hv, hx]; simp)
      rw [hv] at HV
      rw [hx] at HS
      have HG1 := hid (HG.out hv hx)
      clear hv HG hx
      obtain ⟨kind, row, pixel⟩ := f
      simp only [Flt.val] at HV HWF HG1 HC f0 f1 f2 ⊢
      have hw := HWF.out
      clear HWF
      subst hw
      go_enter Tryd.func32, Tryd.ntmps32
      go_wp2_with (first | (go_at_call 26; refine HV.out.mono ?_; rintro e w1 ⟨rfl, hb1⟩) | (go_at_call 60; refine (HS.out _ hb1).mono ?_; rintro e w2 ⟨rfl, hb2⟩; refine Stop.of ?_))
      refine Stop.go ?_
      have hb12 := chain hb1 hb2
      obtain ⟨_, f0, f1, f2⟩ := HC.out w2 hb12
      go_wp2_with (go_at_call 61; refine (HG1.out _ hb12).mono ?_; rintro e w3 ⟨v, base, rfl, hbase, hown, hb3⟩)
      go_ret2
      obtain ⟨va, vc, rfl, hI⟩ := ints_own hown HN.out
      refine ⟨va, vc, by rw [HE.out.1, HE.out.2, HN.out]; rfl, ?_, chain HB0.out (chain hb12 hb3)⟩
      rw [HE.out.2]; exact hI
theorem refReads2_c (w : World) (a : Option Addr) (n cap : Nat) (M : Mask) (hn : M.length = n) (hm : n ≤ maxLen) (H : RowsAt w a M) (f : Flt) (a2 : Option Addr) (n2 cap2 : Nat) (x : List Int) (hn2 : x.length = n2) (hm2 : n2 ≤ maxLen) (H2 : IntsAt w a2 x) :
    Calls Tryd.prog 33 #[.slice a n cap, f.val, .slice a2 n2 cap2] w fun e w' => ∃ va vc, e = .returned (.tuple #[.slice va (readsL M f x).length vc, .int .i64 (readsE M f x)]) ∧ IntsAt w' va (readsL M f x) ∧ Below w.heap.size w w' := by
  obtain ⟨wf, hwf, hb0, hcells⟩ := fltBox w f
  have HV := hid (refFValid_c wf a n cap M hn hm (H.below hb0) f)
  have HS := hid (fun (W : World) (hb : Below wf.heap.size wf W) => r2Shown_b W a n cap M hn hm (H.below (chain hb0 hb)) a2 n2 cap2 x hn2 hm2 (H2.below (chain hb0 hb)))
  have HC := hid hcells
  have HB0 := hid hb0
  obtain ⟨_, f0, f1, f2⟩ := hcells wf (Below.refl _ _)
  have HG := hid (fun (h : validF M f = true) (hx : okShown M x = true) (W : World) (hb : Below wf.heap.size wf W) => refReads_c W a n cap M hn (H.below (chain hb0 hb)) (validF_ok h).1 f (validF_ok h).2 a2 n2 cap2 x hn2 (H2.below (chain hb0 hb)) hx)
  have HN := hid (show (readF M f x).length = n by rw [readF_length, hn])
  have HWF := hid hwf
  clear hn H hcells hb0 hwf hn2 H2
  cases hv : validF M f
  · have HE := hid (show readsE M f x = 1 ∧ readsL M f x = [] by unfold readsL readsE; rw [hv]; simp)
    rw [hv] at HV
    clear hv HG HS
    obtain ⟨kind, row, pixel⟩ := f
    simp only [Flt.val] at HV HWF f0 f1 f2 ⊢
    have hw := HWF.out
    clear HWF
    subst hw
    go_enter Tryd.func33, Tryd.ntmps33
    go_wp2_with (go_at_call 27; refine HV.out.mono ?_; rintro e w1 ⟨rfl, hb1⟩)
    go_ret2
    refine ⟨none, 0, by rw [HE.out.1, HE.out.2]; rfl, ?_, chain HB0.out hb1⟩
    rw [HE.out.2]
    intro j hj; simp at hj
  · cases hx : okShown M x
    · have HE := hid (show readsE M f x = 7 ∧ readsL M f x = [] by unfold readsL readsE; rw [hv, hx]; simp)
      rw [hv] at HV
      rw [hx] at HS
      clear hv HG hx
      obtain ⟨kind, row, pixel⟩ := f
      simp only [Flt.val] at HV HWF HC f0 f1 f2 ⊢
      have hw := HWF.out
      clear HWF
      subst hw
      go_enter Tryd.func33, Tryd.ntmps33
      go_wp2_with (first | (go_at_call 27; refine HV.out.mono ?_; rintro e w1 ⟨rfl, hb1⟩) | (go_at_call 59; refine (HS.out _ hb1).mono ?_; rintro e w2 ⟨rfl, hb2⟩))
      go_ret2
      refine ⟨none, 0, by rw [HE.out.1, HE.out.2]; rfl, ?_, chain HB0.out (chain hb1 hb2)⟩
      rw [HE.out.2]
      intro j hj; simp at hj
    · have HE := hid (show readsE M f x = 0 ∧ readsL M f x = readF M f x by unfold readsL readsE; rw [hv, hx]; simp)
      rw [hv] at HV
      rw [hx] at HS
      have HG1 := hid (HG.out hv hx)
      clear hv HG hx
      obtain ⟨kind, row, pixel⟩ := f
      simp only [Flt.val] at HV HWF HG1 HC f0 f1 f2 ⊢
      have hw := HWF.out
      clear HWF
      subst hw
      go_enter Tryd.func33, Tryd.ntmps33
      go_wp2_with (first | (go_at_call 27; refine HV.out.mono ?_; rintro e w1 ⟨rfl, hb1⟩) | (go_at_call 59; refine (HS.out _ hb1).mono ?_; rintro e w2 ⟨rfl, hb2⟩; refine Stop.of ?_))
      refine Stop.go ?_
      have hb12 := chain hb1 hb2
      obtain ⟨_, f0, f1, f2⟩ := HC.out w2 hb12
      go_wp2_with (go_at_call 62; refine (HG1.out _ hb12).mono ?_; rintro e w3 ⟨v, base, rfl, hbase, hown, hb3⟩)
      go_ret2
      obtain ⟨va, vc, rfl, hI⟩ := ints_own hown HN.out
      refine ⟨va, vc, by rw [HE.out.1, HE.out.2, HN.out]; rfl, ?_, chain HB0.out (chain hb12 hb3)⟩
      rw [HE.out.2]; exact hI
end Go.Proofs.YthaampmdponhbaaDoor
