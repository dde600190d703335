/- Walks: shortened, cleared (package part). -/
import Derived.Test.YtfipebkhomppmaaLwA
import Derived.Test.YtfipebkhomppmaaOwnM
import Derived.Test.YtfipebkhomppmaaLinH
import Derived.StillTailTactics
namespace Go.Proofs.Ytfipebkhomppmaa
open Go.RowKit
set_option linter.unusedVariables false

/-- numbers are not greater than B -/
def BndL (B : Nat) (l : List Int) : Prop := ∀ x ∈ l, -(B : Int) ≤ x ∧ x ≤ B
theorem BndL.get {B : Nat} {l : List Int} (h : BndL B l) {k : Nat} (hk : k < l.length) : -(B : Int) ≤ l[k]?.getD 0 ∧ l[k]?.getD 0 ≤ B := by
  rw [List.getElem?_eq_getElem hk]; exact h _ (List.getElem_mem hk)
theorem gcdL_le {B : Nat} {l : List Int} (h : BndL B l) : gcdL l ≤ B := by
  by_cases h0 : gcdL l = 0
  · omega
  · obtain ⟨x, hx, hx0⟩ : ∃ x ∈ l, x ≠ 0 := Classical.byContradiction fun hn => h0 (by
      have hz : ∀ x ∈ l, (0 : Int) ∣ x := fun x hx => by
        have : x = 0 := Classical.byContradiction fun c => hn ⟨x, hx, c⟩
        rw [this]; exact Int.dvd_refl _
      exact Int.zero_dvd.1 (dvd_gcdL hz))
    have h1 := gcdL_dvd hx
    have h2 := h x hx
    have h3 : gcdL l ∣ ((x.natAbs : Nat) : Int) := Int.dvd_natAbs.2 h1
    have := Int.le_of_dvd (by omega) h3
    omega
theorem gcdL_take {l : List Int} {k : Nat} (hk : k < l.length) : gcdL (l.take (k + 1)) = (Int.gcd (gcdL (l.take k)) (l[k]?.getD 0) : Nat) := by
  rw [List.take_succ_eq_append_getElem hk, List.getElem?_eq_getElem hk]
  unfold gcdL
  rw [List.foldl_append]; rfl
theorem BndL.take {B : Nat} {l : List Int} (h : BndL B l) (k : Nat) : BndL B (l.take k) := fun x hx => h x (List.mem_of_mem_take hx)

/-- a list done so far -/
def halfF (f : Int → Int) (l : List Int) (k : Nat) : List Int := (l.take k).map f ++ l.drop k
theorem halfF_zero (f : Int → Int) (l : List Int) : halfF f l 0 = l := by simp [halfF]
theorem halfF_all (f : Int → Int) (l : List Int) : halfF f l l.length = l.map f := by simp [halfF]
theorem halfF_len (f : Int → Int) (l : List Int) (k : Nat) : (halfF f l k).length = l.length := by
  unfold halfF; simp; omega
theorem halfF_at (f : Int → Int) {l : List Int} {k : Nat} (hk : k < l.length) : (halfF f l k)[k]?.getD 0 = l[k]?.getD 0 := by
  unfold halfF
  rw [List.getElem?_append_right (by simp; omega)]
  simp only [List.length_map, List.length_take, List.getElem?_drop]
  congr 2; omega
theorem halfF_set (f : Int → Int) {l : List Int} {k : Nat} (hk : k < l.length) : (halfF f l k).set k (f (l[k]?.getD 0)) = halfF f l (k + 1) := by
  unfold halfF
  have hl : ((l.take k).map f).length = k := by simp; omega
  rw [List.set_append_right _ _ (by omega), hl, Nat.sub_self, List.drop_eq_getElem_cons hk, List.take_succ_eq_append_getElem hk, List.getElem?_eq_getElem hk, List.set_cons_zero, List.map_append]
  simp

theorem tdiv_bnd {x g B : Int} (hg : 1 ≤ g) (h : -B ≤ x ∧ x ≤ B) : -B ≤ x.tdiv g ∧ x.tdiv g ≤ B := by
  have h1 : (x.tdiv g).natAbs ≤ x.natAbs := by rw [Int.natAbs_tdiv]; exact Nat.div_le_self _ _
  omega

set_option maxHeartbeats 1000000 in
theorem shortened_c (w : World) (b n cap : Nat) (l : List Int) (hn : l.length = n) (hm : n ≤ maxLen) (H : SpRow w b l) (hB : BndL 4611686018427387904 l) :
    Calls Try.prog 116 #[.slice (some ⟨b, 0, none⟩) n cap] w fun e w' => e = .returned (.tuple #[]) ∧ SpRow w' b (shortF l) ∧ Keep (fun k => k ≠ b) w w' := by
  have HN := hid hn
  have HH := hid H
  have HBL := hid hB
  have HGT := hid (fun (k : Nat) (hk : k < l.length) => gcdL_take hk)
  have HG0 := hid (fun k => gcdL_nonneg (l.take k))
  have HGL := hid (fun k => gcdL_le (hB.take k))
  clear hn H hB
  unfold maxLen at hm
  go_enter Try.func116, Try.ntmps116
  go_wp2
  go_loopw [2, 8] (fun g i wr => ∃ k : Nat, k ≤ n ∧ i = .int .i64 k ∧ g = .int .i64 (gcdL (l.take k)) ∧ ∃ q, wr = w.drewN q) (fun _ i _ => n - (intOf i).toNat)
  case atStart => exact ⟨0, Nat.zero_le _, rfl, rfl, 0, rfl⟩
  case round =>
    obtain ⟨k, hk, rfl, rfl, q, rfl⟩ := hrel
    by_cases hlt : k < n
    · have hkl : k < l.length := by rw [HN.out]; exact hlt
      have hc := HH.out.cell hkl
      have hbd := HBL.out.get hkl
      have hg1 := HG0.out k
      have hg2 := HGL.out k
      have HE := hid (HGT.out k hkl)
      obtain ⟨x, hx⟩ : ∃ x, x = l[k]?.getD 0 := ⟨_, rfl⟩
      obtain ⟨g, hg⟩ : ∃ g, g = gcdL (l.take k) := ⟨_, rfl⟩
      rw [← hx] at hc hbd HE
      rw [← hg] at hg1 hg2 HE ⊢
      have HD := hid (divisor_c (w.drewN q) g x (by omega) (by omega))
      clear hx hg hbd hg1 hg2 hkl
      go_wp2_with (go_at_call 76; refine HD.out.mono ?_; rintro e w1 ⟨rfl, q1, rfl⟩)
      exact ⟨⟨k + 1, by omega, by go_num, by rw [HE.out], q + q1, rfl⟩, by simp [intOf]; omega⟩
    · obtain rfl : k = n := by omega
      have e : l.take k = l := List.take_of_length_le (by rw [HN.out]; exact Nat.le_refl _)
      rw [e]
      have hg1 := gcdL_nonneg l
      have hg2 := gcdL_le HBL.out
      obtain ⟨g, hg⟩ : ∃ g, g = gcdL l := ⟨_, rfl⟩
      rw [← hg] at hg1 hg2 ⊢
      have HR := hid (show SpRow (w.drewN q) b l from HH.out)
      have HK0 := hid (show Keep (fun k => k ≠ b) w (w.drewN q) from (Keep.refl _ _).drewN q)
      have HGE := hid hg
      clear e hg HG0 HGL HGT
      generalize w.drewN q = w1 at HR HK0 ⊢
      by_cases h1 : 1 < g
      · go_wp2
        go_loopw [18] (fun i wr => ∃ t : Nat, t ≤ k ∧ i = .int .i64 t ∧ SpRow wr b (halfF (fun x => x.tdiv g) l t) ∧ Keep (fun k => k ≠ b) w1 wr) (fun i _ => k - (intOf i).toNat)
        case atStart => exact ⟨0, Nat.zero_le _, rfl, by rw [halfF_zero]; exact HR.out, Keep.refl _ _⟩
        case round =>
          obtain ⟨t, ht, rfl, hr, hkp⟩ := hrel
          by_cases hlt2 : t < k
          · have htl : t < l.length := by rw [HN.out]; exact hlt2
            have hc := hr.cell (j := t) (by rw [halfF_len]; exact htl)
            rw [halfF_at _ htl] at hc
            have hz := hr.frozen t
            have hbd := HBL.out.get htl
            have hst := halfF_set (fun x => x.tdiv g) htl
            have HSET := hid (fun v => hr.set t (by rw [halfF_len]; exact htl) v)
            have hlt3 := hr.lt
            obtain ⟨x, hx⟩ : ∃ x, x = l[t]?.getD 0 := ⟨_, rfl⟩
            rw [← hx] at hc hbd hst
            have htd := tdiv_bnd (show 1 ≤ g by omega) hbd
            have HST := hid hst
            have HW := hid (show IntKind.i64.wrap (x.tdiv g) = x.tdiv g from IntWalk.i64_in _ (by omega))
            have HKP := hid hkp
            clear hx hst hr hkp htl
            go_wp2
            exact ⟨⟨t + 1, by omega, by go_num, by rw [← HST.out]; exact HSET.out _, HKP.out.trans (Keep.set wr b t _)⟩, by simp [intOf]; omega⟩
          · obtain rfl : t = k := by omega
            go_wp2
            go_end0
            refine ⟨rfl, ?_, HK0.out.trans hkp⟩
            rw [← HN.out, halfF_all] at hr
            unfold shortF
            rw [← HGE.out, if_pos h1]; exact hr
      · go_wp2
        go_loopw [18] (fun i wr => ∃ t : Nat, t ≤ k ∧ i = .int .i64 t ∧ SpRow wr b l ∧ Keep (fun k => k ≠ b) w1 wr) (fun i _ => k - (intOf i).toNat)
        case atStart => exact ⟨0, Nat.zero_le _, rfl, HR.out, Keep.refl _ _⟩
        case round =>
          obtain ⟨t, ht, rfl, hr, hkp⟩ := hrel
          by_cases hlt2 : t < k
          · go_wp2
            exact ⟨⟨t + 1, by omega, by go_num, hr, hkp⟩, by simp [intOf]; omega⟩
          · obtain rfl : t = k := by omega
            go_wp2
            go_end0
            refine ⟨rfl, ?_, HK0.out.trans hkp⟩
            unfold shortF
            rw [← HGE.out, if_neg (by omega)]; exact hr

/-- a row being cleared: k numbers so far -/
def mixF (f : Int → Int → Int) (l m : List Int) (k : Nat) : List Int := (List.zipWith f l m).take k ++ l.drop k
theorem mixF_zero (f : Int → Int → Int) (l m : List Int) : mixF f l m 0 = l := by simp [mixF]
theorem mixF_len (f : Int → Int → Int) {l m : List Int} (h : l.length = m.length) (k : Nat) : (mixF f l m k).length = l.length := by
  unfold mixF; simp; omega
theorem mixF_all (f : Int → Int → Int) {l m : List Int} (h : l.length = m.length) : mixF f l m l.length = List.zipWith f l m := by
  unfold mixF
  rw [List.take_of_length_le (by simp; omega)]; simp
theorem mixF_at (f : Int → Int → Int) {l m : List Int} (h : l.length = m.length) {k : Nat} (hk : k < l.length) : (mixF f l m k)[k]?.getD 0 = l[k]?.getD 0 := by
  unfold mixF
  rw [List.getElem?_append_right (by simp; omega)]
  simp only [List.length_take, List.length_zipWith, List.getElem?_drop]
  congr 2; omega
theorem mixF_set (f : Int → Int → Int) {l m : List Int} (h : l.length = m.length) {k : Nat} (hk : k < l.length) : (mixF f l m k).set k (f (l[k]?.getD 0) (m[k]?.getD 0)) = mixF f l m (k + 1) := by
  unfold mixF
  have hl : ((List.zipWith f l m).take k).length = k := by simp; omega
  rw [List.set_append_right _ _ (by omega), hl, Nat.sub_self, List.drop_eq_getElem_cons hk, List.take_succ_eq_append_getElem (by simp; omega), List.getElem?_eq_getElem hk, List.getElem?_eq_getElem (by omega), List.set_cons_zero, List.getElem_zipWith]
  simp

theorem mul_bnd {a b A B : Int} (h1 : -A ≤ a ∧ a ≤ A) (h2 : -B ≤ b ∧ b ≤ B) : -(A * B) ≤ a * b ∧ a * b ≤ A * B := abs_mul_le h1 h2

set_option maxRecDepth 100000 in
set_option maxHeartbeats 1000000 in
theorem cleared_c (w : World) (b n cap b2 cap2 : Nat) (l m : List Int) (hn : l.length = n) (hn2 : m.length = n) (hm : n ≤ maxLen) (H : SpRow w b l) (H2 : SpRow w b2 m) (hne : b ≠ b2) (hB : BndL 1073741824 l) (hB2 : BndL 1073741824 m) (j : Nat) (hj : j < n) (h0 : vec m j ≠ 0) :
    Calls Try.prog 131 #[.slice (some ⟨b, 0, none⟩) n cap, .slice (some ⟨b2, 0, none⟩) n cap2, .int .i64 j] w fun e w' => e = .returned (.tuple #[]) ∧ SpRow w' b (clearF l m j) ∧ Keep (fun k => k ≠ b) w w' := by
  have hlm : l.length = m.length := by omega
  have c1 := H.cell (j := j) (by omega)
  have c2 := H2.cell (j := j) (by omega)
  have hb1 := hB.get (k := j) (by omega)
  have hb2 := hB2.get (k := j) (by omega)
  obtain ⟨x, hx⟩ : ∃ x, x = l[j]?.getD 0 := ⟨_, rfl⟩
  obtain ⟨y, hy⟩ : ∃ y, y = m[j]?.getD 0 := ⟨_, rfl⟩
  have hy0 : y ≠ 0 := by rw [hy]; exact h0
  rw [← hx] at c1 hb1
  rw [← hy] at c2 hb2
  have HX := hid (show vec l j = x from hx.symm)
  have HY := hid (show vec m j = y from hy.symm)
  have HD := hid (fun (W : World) => divisor_c W x y (by omega) (by omega))
  obtain ⟨g, hg⟩ : ∃ g : Int, g = (Int.gcd x y : Nat) := ⟨_, rfl⟩
  have hg0 : 0 < g := by
    rw [hg]
    have : 0 < Int.gcd x y := Int.gcd_pos_of_ne_zero_right _ hy0
    omega
  rw [← hg] at HD
  have HG := hid hg
  have HLM := hid hlm
  have HN := hid hn
  have HH := hid H
  have HH2 := hid H2
  have HBL := hid hB
  have HBL2 := hid hB2
  have HNE := hid hne
  have hj1 : (0 : Int) ≤ (j : Int) := by omega
  have hj2 : (j : Int) < (n : Int) := by omega
  clear hx hy hg hn hn2 H H2 hB hB2 h0 hy0 hlm hne
  unfold maxLen at hm
  go_enter Try.func131, Try.ntmps131
  go_wp2
  go_quiet (fail)
  go_wp2_with (go_at_call 76; refine (HD.out _).mono ?_; rintro e w1 ⟨rfl, q1, rfl⟩)
  have HR := hid (show SpRow (w.drewN (nq + q1)) b l from HH.out)
  have HR2 := hid (show SpRow (w.drewN (nq + q1)) b2 m from HH2.out)
  have HK0 := hid (show Keep (fun k => k ≠ b) w (w.drewN (nq + q1)) from (Keep.refl _ _).drewN _)
  generalize w.drewN (nq + q1) = w1 at HR HR2 HK0 ⊢
  clear HH HH2 HD c1 c2 hj1 hj2
  have ht1 := tdiv_bnd (show 1 ≤ g by omega) hb1
  have ht2 := tdiv_bnd (show 1 ≤ g by omega) hb2
  obtain ⟨F, hF⟩ : ∃ F : Int → Int → Int, F = fun u v => u * y.tdiv g - v * x.tdiv g := ⟨_, rfl⟩
  have HF := hid hF
  have wx : IntKind.i64.wrap (x.tdiv g) = x.tdiv g := IntWalk.i64_in _ (by omega)
  have wy : IntKind.i64.wrap (y.tdiv g) = y.tdiv g := IntWalk.i64_in _ (by omega)
  have HB1 := hid ht1
  have HB2 := hid ht2
  clear hF ht1 ht2 hb1 hb2
  go_wp2
  go_loopw [23] (fun i wr => ∃ t : Nat, t ≤ n ∧ i = .int .i64 t ∧ SpRow wr b (mixF F l m t) ∧ Keep (fun k => k ≠ b) w1 wr) (fun i _ => n - (intOf i).toNat)
  case atStart => exact ⟨0, Nat.zero_le _, rfl, by rw [mixF_zero]; exact HR.out, Keep.refl _ _⟩
  case round =>
    obtain ⟨t, ht, rfl, hr, hkp⟩ := hrel
    by_cases hlt : t < n
    · have htl : t < l.length := by rw [HN.out]; exact hlt
      have htm : t < m.length := by rw [← HLM.out]; exact htl
      have c1 := hr.cell (j := t) (by rw [mixF_len _ HLM.out]; exact htl)
      rw [mixF_at _ HLM.out htl] at c1
      have hr2 : SpRow wr b2 m := HR2.out.keep (hkp.block b2 HR2.out.lt (Ne.symm HNE.out))
      have c2 := hr2.cell htm
      have hz := hr.frozen t
      have hb1 := HBL.out.get htl
      have hb2 := HBL2.out.get htm
      have hst := mixF_set F HLM.out htl
      have HSET := hid (fun (W : World) (hW : W.heap[b]? = wr.heap[b]?) v => (hr.keep hW).set t (by rw [mixF_len _ HLM.out]; exact htl) v)
      have hlt3 := hr.lt
      obtain ⟨u, hu⟩ : ∃ x, x = l[t]?.getD 0 := ⟨_, rfl⟩
      obtain ⟨v, hv⟩ : ∃ x, x = m[t]?.getD 0 := ⟨_, rfl⟩
      rw [← hu] at c1 hb1 hst
      rw [← hv] at c2 hb2 hst
      have p1 := mul_bnd hb1 HB2.out
      have p2 := mul_bnd hb2 HB1.out
      have w1' : IntKind.i64.wrap (u * y.tdiv g) = u * y.tdiv g := IntWalk.i64_in _ (by omega)
      have w2' : IntKind.i64.wrap (v * x.tdiv g) = v * x.tdiv g := IntWalk.i64_in _ (by omega)
      have w3' : IntKind.i64.wrap (u * y.tdiv g - v * x.tdiv g) = u * y.tdiv g - v * x.tdiv g := IntWalk.i64_in _ (by omega)
      have HST := hid (show (mixF F l m t).set t (u * y.tdiv g - v * x.tdiv g) = mixF F l m (t + 1) by rw [← hst, HF.out])
      have HKP := hid hkp
      have ht1 : (0 : Int) ≤ (t : Int) := by omega
      have ht2 : (t : Int) < (n : Int) := by omega
      clear hu hv hst hr hr2 hkp htl htm hb1 hb2 p1 p2
      go_wp2
      have hgz : ¬ (g = 0) := by omega
      go_still_tail 20, (by kernel_rfl)
      change wpList _ _ _ _ _ wr.drew
      go_wp2
      refine ⟨⟨t + 1, by omega, by go_num, ?_, (HKP.out.drewN 1).trans (Keep.set wr.drew b t _)⟩, by simp [intOf]; omega⟩
      rw [← HST.out]
      exact HSET.out wr.drew rfl _
    · obtain rfl : t = n := by omega
      rw [← HN.out, mixF_all _ HLM.out] at hr
      have hzl : (List.zipWith F l m).length = t := by simp; have := HLM.out; have := HN.out; omega
      have hbz : BndL 4611686018427387904 (List.zipWith F l m) := by
        intro z hz
        obtain ⟨i, hi, rfl⟩ := List.mem_iff_getElem.1 hz
        have hil : i < l.length := by have := HN.out; omega
        have him : i < m.length := by have := HLM.out; omega
        have hb1 := HBL.out _ (List.getElem_mem hil)
        have hb2 := HBL2.out _ (List.getElem_mem him)
        have hFe : F l[i] m[i] = l[i] * y.tdiv g - m[i] * x.tdiv g := by have := HF.out; rw [this]
        have p1 := mul_bnd hb1 HB2.out
        have p2 := mul_bnd hb2 HB1.out
        rw [List.getElem_zipWith, hFe]
        omega
      have HS := hid (shortened_c wr b t cap (List.zipWith F l m) hzl (by unfold maxLen; omega) hr hbz)
      have HKP := hid hkp
      clear hr hzl hbz hkp
      go_wp2_with (go_at_call 116; refine HS.out.mono ?_; rintro e w3 ⟨rfl, hs3, hk3⟩)
      go_end0
      refine ⟨rfl, ?_, (HK0.out.trans HKP.out).trans hk3⟩
      have e : clearF l m j = shortF (List.zipWith F l m) := by
        unfold clearF
        simp only []
        rw [HX.out, HY.out, ← HG.out, ← HF.out]
      rw [e]; exact hs3
end Go.Proofs.Ytfipebkhomppmaa
