/- Walks: Chosen for any width; Reduce of no columns; Named, Pixels, Check (package part), Independent (package lin). · Walks: Named, Pixels (package part), Independent (package lin). · Walks: Ascending (reference 02), Named, Free, Independent, reading (reference 03); Check (package part). -/
import Derived.Test.YtfipebkhomppmaaLwAD
namespace Go.Proofs.Ytfipebkhomppmaa
section
open Go.RowKit
set_option linter.unusedVariables false

set_option maxRecDepth 100000 in
set_option maxHeartbeats 4000000 in
theorem chosenT_c (w : World) (a : Option Addr) (n cap : Nat) (M : List (List Int)) (hn : M.length = n) (hn6 : n ≤ 1000) (H : RowsAt w a M) (a2 : Option Addr) (k2 cap2 : Nat) (S : List Int) (hk2 : S.length = k2) (hk21 : k2 ≤ 1000) (H2 : IntsAt w a2 S)
    (hS : ∀ r ∈ M, ∀ j ∈ S, 0 ≤ j ∧ j < r.length) (g : Nat) (lb : Array Value) (eg : ∀ args w, (callFunc g args).run Try.prog w = .ok (.enter g args) w) (mo : Nat → List Int) (hmo : MoreP Try.prog g lb w n mo) (hml : ∀ i, i < n → (mo i).length ≤ 1000) :
    Calls Try.prog 79 #[.slice a n cap, .slice a2 k2 cap2, .func (.func g) #[] lb] w fun e w' => ∃ v, e = .returned v ∧ TabS w' w.heap.size v (chosenF M S mo) ∧ Below w.heap.size w w' := by
  have HN := hid hn
  have HH := hid H
  have HK2 := hid hk2
  have HH2 := hid H2
  have HS := hid hS
  have HMO := hid hmo
  have HML := hid hml
  have HCT := hid (fun (k : Nat) (hk : k < M.length) => chosenF_take (M := M) (S := S) (mo := mo) hk)
  have HCL := hid (chosenF_len M S mo)
  obtain ⟨C, hC⟩ : ∃ C, C = chosenF M S mo := ⟨_, rfl⟩
  rw [← hC] at HCT HCL ⊢
  clear hn H hk2 H2 hS hmo hml hC
  go_enter Try.func79, Try.ntmps79
  go_wp2
  go_loopw [7, 15] (fun v i wr => ∃ k : Nat, k ≤ n ∧ i = .int .i64 k ∧ TabS wr w.heap.size v (C.take k) ∧ Below w.heap.size w wr) (fun _ i _ => n - (intOf i).toNat)
  case atStart => exact ⟨0, Nat.zero_le _, rfl, TabS.nil _ _, Below.refl _ _⟩
  case round =>
    obtain ⟨k, hk, rfl, ho, hbk⟩ := hrel
    obtain ⟨wo, hwo⟩ : ∃ wo, wo = wr := ⟨_, rfl⟩
    subst hwo
    by_cases hlt : k < n
    · have hkM : k < M.length := by rw [HN.out]; exact hlt
      obtain ⟨b, off, ra, rn, rc, rfl, hbs, hq0, hrn, hrm, hri⟩ := (HH.out.below hbk) k hkM
      have htk := HCT.out k hkM
      have hsr := HS.out M[k] (List.getElem_mem hkM)
      obtain ⟨r, hr⟩ : ∃ r, r = M[k] := ⟨_, rfl⟩
      rw [← hr] at htk hsr hrn hri
      have hlen : (C.take k).length = k := by rw [List.length_take, HCL.out]; omega
      have HL := hid hlen
      have HTK := hid htk
      have HSR := hid hsr
      have HRN := hid hrn
      have HRI := hid hri
      have HO := hid ho
      have HBK := hid hbk
      obtain ⟨va, vc, hv⟩ : ∃ va vc, u7 = .slice va k vc := by
        obtain ⟨_, ho1, _⟩ := ho
        obtain ⟨a', c', e⟩ := ownsRow_slice ho1
        exact ⟨a', c', by rw [e, hlen]⟩
      subst hv
      clear hr htk hsr hrn hri hkM ho hlen
      go_wp2
      go_loopw [10, 22] (fun v i wr => ∃ t : Nat, t ≤ k2 ∧ i = .int .i64 t ∧ wr.ownsRow wo.heap.size 3 1 v t (((S.take t).map (fun j => vec r j.toNat)).map (Value.int .i64)) ∧ Below wo.heap.size wo wr) (fun _ i _ => k2 - (intOf i).toNat)
      case atStart => exact ⟨0, Nat.zero_le _, rfl, World.ownsRow_nil _ _ _ _, Below.refl _ _⟩
      case round =>
        obtain ⟨t, ht, rfl, hown, hbt⟩ := hrel
        by_cases hlt2 : t < k2
        · have htS : t < S.length := by rw [HK2.out]; exact hlt2
          obtain ⟨b2, off2, rfl, hbs2, hc2⟩ := (HH2.out.below (chain HBK.out hbt)) t htS
          have hpp := HSR.out S[t] (List.getElem_mem htS)
          have hg2 : S[t]?.getD 0 = S[t] := by rw [List.getElem?_eq_getElem htS]; rfl
          rw [hg2] at hc2
          have htk2 : (S.take (t + 1)).map (fun j => vec r j.toNat) = (S.take t).map (fun j => vec r j.toNat) ++ [vec r (S[t]).toNat] := by
            rw [List.take_succ_eq_append_getElem htS, List.map_append]; rfl
          obtain ⟨q, hq⟩ : ∃ q : Nat, S[t] = q := ⟨(S[t]).toNat, by omega⟩
          rw [hq] at hc2 hpp htk2
          rw [show ((q : Int)).toNat = q by omega] at htk2
          have hqr : q < r.length := by omega
          obtain ⟨b3, off3, rfl, hbs3, hc3⟩ := (HRI.out.below hbt) q hqr
          have hqn : (q : Int) < (rn : Int) := by have := HRN.out; omega
          have hq0' : (0 : Int) ≤ (q : Int) := by omega
          obtain ⟨x, hx⟩ : ∃ x, x = r[q]?.getD 0 := ⟨_, rfl⟩
          have hxv : vec r q = x := hx.symm
          rw [← hx] at hc3
          rw [hxv] at htk2
          obtain ⟨la, lc, rfl⟩ := ownsRow_slice hown
          have HTK2 := hid htk2
          have HOW := hid hown
          have M1 := hid (show t + 1 ≤ maxLen by unfold maxLen; omega)
          have M2 := hid (show (t + 1) * 8 ≤ 140737488355328 by omega)
          have M3 := hid (Nat.le_trans hbt.size (le_alloc wr (.cells #[.int .i64 x] 3)))
          clear hpp hg2 htk2 hq hx hxv hown htS hqr
          go_wp2_with (at_builtin; refine wpList_app _ rfl (.tmp 26) (.tmp 31) 31 rfl wo.heap.size 3 (.int .i64 0) 1 8 Try.underlying31 li_int rfl Nat.one_pos (.slice la t lc) t _ rfl (HOW.out.alloc _) (some ⟨wr.heap.size, 0, none⟩) 1 1 [.int .i64 x] rfl rfl no_none (one_news wr _ _) (li_one _) M1.out M2.out M3.out ?_; refine Stop.of ?_)
          refine Stop.go ?_
          intro a3 c3 w3 own3 g3
          have hB3 : Below wo.heap.size wo w3 := (hbt.alloc hbt.size _).grown g3 M3.out (fun k hk => (HOW.out.lt k hk).1)
          go_wp2
          refine ⟨⟨t + 1, by omega, by go_num, ?_, hB3⟩, by simp [intOf]; omega⟩
          rw [HTK2.out]
          simpa using own3
        · obtain rfl : t = k2 := by omega
          rw [List.take_of_length_le (by rw [HK2.out]; exact Nat.le_refl _)] at hown
          obtain ⟨la, lc, rfl⟩ := ownsRow_slice hown
          have HMK := hid (HMO.out k wr hlt (chain HBK.out hbt))
          have HOW := hid hown
          have hml := HML.out k hlt
          obtain ⟨m, hm⟩ : ∃ m, m = mo k := ⟨_, rfl⟩
          rw [← hm] at hml HMK HTK
          obtain ⟨ml, hmle⟩ : ∃ ml, ml = m.length := ⟨_, rfl⟩
          rw [← hmle] at hml HMK
          have HME := hid hmle
          clear hown hm hmle
          go_wp2_with (refine HMK.out.mono ?_; rintro e w2 ⟨ma, mc, rfl, hmi, hb2⟩; refine Stop.of ?_)
          refine Stop.go ?_
          have HO2 := hid (own_below HOW.out hb2)
          have HMI := hid hmi
          have HB2 := hid (chain hbt hb2)
          have N1 := hid (show t + ml ≤ maxLen by unfold maxLen; omega)
          have N2 := hid (show (t + ml) * 8 ≤ 140737488355328 by omega)
          have N3 := hid (show wo.heap.size ≤ w2.heap.size from HB2.out.size)
          have N4 := hid (show (m.map (Value.int .i64)).length = ml * 1 by rw [List.length_map, HME.out]; omega)
          have N5 := hid (show ma = none → ml = 0 from fun h => by rw [HME.out]; exact ints_none hmi h)
          have N6 := hid (ints_news hmi)
          clear hmi hb2 hbt
          go_wp2_with (at_builtin; refine wpList_app _ rfl (.tmp 35) (.tmp 38) 31 rfl wo.heap.size 3 (.int .i64 0) 1 8 Try.underlying31 li_int rfl Nat.one_pos (.slice la t lc) t _ rfl HO2.out ma ml mc (m.map (Value.int .i64)) rfl N4.out N5.out N6.out (ints_one _) N1.out N2.out N3.out ?_; refine Stop.of ?_)
          refine Stop.go ?_
          intro a3 c3 w3 own3 g3
          have hB3 : Below wo.heap.size wo w3 := HB2.out.grown g3 N3.out (fun k hk => (HO2.out.lt k hk).1)
          rw [← List.map_map, ← List.map_append] at own3
          obtain ⟨X, hX⟩ : ∃ X, X = S.map (fun j => vec r j.toNat) ++ m := ⟨_, rfl⟩
          rw [← hX] at own3 HTK
          have hXl : X.length = t + ml := by rw [hX, List.length_append, List.length_map, HK2.out, HME.out]
          have hsr := rowS_own own3 hXl
          have HXL := hid hXl
          obtain ⟨vs, ho0, he⟩ := HO.out
          have HO0 := hid ho0
          have ho := ho0
          rw [HL.out] at ho
          have hb2a : Below wo.heap.size wo (w3.alloc (.cells #[.slice a3 (t + ml) c3] 31)) := hB3.alloc hB3.size _
          have M1 := hid (show k + 1 ≤ maxLen by unfold maxLen; omega)
          have M2 := hid (show (k + 1) * 24 ≤ 140737488355328 by omega)
          have M3 := hid (Nat.le_trans HBK.out.size hb2a.size)
          have HO2' := hid (own_below ho hb2a)
          have HE := hid he
          have HSR2 := hid (hsr.below ((Below.refl _ w3).alloc (Nat.le_refl _) (.cells #[.slice a3 (t + ml) c3] 31)))
          have HB2' := hid hb2a
          have HOO := hid ho
          clear he hsr hb2a ho ho0 own3 hX hXl hml hB3 g3
          go_wp2_with (at_builtin; refine wpList_app _ rfl (.tmp 34) (.tmp 40) 22 rfl w.heap.size 31 (.slice none 0 0) 1 24 Try.underlying22 li_ints rfl Nat.one_pos (.slice va k vc) k vs rfl HO2'.out (some ⟨w3.heap.size, 0, none⟩) 1 1 [.slice a3 (t + ml) c3] rfl rfl no_none (one_news w3 _ _) (slice_oneCell _ _ _) M1.out M2.out M3.out ?_; refine Stop.of ?_)
          refine Stop.go ?_
          intro a5 c5 w5 own5 g5
          have hsn : TabS w5 w.heap.size (.slice a5 (k + 1) c5) (C.take k ++ [X]) := TabS.snoc HO0.out HE.out HB2'.out HSR2.out g5 (by rw [HL.out]; exact own5)
          have hB5 : Below w.heap.size w w5 := (HBK.out.trans (HB2'.out.mono HBK.out.size)).grown g5 M3.out (fun q hq => (HO2'.out.lt q hq).1)
          rw [← HTK.out] at hsn
          go_wp2
          exact ⟨⟨k + 1, by omega, by go_num, hsn, hB5⟩, by simp [intOf]; omega⟩
    · obtain rfl : k = n := by omega
      rw [List.take_of_length_le (by rw [HCL.out, HN.out]; exact Nat.le_refl _)] at ho
      go_wp2
      go_ret
      exact ⟨_, rfl, ho, hbk⟩

theorem reduce0_c (w : World) (v : Value) : Calls Try.prog 78 #[v, .int .i64 0] w fun e w' => e = .returned (.slice none 0 0) ∧ w = w' := by
  go_enter Try.func78, Try.ntmps78
  go_wp2
  go_loop [5, 13] (fun v i => v = .slice none 0 0 ∧ i = .int .i64 0) (fun _ i => 0)
  case atStart => exact ⟨rfl, rfl⟩
  case round =>
    obtain ⟨rfl, rfl⟩ := hrel
    go_wp2
    go_ret
    exact ⟨rfl, rfl⟩
end

section
open Go.RowKit
set_option linter.unusedVariables false

/-- strictly ascending -/
def ascB (l : List Int) : Bool := decide (∀ i, i < l.length - 1 → l[i]?.getD 0 < l[i + 1]?.getD 0)
def namedE (W : Nat) (l : List Int) : Int := if ascB l = true then (if l.all (fun p => inB p 0 ((W : Int) - 1)) = true then 0 else 5) else 7
def pixE (M : Mask) (l : List Int) : Int := if okM M = true then namedE (colsM M) l else 1
theorem asc_pair {l : List Int} (h : ascB l = true) : l.Pairwise (· < ·) := by
  have h1 : ∀ i, i < l.length - 1 → l[i]?.getD 0 < l[i + 1]?.getD 0 := of_decide_eq_true h
  have h2 : ∀ d i, i + d + 1 < l.length → l[i]?.getD 0 < l[i + d + 1]?.getD 0 := by
    intro d
    induction d with
    | zero => intro i hi; exact h1 i (by omega)
    | succ d ih => intro i hi; exact Int.lt_trans (ih i (by omega)) (h1 (i + d + 1) (by omega))
  rw [List.pairwise_iff_getElem]
  intro i j hi hj hij
  have := h2 (j - i - 1) i (by omega)
  rw [show i + (j - i - 1) + 1 = j by omega, List.getElem?_eq_getElem hi, List.getElem?_eq_getElem hj] at this
  exact this
theorem pair_asc {l : List Int} (h : l.Pairwise (· < ·)) : ascB l = true := by
  refine decide_eq_true fun i hi => ?_
  rw [List.getElem?_eq_getElem (by omega), List.getElem?_eq_getElem (by omega)]
  exact List.pairwise_iff_getElem.1 h i (i + 1) (by omega) (by omega) (by omega)
theorem asc_no {l : List Int} {k : Nat} (hk : k + 1 < l.length) (h : ¬ l[k]?.getD 0 < l[k + 1]?.getD 0) : ascB l = false := decide_eq_false fun h1 => h (h1 k (by omega))
theorem asc_yes {l : List Int} (h : ∀ i, i + 1 < l.length → l[i]?.getD 0 < l[i + 1]?.getD 0) : ascB l = true := decide_eq_true fun i hi => h i (by omega)
theorem named_ok {W : Nat} {l : List Int} (h : namedE W l = 0) : SetOk W l := by
  unfold namedE at h
  split at h
  · rename_i h1
    split at h
    · rename_i h2
      refine ⟨asc_pair h1, fun y hy => ?_⟩
      have := List.all_eq_true.1 h2 y hy
      unfold inB at this
      simp only [Bool.and_eq_true, decide_eq_true_eq] at this
      omega
    · omega
  · omega

theorem named1 (w : World) (b : Nat) (m : Int) (hm : 0 ≤ m ∧ m ≤ 1000000000) (hc : w.cell? ⟨b, 0, none⟩ = some (.int .i64 m)) (hb : b < w.heap.size) :
    PredI Try.prog 154 #[.pointer (some ⟨b, 0, none⟩)] w (fun n => !(inB n 0 (m - 1))) := by
  intro x W hW
  have hc' : W.cell? ⟨b, 0, none⟩ = some (.int .i64 m) := (hW.cell (p := ⟨b, 0, none⟩) hb).trans hc
  obtain ⟨z, hz⟩ : ∃ z, z = m - 1 := ⟨_, rfl⟩
  have hw : IntKind.i64.wrap (m - 1) = z := by rw [hz]; exact IntWalk.i64_in _ (by omega)
  rw [← hz]
  obtain ⟨B, hB⟩ : ∃ B, B = inB x 0 z := ⟨_, rfl⟩
  have HP := hid (pwithin_c x 0 z W)
  rw [← hB] at HP
  simp only [← hB]
  clear hB hc hz
  show Calls Try.prog 154 #[.int .i64 x, .pointer (some ⟨b, 0, none⟩)] W _
  go_enter Try.func154, Try.ntmps154
  go_wp2_with (go_at_call 128; refine HP.out.mono ?_; rintro e w1 ⟨rfl, rfl⟩)
  go_ret
  exact ⟨rfl, Below.refl _ _⟩

set_option maxHeartbeats 1000000 in
theorem named_c (w : World) (W : Nat) (hW : W ≤ 1000) (a : Option Addr) (n cap : Nat) (l : List Int) (hn : l.length = n) (hm : n ≤ maxLen) (H : IntsAt w a l) :
    Calls Try.prog 133 #[.int .i64 W, .slice a n cap] w fun e w' => e = .returned (.int .i64 (namedE W l)) ∧ Below w.heap.size w w' := by
  have HN := hid hn
  have HH := hid (fun (X : World) (hX : Below w.heap.size w X) => H.below hX)
  obtain ⟨E, hE⟩ : ∃ E, E = namedE W l := ⟨_, rfl⟩
  rw [← hE]
  have HE := hid hE
  clear hn H hE
  have hm' : n ≤ 9223372036854775807 := by unfold maxLen at hm; omega
  go_enter Try.func133, Try.ntmps133
  obtain ⟨w1, hw1⟩ : ∃ w1, w1 = w.alloc (.cells #[.int .i64 W] 3) := ⟨_, rfl⟩
  have hb1 : Below w.heap.size w w1 := by rw [hw1]; exact (Below.refl _ _).alloc (Nat.le_refl _) _
  have hc1 : w1.cell? ⟨w.heap.size, 0, none⟩ = some (.int .i64 W) := by rw [hw1, World.cell?_alloc_at _ _ _ _ rfl]; rfl
  have hs1 : w.heap.size < w1.heap.size := by rw [hw1]; simp
  have HB1 := hid hb1
  have HC1 := hid hc1
  have HW1 := hid hw1
  clear hb1 hc1 hw1
  go_wp2
  try rw [← HW1.out]
  go_loopw [9] (fun i wr => ∃ k : Nat, k ≤ n ∧ i = .int .i64 k ∧ wr = w1 ∧ Hid (∀ i, i + 1 < k → l[i]?.getD 0 < l[i + 1]?.getD 0)) (fun i _ => n - (intOf i).toNat)
  case atStart => exact ⟨0, Nat.zero_le _, rfl, by first | exact HW1.out.symm | rfl, hid (fun i h => by omega)⟩
  case round =>
    obtain ⟨k, hk, rfl, rfl, HNO⟩ := hrel
    by_cases hlt : k < n
    · have hkl : k < l.length := by rw [HN.out]; exact hlt
      obtain ⟨b, off, rfl, hbs, hc⟩ := (HH.out wr HB1.out) k hkl
      rcases Nat.eq_zero_or_pos k with h0 | h0
      · subst h0
        obtain ⟨x, hx⟩ : ∃ x, x = l[0]?.getD 0 := ⟨_, rfl⟩
        rw [← hx, Nat.add_zero] at hc
        clear hx hkl
        go_wp2
        exact ⟨⟨1, by omega, by go_num, by first | trivial | rfl, hid (fun i h => by omega)⟩, by simp [intOf]; omega⟩
      · obtain ⟨p, rfl⟩ : ∃ p, k = p + 1 := ⟨k - 1, by omega⟩
        obtain ⟨b', off', e', _, hc2⟩ := (HH.out wr HB1.out) p (by omega)
        cases e'
        have hpi : ((p + 1 : Nat) : Int) - 1 = (p : Int) := by omega
        have hpn : (p : Int) < (n : Int) := by omega
        have hpp : (0 : Int) < ((p + 1 : Nat) : Int) := by omega
        have HNO2 := hid (fun (h : ¬ l[p]?.getD 0 < l[p + 1]?.getD 0) => asc_no (by rw [HN.out]; exact hlt) h)
        have HNX := hid (fun (h : l[p]?.getD 0 < l[p + 1]?.getD 0) => (show ∀ i, i + 1 < p + 1 + 1 → l[i]?.getD 0 < l[i + 1]?.getD 0 from fun i hi => by
          rcases Nat.lt_or_ge i p with h1 | h1
          · exact HNO.out i (by omega)
          · have : i = p := by omega
            subst this; exact h))
        obtain ⟨x, hx⟩ : ∃ x, x = l[p + 1]?.getD 0 := ⟨_, rfl⟩
        obtain ⟨y, hy⟩ : ∃ x, x = l[p]?.getD 0 := ⟨_, rfl⟩
        rw [← hx] at hc HNO2 HNX
        rw [← hy] at hc2 HNO2 HNX
        clear hx hy hkl
        by_cases hle : x ≤ y
        · have HA := hid (HNO2.out (by omega))
          obtain rfl : E = 7 := by rw [HE.out]; unfold namedE; rw [HA.out]; rfl
          go_wp2
          go_ret
          exact ⟨rfl, HB1.out⟩
        · have HX := hid (HNX.out (by omega))
          go_wp2
          exact ⟨⟨p + 1 + 1, by omega, by go_num, by first | trivial | rfl, HX⟩, by simp [intOf]; omega⟩
    · obtain rfl : n = k := by omega
      have HA := hid (asc_yes (l := l) (fun i hi => HNO.out i (by rw [← HN.out]; exact hi)))
      have HCF := hid (containsI wr a n cap l HN.out hm (HH.out wr HB1.out) 154 #[.pointer (some ⟨w.heap.size, 0, none⟩)] (fun p => !(inB p 0 ((W : Int) - 1))) (enters_of Try.func154 (by kernel_rfl) rfl) (named1 wr w.heap.size W (by omega) HC1.out hs1))
      have hany : l.any (fun p => !(inB p 0 ((W : Int) - 1))) = !(l.all (fun p => inB p 0 ((W : Int) - 1))) := by rw [List.not_all_eq_any_not]
      rw [hany] at HCF
      have hee := HE.out
      unfold namedE at hee
      rw [if_pos HA.out] at hee
      clear hany HNO
      cases hall : l.all (fun p => inB p 0 ((W : Int) - 1))
      · rw [hall] at HCF hee
        obtain rfl : E = 5 := hee
        clear hall
        go_wp2_with (go_at_call 71; refine HCF.out.mono ?_; rintro e w3 ⟨rfl, hb3⟩)
        go_ret
        exact ⟨rfl, chain HB1.out hb3⟩
      · rw [hall] at HCF hee
        obtain rfl : E = 0 := hee
        clear hall
        go_wp2_with (go_at_call 71; refine HCF.out.mono ?_; rintro e w3 ⟨rfl, hb3⟩)
        go_ret
        exact ⟨rfl, chain HB1.out hb3⟩

theorem pixels_c (w : World) (a a2 : Option Addr) (n cap n2 cap2 : Nat) (M : Mask) (l : List Int) (hn : M.length = n) (hn2 : l.length = n2) (hm : n ≤ maxLen) (hm2 : n2 ≤ maxLen) (H : RowsAt w a M) (H2 : IntsAt w a2 l) :
    Calls Try.prog 84 #[.slice a n cap, .slice a2 n2 cap2] w fun e w' => e = .returned (.int .i64 (pixE M l)) ∧ Below w.heap.size w w' := by
  have HV := hid (maskValid_c w a n cap M hn hm H)
  cases hok : okM M
  · rw [hok] at HV
    have he : pixE M l = 1 := by unfold pixE; rw [hok]; rfl
    rw [he]
    clear hn hn2 H H2 hok he
    go_enter Try.func84, Try.ntmps84
    go_wp2_with (go_at_call 69; refine HV.out.mono ?_; rintro e w1 ⟨rfl, hb1⟩)
    go_ret
    exact ⟨rfl, hb1⟩
  · rw [hok] at HV
    have he : pixE M l = namedE (colsM M) l := by unfold pixE; rw [if_pos hok]
    rw [he]
    obtain ⟨hM, h1, h6, hc1, hc10⟩ := okM_ok hok
    obtain ⟨b, off, ra, rc, rfl, hb, hc⟩ := rows_head H (by omega)
    have hz : (0 : Int) < (n : Int) := by omega
    obtain ⟨W, hW⟩ : ∃ W, W = colsM M := ⟨_, rfl⟩
    rw [← hW] at hc hc1 hc10 ⊢
    have HS := hid (fun (X : World) (hX : Below w.heap.size w X) => (hX.cell (p := ⟨b, off, none⟩) hb).trans hc)
    have HNM := hid (fun (X : World) (hX : Below w.heap.size w X) => named_c X W (by omega) a2 n2 cap2 l hn2 hm2 (H2.below hX))
    obtain ⟨E, hE⟩ : ∃ E, E = namedE W l := ⟨_, rfl⟩
    rw [← hE] at HNM ⊢
    clear hn hn2 H H2 hok he hM hW hE hc hb
    go_enter Try.func84, Try.ntmps84
    go_wp2_with (go_at_call 69; refine HV.out.mono ?_; rintro e w1 ⟨rfl, hb1⟩; refine Stop.of ?_)
    refine Stop.go ?_
    have hc1' := HS.out w1 hb1
    have HB1 := hid hb1
    clear hb1
    go_wp2_with (go_at_call 133; refine (HNM.out w1 HB1.out).mono ?_; rintro e w2 ⟨rfl, hb2⟩)
    go_ret
    exact ⟨rfl, chain HB1.out hb2⟩

/-- whether some columns are independent, and the error -/
def indepV (M : Mask) (l : List Int) : Bool × Int := if pixE M l = 0 then (decide (rankF (colsF M l) l.length = l.length), 0) else (false, pixE M l)
theorem pix_ok {M : Mask} {l : List Int} (h : pixE M l = 0) : okM M = true ∧ SetOk (colsM M) l := by
  unfold pixE at h
  split at h
  · rename_i h1; exact ⟨h1, named_ok h⟩
  · omega
theorem set_le {W : Nat} {l : List Int} (h : SetOk W l) : l.length ≤ W := by
  have h1 : (l.map Int.toNat).Pairwise (· < ·) := by
    rw [List.pairwise_map]
    refine h.1.imp_of_mem fun {a b} ha hb hab => ?_
    have := h.2 a ha
    have := h.2 b hb
    omega
  have := asc_le (a := 0) (b := W) h1 (fun x hx => by
    obtain ⟨y, hy, rfl⟩ := List.mem_map.1 hx
    have := h.2 y hy
    omega)
  rw [List.length_map] at this
  omega

set_option maxHeartbeats 1000000 in
theorem independent_c (w : World) (a a2 : Option Addr) (n cap n2 cap2 : Nat) (M : Mask) (l : List Int) (hn : M.length = n) (hn2 : l.length = n2) (hm : n ≤ maxLen) (hm2 : n2 ≤ maxLen) (H : RowsAt w a M) (H2 : IntsAt w a2 l) :
    Calls Try.prog 34 #[.slice a n cap, .slice a2 n2 cap2] w fun e w' => e = .returned (.tuple #[.bool (indepV M l).1, .int .i64 (indepV M l).2]) ∧ Below w.heap.size w w' := by
  have HP := hid (pixels_c w a a2 n cap n2 cap2 M l hn hn2 hm hm2 H H2)
  by_cases hp : pixE M l = 0
  · have he : indepV M l = (decide (rankF (colsF M l) l.length = l.length), 0) := by unfold indepV; rw [if_pos hp]
    rw [he]
    simp only []
    rw [hp] at HP
    obtain ⟨hok, hso⟩ := pix_ok hp
    obtain ⟨hM, h1, h6, hc1, hc10⟩ := okM_ok hok
    have hl10 := set_le hso
    have hn6 : n ≤ 6 := by omega
    have hS : ∀ r ∈ M, ∀ j ∈ l, 0 ≤ j ∧ j < r.length := fun r hr j hj => by rw [hM.wid r hr]; exact hso.2 j hj
    rcases Nat.eq_zero_or_pos n2 with h0 | h0
    · subst h0
      obtain rfl : l = [] := List.length_eq_zero_iff.1 hn2
      have HCh := hid (fun (X : World) (hX : Below w.heap.size w X) => chosenT_c X a n cap M hn (by omega) (H.below hX) a2 0 cap2 [] rfl (by omega) (H2.below hX) hS 80 #[] (enters_of Try.func80 (by kernel_rfl) rfl) (fun _ => []) (none_more X n) (fun i _ => by simp))
      have hd : decide (rankF (colsF M []) ([] : List Int).length = ([] : List Int).length) = true := rfl
      rw [hd]
      clear hn hn2 H H2 hp he hok hso hM hS hd
      go_enter Try.func34, Try.ntmps34
      go_wp2_with (go_at_call 84; refine HP.out.mono ?_; rintro e w1 ⟨rfl, hb1⟩; refine Stop.of ?_)
      refine Stop.go ?_
      go_wp2_with (go_at_call 79; refine (HCh.out w1 hb1).mono ?_; rintro e w2 ⟨v, rfl, _, hb2⟩; refine Stop.of ?_)
      refine Stop.go ?_
      go_wp2_with (go_at_call 78; refine (reduce0_c _ _).mono ?_; rintro e w3 ⟨rfl, rfl⟩)
      go_ret2
      exact ⟨rfl, chain hb1 hb2⟩
    · have HCh := hid (fun (X : World) (hX : Below w.heap.size w X) => chosen_c X a n cap M hn (by omega) (H.below hX) a2 n2 cap2 l hn2 (by omega) (H2.below hX) hS 80 #[] (enters_of Try.func80 (by kernel_rfl) rfl) (fun _ => []) (none_more X n) (fun i _ => ⟨by simp, by simp; omega⟩))
      rw [chosenF_none] at HCh
      have hC : MaskOk (colsF M l) n2 := by rw [← hn2]; exact hM.cols l
      have hCl : (colsF M l).length = n := by rw [colsF_len, hn]
      have HRd := hid (fun (W1 : World) (base : Nat) (v0 : Value) (hO : OwnT W1 base W1.heap.size v0 (colsF M l)) (hb : base ≤ W1.heap.size) => reduce_c W1 base v0 (colsF M l) n2 hO hb hC.wid (by omega) (by omega) (by omega) n2 (Nat.le_refl _) (fun t ht r hr => ⟨(hC.bnd ht r hr).1, fun x hx => by have := (hC.bnd ht r hr).2 x hx; omega⟩))
      rw [hn2]
      have hrk : (pRed (colsF M l) n2).2.length = rankF (colsF M l) n2 := rfl
      have hrle : rankF (colsF M l) n2 ≤ 6 := Nat.le_trans (rank_le hC) (by omega)
      obtain ⟨rk, hrk2⟩ : ∃ rk, rk = rankF (colsF M l) n2 := ⟨_, rfl⟩
      rw [← hrk2] at hrk hrle ⊢
      rw [hrk] at HRd
      have hdd : decide (rk = n2) = ((rk : Int) == (n2 : Int)) := by
        by_cases h : rk = n2
        · simp [h]
        · rw [decide_eq_false h]; symm; simp; omega
      rw [hdd]
      obtain ⟨B, hB⟩ : ∃ B, B = ((rk : Int) == (n2 : Int)) := ⟨_, rfl⟩
      have HB := hid hB
      rw [← hB]
      clear hn hn2 H H2 hp he hok hso hM hS hC hCl hrk hrk2 hdd hB
      go_enter Try.func34, Try.ntmps34
      go_wp2_with (go_at_call 84; refine HP.out.mono ?_; rintro e w1 ⟨rfl, hb1⟩; refine Stop.of ?_)
      refine Stop.go ?_
      go_wp2_with (go_at_call 79; refine (HCh.out w1 hb1).mono ?_; rintro e w2 ⟨v, rfl, hO2, hb2⟩; refine Stop.of ?_)
      refine Stop.go ?_
      have HR2 := hid (HRd.out w2 w1.heap.size v (OwnT.of hO2) hb2.size)
      clear hO2
      go_wp2_with (go_at_call 78; refine HR2.out.mono ?_; rintro e w3 ⟨vJ, rfl, hJo, hT3, hb3⟩; refine Stop.of ?_)
      refine Stop.go ?_
      obtain ⟨ja, jc, rfl⟩ := ownsRow_slice hJo
      have hbf : Below w.heap.size w w3 := chain hb1 (hb2.trans hb3)
      clear hJo hT3 hb3
      go_wp2
      go_ret2
      exact ⟨by rw [HB.out]; rfl, hbf⟩
  · have he : indepV M l = (false, pixE M l) := by unfold indepV; rw [if_neg hp]
    rw [he]
    simp only []
    obtain ⟨E, hE⟩ : ∃ E, E = pixE M l := ⟨_, rfl⟩
    rw [← hE] at HP hp ⊢
    have hpb : (E != 0) = true := by simpa using hp
    clear hn hn2 H H2 he hE
    go_enter Try.func34, Try.ntmps34
    go_wp2_with (go_at_call 84; refine HP.out.mono ?_; rintro e w1 ⟨rfl, hb1⟩)
    go_ret2
    exact ⟨rfl, hb1⟩
end

section
open Go.RowKit
set_option linter.unusedVariables false

theorem r2Ascending_c (w : World) (a : Option Addr) (n cap : Nat) (l : List Int) (hn : l.length = n) (hm : n ≤ maxLen) (H : IntsAt w a l) :
    Calls Try.prog 137 #[.slice a n cap] w fun e w' => e = .returned (.bool (ascB l)) ∧ ∃ k, w' = w.drewN k := by
  have HN := hid hn
  have HH := hid H
  obtain ⟨E, hE⟩ : ∃ E, E = ascB l := ⟨_, rfl⟩
  rw [← hE]
  have HE := hid hE
  clear hn H hE
  have hm' : n ≤ 9223372036854775807 := by unfold maxLen at hm; omega
  go_enter Try.func137, Try.ntmps137
  go_wp2
  go_loopw [3] (fun i wr => ∃ k : Nat, 1 ≤ k ∧ (k ≤ n ∨ k = 1) ∧ i = .int .i64 k ∧ (∃ q, wr = w.drewN q) ∧ Hid (∀ i, i + 1 < k → l[i]?.getD 0 < l[i + 1]?.getD 0)) (fun i _ => n - (intOf i).toNat)
  case atStart => exact ⟨1, Nat.le_refl _, .inr rfl, rfl, ⟨0, rfl⟩, hid (fun i h => by omega)⟩
  case round =>
    obtain ⟨k, hk1, hk, rfl, ⟨q, rfl⟩, HNO⟩ := hrel
    by_cases hlt : k < n
    · obtain ⟨p, rfl⟩ : ∃ p, k = p + 1 := ⟨k - 1, by omega⟩
      obtain ⟨b, off, rfl, hbs, hc⟩ := HH.out (p + 1) (by rw [HN.out]; exact hlt)
      obtain ⟨b', off', e', _, hc2⟩ := HH.out p (by rw [HN.out]; omega)
      cases e'
      have hpi : ((p + 1 : Nat) : Int) - 1 = (p : Int) := by omega
      have hpn : (p : Int) < (n : Int) := by omega
      have HNO2 := hid (fun (h : ¬ l[p]?.getD 0 < l[p + 1]?.getD 0) => asc_no (by rw [HN.out]; exact hlt) h)
      have HNX := hid (fun (h : l[p]?.getD 0 < l[p + 1]?.getD 0) => (show ∀ i, i + 1 < p + 1 + 1 → l[i]?.getD 0 < l[i + 1]?.getD 0 from fun i hi => by
        rcases Nat.lt_or_ge i p with h1 | h1
        · exact HNO.out i (by omega)
        · have : i = p := by omega
          subst this; exact h))
      obtain ⟨x, hx⟩ : ∃ x, x = l[p + 1]?.getD 0 := ⟨_, rfl⟩
      obtain ⟨y, hy⟩ : ∃ x, x = l[p]?.getD 0 := ⟨_, rfl⟩
      rw [← hx] at hc HNO2 HNX
      rw [← hy] at hc2 HNO2 HNX
      clear hx hy
      by_cases hle : x ≤ y
      · have HA := hid (HNO2.out (by omega))
        obtain rfl : E = false := HE.out.trans HA.out
        clear HNO2 HNX
        go_wp2
        go_quiet (fail)
        go_wp2
        go_ret
        exact ⟨rfl, _, drewN_add _ _ _⟩
      · have HX := hid (HNX.out (by omega))
        clear HNO2 HNX
        go_wp2
        go_quiet (fail)
        go_wp2
        exact ⟨⟨p + 1 + 1, by omega, .inl (by omega), by go_num, ⟨_, rfl⟩, HX⟩, by simp [intOf]; omega⟩
    · obtain rfl : E = true := HE.out.trans (asc_yes fun i hi => HNO.out i (by have := HN.out; omega))
      go_wp2
      go_ret
      exact ⟨rfl, _, rfl⟩

set_option maxHeartbeats 1000000 in
theorem r3Named_c (w : World) (a a2 : Option Addr) (n cap n2 cap2 : Nat) (M : Mask) (l : List Int) (hn : M.length = n) (hn2 : l.length = n2) (hm2 : n2 ≤ maxLen) (H : RowsAt w a M) (H2 : IntsAt w a2 l) (hok : okM M = true) :
    Calls Try.prog 88 #[.slice a n cap, .slice a2 n2 cap2] w fun e w' => e = .returned (.int .i64 (namedE (colsM M) l)) ∧ ∃ k, w' = w.drewN k := by
  obtain ⟨hM, h1, h6, hc1, hc10⟩ := okM_ok hok
  obtain ⟨b, off, ra, rc, rfl, hb, hc⟩ := rows_head H (by omega)
  have hz : (0 : Int) < (n : Int) := by omega
  have HAS := hid (r2Ascending_c w a2 n2 cap2 l hn2 hm2 H2)
  obtain ⟨W, hW⟩ : ∃ W, W = colsM M := ⟨_, rfl⟩
  rw [← hW] at hc hc1 hc10 ⊢
  have hc0 : w.cell? ⟨b, off, none⟩ = some (.slice ra W rc) := hc
  obtain ⟨E, hE⟩ : ∃ E, E = namedE W l := ⟨_, rfl⟩
  rw [← hE]
  have HE := hid hE
  have HN2 := hid hn2
  have HII := hid H2
  obtain ⟨Wm, hWm⟩ : ∃ q, q = (W : Int) - 1 := ⟨_, rfl⟩
  have hwm : IntKind.i64.wrap ((W : Int) - 1) = Wm := by rw [hWm]; exact IntWalk.i64_in _ (by omega)
  have HWM := hid hWm
  have hm' : n2 ≤ 9223372036854775807 := by unfold maxLen at hm2; omega
  clear hn hn2 H H2 hok hM hW hc hE hWm h1 h6
  go_enter Try.func88, Try.ntmps88
  cases has : ascB l
  · rw [has] at HAS
    obtain rfl : E = 7 := by rw [HE.out]; unfold namedE; rw [has]; rfl
    clear has
    go_wp2_with (go_at_call 137; refine HAS.out.mono ?_; rintro e w1 ⟨rfl, k1, rfl⟩)
    go_ret
    exact ⟨rfl, k1, rfl⟩
  · rw [has] at HAS
    have HEE := hid (show E = if l.all (fun p => inB p 0 Wm) = true then 0 else 5 by rw [HE.out, HWM.out]; unfold namedE; rw [if_pos has])
    clear has
    go_wp2_with (go_at_call 137; refine HAS.out.mono ?_; rintro e w1 ⟨rfl, k1, rfl⟩; refine Stop.of ?_)
    refine Stop.go ?_
    go_wp2
    go_loopw [12] (fun i wr => ∃ k : Nat, k ≤ n2 ∧ i = .int .i64 k ∧ (∃ q, wr = w.drewN q) ∧ Hid (∀ j (hj : j < l.length), j < k → inB l[j] 0 Wm = true)) (fun i _ => n2 - (intOf i).toNat)
    case atStart => exact ⟨0, Nat.zero_le _, rfl, ⟨k1, rfl⟩, hid (fun j _ h => by omega)⟩
    case round =>
      obtain ⟨k, hk, rfl, ⟨q, rfl⟩, HNO⟩ := hrel
      by_cases hlt : k < n2
      · have hkl : k < l.length := by rw [HN2.out]; exact hlt
        obtain ⟨b5, o5, rfl, hbs, hc5⟩ := HII.out k hkl
        have hg : l[k]?.getD 0 = l[k] := by rw [List.getElem?_eq_getElem hkl]; rfl
        rw [hg] at hc5
        have HST := hid (fun (h : inB l[k] 0 Wm = false) => (all_stop (p := fun n : Int => inB n 0 Wm) hkl h))
        have HNX := hid (fun (h : inB l[k] 0 Wm = true) => (show ∀ j (hj : j < l.length), j < k + 1 → inB l[j] 0 Wm = true from fun j hj hlt => by
          rcases Nat.lt_or_ge j k with h1 | h1
          · exact HNO.out j hj h1
          · have : j = k := by omega
            subst this; exact h))
        obtain ⟨x, hx⟩ : ∃ x, x = l[k] := ⟨_, rfl⟩
        rw [← hx] at hc5 HST HNX
        obtain ⟨B, hB⟩ : ∃ B, B = inB x 0 Wm := ⟨_, rfl⟩
        have HW := hid (fun (W : World) => r3within_c x 0 Wm W)
        rw [← hB] at HW HST HNX
        clear hg hx hkl hB
        cases B
        · obtain rfl : E = 5 := by rw [HEE.out, HST.out rfl]; rfl
          clear HST HNX
          go_wp2_with (go_at_call 96; refine (HW.out _).mono ?_; rintro e w1 ⟨rfl, rfl⟩)
          go_ret
          exact ⟨rfl, _, rfl⟩
        · have HX := hid (HNX.out rfl)
          clear HST HNX
          go_wp2_with (go_at_call 96; refine (HW.out _).mono ?_; rintro e w1 ⟨rfl, rfl⟩)
          exact ⟨⟨k + 1, by omega, by go_num, ⟨q, rfl⟩, HX⟩, by simp [intOf]; omega⟩
      · obtain rfl : E = 0 := by
          rw [HEE.out, all_done (p := fun n : Int => inB n 0 Wm) (fun j hj => HNO.out j hj (by have := HN2.out; omega))]; rfl
        go_wp2
        go_ret
        exact ⟨rfl, _, rfl⟩

set_option maxHeartbeats 1000000 in
theorem r3Free_c (w : World) (a a2 : Option Addr) (n cap n2 cap2 : Nat) (M : Mask) (l : List Int) (hn : M.length = n) (hn2 : l.length = n2) (H : RowsAt w a M) (H2 : IntsAt w a2 l) (hok : okM M = true) (hso : SetOk (colsM M) l) :
    Calls Try.prog 89 #[.slice a n cap, .slice a2 n2 cap2] w fun e w' => e = .returned (.bool (decide (rankF (colsF M l) l.length = l.length))) ∧ Below w.heap.size w w' := by
  obtain ⟨hM, h1, h6, hc1, hc10⟩ := okM_ok hok
  have hl10 := set_le hso
  have hn210 : n2 ≤ 10 := by omega
  have hC := hM.cols l
  have hS : ∀ r ∈ M, ∀ j ∈ l, 0 ≤ j ∧ j < r.length := fun r hr j hj => by rw [hM.wid r hr]; exact hso.2 j hj
  have HC := hid (r3columns_c w a n cap M hn (by omega) H a2 n2 cap2 l hn2 (by omega) H2 hS)
  have hcl : (colsF M l).length = n := by rw [colsF_len]; exact hn
  have HCL := hid hcl
  have HCW := hid (fun r hr => colsF_wid M l r hr)
  have hB := refB hC
  have HRd := hid (fun (X : World) (a3 : Option Addr) (c3 : Nat) (hR : RowsAt X a3 (colsF M l)) => r3reduced_c X a3 n c3 (colsF M l) l.length hcl (by omega) hR hC.wid (by omega) (fun r hr => mem_vec (P := fun x => -((4611686018427387904 : Nat) : Int) ≤ x ∧ x ≤ ((4611686018427387904 : Nat) : Int)) fun c => by have := hC.one r hr c; omega)
    (fun t ht r hr => ⟨(hB t ht r hr).1, fun x hx => by have := (hB t ht r hr).2 x hx; omega⟩) (fun t => by rw [(ref_lens hC.wid t).1, hcl]) (fun t => (ref_lens hC.wid t).2))
  have he : (rRed (colsF M l) l.length).piv.length = rankF (colsF M l) l.length := by
    obtain ⟨e1, _⟩ := red_same (n := l.length) hC.wid (fun r hr c _ => hC.one r hr c) (Nat.le_refl l.length) (fun q _ _ c h1 h2 => by omega)
    unfold rankF; rw [e1]
  rw [he] at HRd
  rw [hn2] at HRd HCW ⊢
  have hrle : rankF (colsF M l) n2 ≤ 6 := Nat.le_trans (rank_le (by rw [← hn2]; exact hC)) (by omega)
  obtain ⟨rk, hrk⟩ : ∃ rk, rk = rankF (colsF M l) n2 := ⟨_, rfl⟩
  rw [← hrk] at HRd hrle ⊢
  have hdd : decide (rk = n2) = ((rk : Int) == (n2 : Int)) := by
    by_cases h : rk = n2
    · simp [h]
    · rw [decide_eq_false h]; symm; simp; omega
  obtain ⟨C, hCe⟩ : ∃ C, C = colsF M l := ⟨_, rfl⟩
  rw [← hCe] at HC HCL HCW HRd
  rw [hdd]
  obtain ⟨B, hBe⟩ : ∃ B, B = ((rk : Int) == (n2 : Int)) := ⟨_, rfl⟩
  have HBE := hid hBe
  rw [← hBe]
  clear hn hn2 H H2 hok hso hM hC hS hcl hB he hrk hdd hCe hBe h1 h6
  go_enter Try.func89, Try.ntmps89
  go_wp2_with (go_at_call 67; refine HC.out.mono ?_; rintro e w1 ⟨v1, rfl, hT1, hb1⟩; refine Stop.of ?_)
  refine Stop.go ?_
  obtain ⟨ca, cc, rfl⟩ : ∃ a c, v1 = .slice a n c := by
    obtain ⟨_, ho1, _⟩ := hT1
    obtain ⟨a', c', e⟩ := ownsRow_slice ho1
    exact ⟨a', c', by rw [e, HCL.out]⟩
  have HR1 := hid (HRd.out w1 ca cc (hT1.rows HCL.out (fun r hr => by rw [HCW.out r hr]; unfold maxLen; omega)))
  clear hT1 HRd
  go_wp2_with (go_at_call 87; refine HR1.out.mono ?_; rintro e w2 ⟨vD, vP, rfl, hT2, hP2, hb2⟩; refine Stop.of ?_)
  refine Stop.go ?_
  obtain ⟨pa, pc, rfl⟩ := ownsRow_slice hP2
  have hbf := chain hb1 hb2
  clear hT2 hP2
  go_wp2
  go_ret
  exact ⟨by rw [HBE.out]; rfl, hbf⟩

set_option maxHeartbeats 1000000 in
theorem r3Independent_c (w : World) (a a2 : Option Addr) (n cap n2 cap2 : Nat) (M : Mask) (l : List Int) (hn : M.length = n) (hn2 : l.length = n2) (hm : n ≤ maxLen) (hm2 : n2 ≤ maxLen) (H : RowsAt w a M) (H2 : IntsAt w a2 l) :
    Calls Try.prog 38 #[.slice a n cap, .slice a2 n2 cap2] w fun e w' => e = .returned (.tuple #[.bool (indepV M l).1, .int .i64 (indepV M l).2]) ∧ Below w.heap.size w w' := by
  have HV := hid (r2Valid_c w a n cap M hn hm H)
  cases hok : okM M
  · rw [hok] at HV
    have he : indepV M l = (false, 1) := by
      have : pixE M l = 1 := by unfold pixE; rw [hok]; rfl
      unfold indepV; rw [this]; rfl
    rw [he]
    clear hn hn2 H H2 hok he
    go_enter Try.func38, Try.ntmps38
    go_wp2_with (go_at_call 64; refine HV.out.mono ?_; rintro e w1 ⟨rfl, rfl⟩)
    go_ret2
    exact ⟨rfl, Below.refl _ _⟩
  · rw [hok] at HV
    have HNM := hid (r3Named_c w a a2 n cap n2 cap2 M l hn hn2 hm2 H H2 hok)
    have hpx : pixE M l = namedE (colsM M) l := by unfold pixE; rw [if_pos hok]
    rw [← hpx] at HNM
    by_cases hp : pixE M l = 0
    · have he : indepV M l = (decide (rankF (colsF M l) l.length = l.length), 0) := by unfold indepV; rw [if_pos hp]
      rw [he]
      simp only []
      rw [hp] at HNM
      have HFR := hid (fun (X : World) (hX : Below w.heap.size w X) => r3Free_c X a a2 n cap n2 cap2 M l hn hn2 (H.below hX) (H2.below hX) hok (pix_ok hp).2)
      obtain ⟨B, hB⟩ : ∃ B, B = decide (rankF (colsF M l) l.length = l.length) := ⟨_, rfl⟩
      rw [← hB] at HFR ⊢
      clear hn hn2 H H2 hok he hp hpx hB
      go_enter Try.func38, Try.ntmps38
      go_wp2_with (go_at_call 64; refine HV.out.mono ?_; rintro e w1 ⟨rfl, rfl⟩; refine Stop.of ?_)
      refine Stop.go ?_
      go_wp2_with (go_at_call 88; refine HNM.out.mono ?_; rintro e w2 ⟨rfl, k2, rfl⟩; refine Stop.of ?_)
      refine Stop.go ?_
      have hb2 := below_drewN (Below.refl w.heap.size w) k2
      go_wp2_with (go_at_call 89; refine (HFR.out _ hb2).mono ?_; rintro e w3 ⟨rfl, hb3⟩)
      go_ret2
      exact ⟨rfl, chain hb2 hb3⟩
    · have he : indepV M l = (false, pixE M l) := by unfold indepV; rw [if_neg hp]
      rw [he]
      simp only []
      obtain ⟨E, hE⟩ : ∃ E, E = pixE M l := ⟨_, rfl⟩
      rw [← hE] at HNM hp ⊢
      have hpb : (E != 0) = true := by simpa using hp
      clear hn hn2 H H2 he hE hpx hok
      go_enter Try.func38, Try.ntmps38
      go_wp2_with (go_at_call 64; refine HV.out.mono ?_; rintro e w1 ⟨rfl, rfl⟩; refine Stop.of ?_)
      refine Stop.go ?_
      go_wp2_with (go_at_call 88; refine HNM.out.mono ?_; rintro e w2 ⟨rfl, k2, rfl⟩)
      go_ret2
      exact ⟨rfl, below_drewN (Below.refl _ _) _⟩
end
end Go.Proofs.Ytfipebkhomppmaa
