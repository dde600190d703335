/- Walks: All, None, Chosen (package part). -/
import Derived.Test.YtfipebkhomppmaaLwC
import Derived.Test.YtfipebkhomppmaaLinS
namespace Go.Proofs.Ytfipebkhomppmaa
open Go.RowKit
set_option linter.unusedVariables false

/-- the numbers below n -/
def allI (n : Nat) : List Int := (List.range n).map (fun j : Nat => (j : Int))
theorem allI_len (n : Nat) : (allI n).length = n := by simp [allI]
theorem allI_succ (n : Nat) : allI (n + 1) = allI n ++ [(n : Int)] := by unfold allI; rw [List.range_succ, List.map_append]; rfl

set_option maxHeartbeats 1000000 in
theorem all_c (w : World) (n : Nat) (hn : n ≤ 1000) :
    Calls Try.prog 70 #[.int .i64 n] w fun e w' => ∃ v, e = .returned v ∧ w'.ownsRow w.heap.size 3 1 v n ((allI n).map (Value.int .i64)) ∧ Below w.heap.size w w' := by
  go_enter Try.func70, Try.ntmps70
  go_wp2
  go_loopw [3, 6] (fun v i wr => ∃ k : Nat, k ≤ n ∧ i = .int .i64 k ∧ wr.ownsRow w.heap.size 3 1 v k ((allI k).map (Value.int .i64)) ∧ Below w.heap.size w wr) (fun _ i _ => n - (intOf i).toNat)
  case atStart => exact ⟨0, Nat.zero_le _, rfl, World.ownsRow_nil _ _ _ _, Below.refl _ _⟩
  case round =>
    obtain ⟨k, hk, rfl, hown, hbk⟩ := hrel
    by_cases hlt : k < n
    · obtain ⟨va, vc, rfl⟩ := ownsRow_slice hown
      have HO := hid hown
      have M1 := hid (show k + 1 ≤ maxLen by unfold maxLen; omega)
      have M2 := hid (show (k + 1) * 8 ≤ 140737488355328 by omega)
      have M3 := hid (Nat.le_trans hbk.size (le_alloc wr (.cells #[.int .i64 (k : Int)] 3)))
      clear hown
      go_wp2_with (at_builtin; refine wpList_app _ rfl (.tmp 9) (.tmp 11) 31 rfl w.heap.size 3 (.int .i64 0) 1 8 Try.underlying31 li_int rfl Nat.one_pos (.slice va k vc) k _ rfl (HO.out.alloc _) (some ⟨wr.heap.size, 0, none⟩) 1 1 [.int .i64 (k : Int)] rfl rfl no_none (one_news wr _ _) (li_one _) M1.out M2.out M3.out ?_; refine Stop.of ?_)
      refine Stop.go ?_
      intro a3 c3 w3 own3 g3
      have hB3 : Below w.heap.size w w3 := (hbk.alloc hbk.size _).grown g3 M3.out (fun k hk => (HO.out.lt k hk).1)
      go_wp2
      refine ⟨⟨k + 1, by omega, by go_num, ?_, hB3⟩, by simp [intOf]; omega⟩
      rw [allI_succ]
      simpa using own3
    · obtain rfl : k = n := by omega
      go_wp2
      go_ret
      exact ⟨_, rfl, hown, hbk⟩

theorem none_c (w : World) (i : Int) : Calls Try.prog 80 #[.int .i64 i] w fun e w' => e = .returned (.slice none 0 0) ∧ w = w' := by
  go_enter Try.func80, Try.ntmps80
  go_wp2
  go_ret
  exact ⟨rfl, rfl⟩

/-- what gives more numbers behind the row i -/
def MoreP (P : Program) (g : Nat) (lb : Array Value) (w : World) (N : Nat) (mo : Nat → List Int) : Prop :=
  ∀ (i : Nat) (W : World), i < N → Below w.heap.size w W → Calls P g (#[.int .i64 i] ++ lb) W fun e W' => ∃ a c, e = .returned (.slice a (mo i).length c) ∧ IntsAt W' a (mo i) ∧ Below W.heap.size W W'
theorem none_more (w : World) (N : Nat) : MoreP Try.prog 80 #[] w N (fun _ => []) := fun i W _ _ => (none_c W i).mono fun e W' ⟨he, hw⟩ => ⟨none, 0, he, fun j hj => by simp at hj, by rw [hw]; exact Below.refl _ _⟩

/-- rows with just some columns, and more behind them -/
def chosenF (M : List (List Int)) (S : List Int) (mo : Nat → List Int) : List (List Int) := M.mapIdx (fun i r => S.map (fun j => vec r j.toNat) ++ mo i)
theorem chosenF_len (M : List (List Int)) (S : List Int) (mo : Nat → List Int) : (chosenF M S mo).length = M.length := by simp [chosenF]
theorem chosenF_none (M : List (List Int)) (S : List Int) : chosenF M S (fun _ => []) = colsF M S := by
  unfold chosenF colsF
  refine List.ext_getElem (by simp) fun i h1 h2 => ?_
  simp
theorem chosenF_take {M : List (List Int)} {S : List Int} {mo : Nat → List Int} {k : Nat} (hk : k < M.length) : (chosenF M S mo).take (k + 1) = (chosenF M S mo).take k ++ [S.map (fun j => vec M[k] j.toNat) ++ mo k] := by
  rw [List.take_succ_eq_append_getElem (by rw [chosenF_len]; exact hk)]
  simp [chosenF]

theorem ints_one (l : List Int) : ∀ u ∈ l.map (Value.int .i64), u.oneCell' = true := by intro u hu; obtain ⟨x, _, rfl⟩ := List.mem_map.1 hu; rfl

set_option maxRecDepth 100000 in
set_option maxHeartbeats 4000000 in
theorem chosen_c (w : World) (a : Option Addr) (n cap : Nat) (M : List (List Int)) (hn : M.length = n) (hn6 : n ≤ 1000) (H : RowsAt w a M) (a2 : Option Addr) (k2 cap2 : Nat) (S : List Int) (hk2 : S.length = k2) (hk21 : k2 ≤ 1000) (H2 : IntsAt w a2 S)
    (hS : ∀ r ∈ M, ∀ j ∈ S, 0 ≤ j ∧ j < r.length) (g : Nat) (lb : Array Value) (eg : ∀ args w, (callFunc g args).run Try.prog w = .ok (.enter g args) w) (mo : Nat → List Int) (hmo : MoreP Try.prog g lb w n mo) (hml : ∀ i, i < n → (mo i).length ≤ 1000 ∧ 1 ≤ k2 + (mo i).length) :
    Calls Try.prog 79 #[.slice a n cap, .slice a2 k2 cap2, .func (.func g) #[] lb] w fun e w' => ∃ v, e = .returned v ∧ OwnM w' w.heap.size v (chosenF M S mo) ∧ Below w.heap.size w w' := by
  have HN := hid hn
  have HH := hid H
  have HK2 := hid hk2
  have HH2 := hid H2
  have HS := hid hS
  have HMO := hid hmo
  have HML := hid hml
  have HCT := hid (fun (k : Nat) (hk : k < M.length) => chosenF_take (M := M) (S := S) (mo := mo) hk)
  have HCL := hid (chosenF_len M S mo)
  obtain ⟨C, hC⟩ : ∃ C, C = chosenF M S mo := ⟨_, rfl⟩
  rw [← hC] at HCT HCL ⊢
  clear hn H hk2 H2 hS hmo hml hC
  go_enter Try.func79, Try.ntmps79
  go_wp2
  go_loopw [7, 15] (fun v i wr => ∃ k : Nat, k ≤ n ∧ i = .int .i64 k ∧ OwnM wr w.heap.size v (C.take k) ∧ Below w.heap.size w wr) (fun _ i _ => n - (intOf i).toNat)
  case atStart => exact ⟨0, Nat.zero_le _, rfl, OwnM.nil _ _, Below.refl _ _⟩
  case round =>
    obtain ⟨k, hk, rfl, ho, hbk⟩ := hrel
    obtain ⟨wo, hwo⟩ : ∃ wo, wo = wr := ⟨_, rfl⟩
    subst hwo
    by_cases hlt : k < n
    · have hkM : k < M.length := by rw [HN.out]; exact hlt
      obtain ⟨b, off, ra, rn, rc, rfl, hbs, hq0, hrn, hrm, hri⟩ := (HH.out.below hbk) k hkM
      have htk := HCT.out k hkM
      have hsr := HS.out M[k] (List.getElem_mem hkM)
      obtain ⟨r, hr⟩ : ∃ r, r = M[k] := ⟨_, rfl⟩
      rw [← hr] at htk hsr hrn hri
      have hlen : (C.take k).length = k := by rw [List.length_take, HCL.out]; omega
      have HL := hid hlen
      have HTK := hid htk
      have HSR := hid hsr
      have HRN := hid hrn
      have HRI := hid hri
      have HO := hid ho
      have HBK := hid hbk
      obtain ⟨va, vc, hv⟩ : ∃ va vc, u7 = .slice va k vc := by
        obtain ⟨_, _, ho1, _⟩ := ho
        obtain ⟨a', c', e⟩ := ownsRow_slice ho1
        exact ⟨a', c', by rw [e, hlen]⟩
      subst hv
      clear hr htk hsr hrn hri hkM ho hlen
      go_wp2
      go_loopw [10, 22] (fun v i wr => ∃ t : Nat, t ≤ k2 ∧ i = .int .i64 t ∧ wr.ownsRow wo.heap.size 3 1 v t (((S.take t).map (fun j => vec r j.toNat)).map (Value.int .i64)) ∧ Below wo.heap.size wo wr) (fun _ i _ => k2 - (intOf i).toNat)
      case atStart => exact ⟨0, Nat.zero_le _, rfl, World.ownsRow_nil _ _ _ _, Below.refl _ _⟩
      case round =>
        obtain ⟨t, ht, rfl, hown, hbt⟩ := hrel
        by_cases hlt2 : t < k2
        · have htS : t < S.length := by rw [HK2.out]; exact hlt2
          obtain ⟨b2, off2, rfl, hbs2, hc2⟩ := (HH2.out.below (chain HBK.out hbt)) t htS
          have hpp := HSR.out S[t] (List.getElem_mem htS)
          have hg2 : S[t]?.getD 0 = S[t] := by rw [List.getElem?_eq_getElem htS]; rfl
          rw [hg2] at hc2
          have htk2 : (S.take (t + 1)).map (fun j => vec r j.toNat) = (S.take t).map (fun j => vec r j.toNat) ++ [vec r (S[t]).toNat] := by
            rw [List.take_succ_eq_append_getElem htS, List.map_append]; rfl
          obtain ⟨q, hq⟩ : ∃ q : Nat, S[t] = q := ⟨(S[t]).toNat, by omega⟩
          rw [hq] at hc2 hpp htk2
          rw [show ((q : Int)).toNat = q by omega] at htk2
          have hqr : q < r.length := by omega
          obtain ⟨b3, off3, rfl, hbs3, hc3⟩ := (HRI.out.below hbt) q hqr
          have hqn : (q : Int) < (rn : Int) := by have := HRN.out; omega
          have hq0' : (0 : Int) ≤ (q : Int) := by omega
          obtain ⟨x, hx⟩ : ∃ x, x = r[q]?.getD 0 := ⟨_, rfl⟩
          have hxv : vec r q = x := hx.symm
          rw [← hx] at hc3
          rw [hxv] at htk2
          obtain ⟨la, lc, rfl⟩ := ownsRow_slice hown
          have HTK2 := hid htk2
          have HOW := hid hown
          have M1 := hid (show t + 1 ≤ maxLen by unfold maxLen; omega)
          have M2 := hid (show (t + 1) * 8 ≤ 140737488355328 by omega)
          have M3 := hid (Nat.le_trans hbt.size (le_alloc wr (.cells #[.int .i64 x] 3)))
          clear hpp hg2 htk2 hq hx hxv hown htS hqr
          go_wp2_with (at_builtin; refine wpList_app _ rfl (.tmp 26) (.tmp 31) 31 rfl wo.heap.size 3 (.int .i64 0) 1 8 Try.underlying31 li_int rfl Nat.one_pos (.slice la t lc) t _ rfl (HOW.out.alloc _) (some ⟨wr.heap.size, 0, none⟩) 1 1 [.int .i64 x] rfl rfl no_none (one_news wr _ _) (li_one _) M1.out M2.out M3.out ?_; refine Stop.of ?_)
          refine Stop.go ?_
          intro a3 c3 w3 own3 g3
          have hB3 : Below wo.heap.size wo w3 := (hbt.alloc hbt.size _).grown g3 M3.out (fun k hk => (HOW.out.lt k hk).1)
          go_wp2
          refine ⟨⟨t + 1, by omega, by go_num, ?_, hB3⟩, by simp [intOf]; omega⟩
          rw [HTK2.out]
          simpa using own3
        · obtain rfl : t = k2 := by omega
          rw [List.take_of_length_le (by rw [HK2.out]; exact Nat.le_refl _)] at hown
          obtain ⟨la, lc, rfl⟩ := ownsRow_slice hown
          have HMK := hid (HMO.out k wr hlt (chain HBK.out hbt))
          have HOW := hid hown
          have hml := HML.out k hlt
          obtain ⟨m, hm⟩ : ∃ m, m = mo k := ⟨_, rfl⟩
          rw [← hm] at hml HMK HTK
          obtain ⟨ml, hmle⟩ : ∃ ml, ml = m.length := ⟨_, rfl⟩
          rw [← hmle] at hml HMK
          have HME := hid hmle
          obtain ⟨hml1, hml2⟩ := hml
          clear hown hm hmle
          go_wp2_with (refine HMK.out.mono ?_; rintro e w2 ⟨ma, mc, rfl, hmi, hb2⟩; refine Stop.of ?_)
          refine Stop.go ?_
          have HO2 := hid (own_below HOW.out hb2)
          have HMI := hid hmi
          have HB2 := hid (chain hbt hb2)
          have N1 := hid (show t + ml ≤ maxLen by unfold maxLen; omega)
          have N2 := hid (show (t + ml) * 8 ≤ 140737488355328 by omega)
          have N3 := hid (show wo.heap.size ≤ w2.heap.size from HB2.out.size)
          have N4 := hid (show (m.map (Value.int .i64)).length = ml * 1 by rw [List.length_map, HME.out]; omega)
          have N5 := hid (show ma = none → ml = 0 from fun h => by rw [HME.out]; exact ints_none hmi h)
          have N6 := hid (ints_news hmi)
          clear hmi hb2 hbt
          go_wp2_with (at_builtin; refine wpList_app _ rfl (.tmp 35) (.tmp 38) 31 rfl wo.heap.size 3 (.int .i64 0) 1 8 Try.underlying31 li_int rfl Nat.one_pos (.slice la t lc) t _ rfl HO2.out ma ml mc (m.map (Value.int .i64)) rfl N4.out N5.out N6.out (ints_one _) N1.out N2.out N3.out ?_; refine Stop.of ?_)
          refine Stop.go ?_
          intro a3 c3 w3 own3 g3
          have hB3 : Below wo.heap.size wo w3 := HB2.out.grown g3 N3.out (fun k hk => (HO2.out.lt k hk).1)
          rw [← List.map_map, ← List.map_append] at own3
          obtain ⟨X, hX⟩ : ∃ X, X = S.map (fun j => vec r j.toNat) ++ m := ⟨_, rfl⟩
          rw [← hX] at own3 HTK
          have hXl : X.length = t + ml := by rw [hX, List.length_append, List.length_map, HK2.out, HME.out]
          obtain ⟨gn, cc, e3, hgn, hsr⟩ := spRow_own own3 hXl (by omega)
          cases e3
          have HXL := hid hXl
          obtain ⟨g', vs, ho, hin, he⟩ := HO.out
          rw [HL.out] at ho
          have hb2a : Below wo.heap.size wo (w3.alloc (.cells #[.slice (some ⟨gn, 0, none⟩) (t + ml) c3] 31)) := hB3.alloc hB3.size _
          have M1 := hid (show k + 1 ≤ maxLen by unfold maxLen; omega)
          have M2 := hid (show (k + 1) * 24 ≤ 140737488355328 by omega)
          have M3 := hid (Nat.le_trans HBK.out.size hb2a.size)
          have HO2' := hid (own_below ho hb2a)
          have HE := hid he
          have HIN := hid hin
          have HSR2 := hid hsr
          have HB2' := hid hb2a
          have HOO := hid ho
          have HC3 := hid (own_cap own3)
          clear he hin hsr hb2a ho own3 hX hXl hml1 hml2 hB3 g3
          go_wp2_with (at_builtin; refine wpList_app _ rfl (.tmp 34) (.tmp 40) 22 rfl w.heap.size 31 (.slice none 0 0) 1 24 Try.underlying22 li_ints rfl Nat.one_pos (.slice va k vc) k vs rfl HO2'.out (some ⟨w3.heap.size, 0, none⟩) 1 1 [.slice (some ⟨gn, 0, none⟩) (t + ml) c3] rfl rfl no_none (one_news w3 _ _) (slice_oneCell _ _ _) M1.out M2.out M3.out ?_; refine Stop.of ?_)
          refine Stop.go ?_
          intro a5 c5 w5 own5 g5
          have hsn : OwnM w5 w.heap.size (.slice a5 (k + 1) c5) (C.take k ++ [X]) := by
            have own5' : w5.ownsRow w.heap.size 31 1 (.slice a5 (k + 1) c5) ((C.take k).length + 1) (vs ++ [.slice (some ⟨gn, 0, none⟩) X.length c3]) := by rw [HL.out, HXL.out]; exact own5
            exact OwnM.snoc (by rw [HL.out]; exact HOO.out) HIN.out HE.out HB2'.out (HSR2.out.keep (Below.heap_alloc _ _ _ HSR2.out.lt)) hgn (by rw [HXL.out]; exact HC3.out) HBK.out.size g5 own5'
          have hB5 : Below w.heap.size w w5 := (HBK.out.trans (HB2'.out.mono HBK.out.size)).grown g5 M3.out (fun q hq => (HO2'.out.lt q hq).1)
          rw [← HTK.out] at hsn
          go_wp2
          exact ⟨⟨k + 1, by omega, by go_num, hsn, hB5⟩, by simp [intOf]; omega⟩
    · obtain rfl : k = n := by omega
      rw [List.take_of_length_le (by rw [HCL.out, HN.out]; exact Nat.le_refl _)] at ho
      go_wp2
      go_ret
      exact ⟨_, rfl, ho, hbk⟩
end Go.Proofs.Ytfipebkhomppmaa
