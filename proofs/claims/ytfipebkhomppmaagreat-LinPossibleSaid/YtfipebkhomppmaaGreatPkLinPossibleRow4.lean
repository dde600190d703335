/- Walks and plain laws for LinPossibleRow, part 4. -/
import Derived.Maps.RangeWalk
import Derived.Test.YtfipebkhomppmaaGreatPkLinPossibleRow3
namespace Go.Proofs.YtfipebkhomppmaaGreat
open Go.RowKit
set_option linter.unusedVariables false

def allI (n : Nat) : List Int := (List.range n).map (fun j : Nat => (j : Int))
theorem allI_len (n : Nat) : (allI n).length = n := by simp [allI]
theorem allI_succ (n : Nat) : allI (n + 1) = allI n ++ [(n : Int)] := by unfold allI; rw [List.range_succ, List.map_append]; rfl

set_option maxHeartbeats 1000000 in
theorem all_c (w : World) (n : Nat) (hn : n ≤ 1000) :
    Calls Tryz.prog 45 #[.int .i64 n] w fun e w' => ∃ v, e = .returned v ∧ w'.ownsRow w.heap.size 3 1 v n ((allI n).map (Value.int .i64)) ∧ Below w.heap.size w w' := by
  go_enter Tryz.func45, Tryz.ntmps45
  go_wp2
  go_loopw [3, 6] (fun v i wr => ∃ k : Nat, k ≤ n ∧ i = .int .i64 k ∧ wr.ownsRow w.heap.size 3 1 v k ((allI k).map (Value.int .i64)) ∧ Below w.heap.size w wr) (fun _ i _ => n - (intOf i).toNat)
  case atStart => exact ⟨0, Nat.zero_le _, rfl, World.ownsRow_nil _ _ _ _, Below.refl _ _⟩
  case round =>
    obtain ⟨k, hk, rfl, hown, hbk⟩ := hrel
    by_cases hlt : k < n
    · obtain ⟨va, vc, rfl⟩ := ownsRow_slice hown
      have HO := hid hown
      have M1 := hid (show k + 1 ≤ maxLen by unfold maxLen; omega)
      have M2 := hid (show (k + 1) * 8 ≤ 140737488355328 by omega)
      have M3 := hid (Nat.le_trans hbk.size (le_alloc wr (.cells #[.int .i64 (k : Int)] 3)))
      clear hown
      go_wp2_with (at_builtin; refine wpList_app _ rfl (.tmp 9) (.tmp 11) 24 rfl w.heap.size 3 (.int .i64 0) 1 8 Tryz.underlying24 li_int rfl Nat.one_pos (.slice va k vc) k _ rfl (HO.out.alloc _) (some ⟨wr.heap.size, 0, none⟩) 1 1 [.int .i64 (k : Int)] rfl rfl no_none (one_news wr _ _) (li_one _) M1.out M2.out M3.out ?_; refine Stop.of ?_)
      refine Stop.go ?_
      intro a3 c3 w3 own3 g3
      have hB3 : Below w.heap.size w w3 := (hbk.alloc hbk.size _).grown g3 M3.out (fun k hk => (HO.out.lt k hk).1)
      go_wp2
      refine ⟨⟨k + 1, by omega, by go_num, ?_, hB3⟩, by simp [intOf]; omega⟩
      rw [allI_succ]
      simpa using own3
    · obtain rfl : k = n := by omega
      go_wp2
      go_ret
      exact ⟨_, rfl, hown, hbk⟩

theorem none_c (w : World) (i : Int) : Calls Tryz.prog 76 #[.int .i64 i] w fun e w' => e = .returned (.slice none 0 0) ∧ w = w' := by
  go_enter Tryz.func76, Tryz.ntmps76
  go_wp2
  go_ret
  exact ⟨rfl, rfl⟩

def MoreP (P : Program) (g : Nat) (lb : Array Value) (w : World) (N : Nat) (mo : Nat → List Int) : Prop :=
  ∀ (i : Nat) (W : World), i < N → Below w.heap.size w W → Calls P g (#[.int .i64 i] ++ lb) W fun e W' => ∃ a c, e = .returned (.slice a (mo i).length c) ∧ IntsAt W' a (mo i) ∧ Below W.heap.size W W'
theorem none_more (w : World) (N : Nat) : MoreP Tryz.prog 76 #[] w N (fun _ => []) := fun i W _ _ => (none_c W i).mono fun e W' ⟨he, hw⟩ => ⟨none, 0, he, fun j hj => by simp at hj, by rw [hw]; exact Below.refl _ _⟩

def chosenF (M : List (List Int)) (S : List Int) (mo : Nat → List Int) : List (List Int) := M.mapIdx (fun i r => S.map (fun j => vec r j.toNat) ++ mo i)
theorem chosenF_len (M : List (List Int)) (S : List Int) (mo : Nat → List Int) : (chosenF M S mo).length = M.length := by simp [chosenF]
theorem chosenF_none (M : List (List Int)) (S : List Int) : chosenF M S (fun _ => []) = colsF M S := by
  unfold chosenF colsF
  refine List.ext_getElem (by simp) fun i h1 h2 => ?_
  simp
theorem chosenF_take {M : List (List Int)} {S : List Int} {mo : Nat → List Int} {k : Nat} (hk : k < M.length) : (chosenF M S mo).take (k + 1) = (chosenF M S mo).take k ++ [S.map (fun j => vec M[k] j.toNat) ++ mo k] := by
  rw [List.take_succ_eq_append_getElem (by rw [chosenF_len]; exact hk)]
  simp [chosenF]

theorem ints_one (l : List Int) : ∀ u ∈ l.map (Value.int .i64), u.oneCell' = true := by intro u hu; obtain ⟨x, _, rfl⟩ := List.mem_map.1 hu; rfl

set_option maxRecDepth 100000 in
set_option maxHeartbeats 4000000 in
theorem chosen_c (w : World) (a : Option Addr) (n cap : Nat) (M : List (List Int)) (hn : M.length = n) (hn6 : n ≤ 1000) (H : RowsAt w a M) (a2 : Option Addr) (k2 cap2 : Nat) (S : List Int) (hk2 : S.length = k2) (hk21 : k2 ≤ 1000) (H2 : IntsAt w a2 S)
    (hS : ∀ r ∈ M, ∀ j ∈ S, 0 ≤ j ∧ j < r.length) (g : Nat) (lb : Array Value) (eg : ∀ args w, (callFunc g args).run Tryz.prog w = .ok (.enter g args) w) (mo : Nat → List Int) (hmo : MoreP Tryz.prog g lb w n mo) (hml : ∀ i, i < n → (mo i).length ≤ 1000 ∧ 1 ≤ k2 + (mo i).length) :
    Calls Tryz.prog 51 #[.slice a n cap, .slice a2 k2 cap2, .func (.func g) #[] lb] w fun e w' => ∃ v, e = .returned v ∧ OwnM w' w.heap.size v (chosenF M S mo) ∧ Below w.heap.size w w' := by
  have HN := hid hn
  have HH := hid H
  have HK2 := hid hk2
  have HH2 := hid H2
  have HS := hid hS
  have HMO := hid hmo
  have HML := hid hml
  have HCT := hid (fun (k : Nat) (hk : k < M.length) => chosenF_take (M := M) (S := S) (mo := mo) hk)
  have HCL := hid (chosenF_len M S mo)
  obtain ⟨C, hC⟩ : ∃ C, C = chosenF M S mo := ⟨_, rfl⟩
  rw [← hC] at HCT HCL ⊢
  clear hn H hk2 H2 hS hmo hml hC
  go_enter Tryz.func51, Tryz.ntmps51
  go_wp2
  go_loopw [7, 15] (fun v i wr => ∃ k : Nat, k ≤ n ∧ i = .int .i64 k ∧ OwnM wr w.heap.size v (C.take k) ∧ Below w.heap.size w wr) (fun _ i _ => n - (intOf i).toNat)
  case atStart => exact ⟨0, Nat.zero_le _, rfl, OwnM.nil _ _, Below.refl _ _⟩
  case round =>
    obtain ⟨k, hk, rfl, ho, hbk⟩ := hrel
    obtain ⟨wo, hwo⟩ : ∃ wo, wo = wr := ⟨_, rfl⟩
    subst hwo
    by_cases hlt : k < n
    · have hkM : k < M.length := by rw [HN.out]; exact hlt
      obtain ⟨b, off, ra, rn, rc, rfl, hbs, hq0, hrn, hrm, hri⟩ := (HH.out.below hbk) k hkM
      have htk := HCT.out k hkM
      have hsr := HS.out M[k] (List.getElem_mem hkM)
      obtain ⟨r, hr⟩ : ∃ r, r = M[k] := ⟨_, rfl⟩
      rw [← hr] at htk hsr hrn hri
      have hlen : (C.take k).length = k := by rw [List.length_take, HCL.out]; omega
      have HL := hid hlen
      have HTK := hid htk
      have HSR := hid hsr
      have HRN := hid hrn
      have HRI := hid hri
      have HO := hid ho
      have HBK := hid hbk
      obtain ⟨va, vc, hv⟩ : ∃ va vc, u7 = .slice va k vc := by
        obtain ⟨_, _, ho1, _⟩ := ho
        obtain ⟨a', c', e⟩ := ownsRow_slice ho1
        exact ⟨a', c', by rw [e, hlen]⟩
      subst hv
      clear hr htk hsr hrn hri hkM ho hlen
      go_wp2
      go_loopw [10, 22] (fun v i wr => ∃ t : Nat, t ≤ k2 ∧ i = .int .i64 t ∧ wr.ownsRow wo.heap.size 3 1 v t (((S.take t).map (fun j => vec r j.toNat)).map (Value.int .i64)) ∧ Below wo.heap.size wo wr) (fun _ i _ => k2 - (intOf i).toNat)
      case atStart => exact ⟨0, Nat.zero_le _, rfl, World.ownsRow_nil _ _ _ _, Below.refl _ _⟩
      case round =>
        obtain ⟨t, ht, rfl, hown, hbt⟩ := hrel
        by_cases hlt2 : t < k2
        · have htS : t < S.length := by rw [HK2.out]; exact hlt2
          obtain ⟨b2, off2, rfl, hbs2, hc2⟩ := (HH2.out.below (chain HBK.out hbt)) t htS
          have hpp := HSR.out S[t] (List.getElem_mem htS)
          have hg2 : S[t]?.getD 0 = S[t] := by rw [List.getElem?_eq_getElem htS]; rfl
          rw [hg2] at hc2
          have htk2 : (S.take (t + 1)).map (fun j => vec r j.toNat) = (S.take t).map (fun j => vec r j.toNat) ++ [vec r (S[t]).toNat] := by
            rw [List.take_succ_eq_append_getElem htS, List.map_append]; rfl
          obtain ⟨q, hq⟩ : ∃ q : Nat, S[t] = q := ⟨(S[t]).toNat, by omega⟩
          rw [hq] at hc2 hpp htk2
          rw [show ((q : Int)).toNat = q by omega] at htk2
          have hqr : q < r.length := by omega
          obtain ⟨b3, off3, rfl, hbs3, hc3⟩ := (HRI.out.below hbt) q hqr
          have hqn : (q : Int) < (rn : Int) := by have := HRN.out; omega
          have hq0' : (0 : Int) ≤ (q : Int) := by omega
          obtain ⟨x, hx⟩ : ∃ x, x = r[q]?.getD 0 := ⟨_, rfl⟩
          have hxv : vec r q = x := hx.symm
          rw [← hx] at hc3
          rw [hxv] at htk2
          obtain ⟨la, lc, rfl⟩ := ownsRow_slice hown
          have HTK2 := hid htk2
          have HOW := hid hown
          have M1 := hid (show t + 1 ≤ maxLen by unfold maxLen; omega)
          have M2 := hid (show (t + 1) * 8 ≤ 140737488355328 by omega)
          have M3 := hid (Nat.le_trans hbt.size (le_alloc wr (.cells #[.int .i64 x] 3)))
          clear hpp hg2 htk2 hq hx hxv hown htS hqr
          go_wp2_with (at_builtin; refine wpList_app _ rfl (.tmp 26) (.tmp 31) 24 rfl wo.heap.size 3 (.int .i64 0) 1 8 Tryz.underlying24 li_int rfl Nat.one_pos (.slice la t lc) t _ rfl (HOW.out.alloc _) (some ⟨wr.heap.size, 0, none⟩) 1 1 [.int .i64 x] rfl rfl no_none (one_news wr _ _) (li_one _) M1.out M2.out M3.out ?_; refine Stop.of ?_)
          refine Stop.go ?_
          intro a3 c3 w3 own3 g3
          have hB3 : Below wo.heap.size wo w3 := (hbt.alloc hbt.size _).grown g3 M3.out (fun k hk => (HOW.out.lt k hk).1)
          go_wp2
          refine ⟨⟨t + 1, by omega, by go_num, ?_, hB3⟩, by simp [intOf]; omega⟩
          rw [HTK2.out]
          simpa using own3
        · obtain rfl : t = k2 := by omega
          rw [List.take_of_length_le (by rw [HK2.out]; exact Nat.le_refl _)] at hown
          obtain ⟨la, lc, rfl⟩ := ownsRow_slice hown
          have HMK := hid (HMO.out k wr hlt (chain HBK.out hbt))
          have HOW := hid hown
          have hml := HML.out k hlt
          obtain ⟨m, hm⟩ : ∃ m, m = mo k := ⟨_, rfl⟩
          rw [← hm] at hml HMK HTK
          obtain ⟨ml, hmle⟩ : ∃ ml, ml = m.length := ⟨_, rfl⟩
          rw [← hmle] at hml HMK
          have HME := hid hmle
          obtain ⟨hml1, hml2⟩ := hml
          clear hown hm hmle
          go_wp2_with (refine HMK.out.mono ?_; rintro e w2 ⟨ma, mc, rfl, hmi, hb2⟩; refine Stop.of ?_)
          refine Stop.go ?_
          have HO2 := hid (own_below HOW.out hb2)
          have HMI := hid hmi
          have HB2 := hid (chain hbt hb2)
          have N1 := hid (show t + ml ≤ maxLen by unfold maxLen; omega)
          have N2 := hid (show (t + ml) * 8 ≤ 140737488355328 by omega)
          have N3 := hid (show wo.heap.size ≤ w2.heap.size from HB2.out.size)
          have N4 := hid (show (m.map (Value.int .i64)).length = ml * 1 by rw [List.length_map, HME.out]; omega)
          have N5 := hid (show ma = none → ml = 0 from fun h => by rw [HME.out]; exact ints_none hmi h)
          have N6 := hid (ints_news hmi)
          clear hmi hb2 hbt
          go_wp2_with (at_builtin; refine wpList_app _ rfl (.tmp 35) (.tmp 38) 24 rfl wo.heap.size 3 (.int .i64 0) 1 8 Tryz.underlying24 li_int rfl Nat.one_pos (.slice la t lc) t _ rfl HO2.out ma ml mc (m.map (Value.int .i64)) rfl N4.out N5.out N6.out (ints_one _) N1.out N2.out N3.out ?_; refine Stop.of ?_)
          refine Stop.go ?_
          intro a3 c3 w3 own3 g3
          have hB3 : Below wo.heap.size wo w3 := HB2.out.grown g3 N3.out (fun k hk => (HO2.out.lt k hk).1)
          rw [← List.map_map, ← List.map_append] at own3
          obtain ⟨X, hX⟩ : ∃ X, X = S.map (fun j => vec r j.toNat) ++ m := ⟨_, rfl⟩
          rw [← hX] at own3 HTK
          have hXl : X.length = t + ml := by rw [hX, List.length_append, List.length_map, HK2.out, HME.out]
          obtain ⟨gn, cc, e3, hgn, hsr⟩ := spRow_own own3 hXl (by omega)
          cases e3
          have HXL := hid hXl
          obtain ⟨g', vs, ho, hin, he⟩ := HO.out
          rw [HL.out] at ho
          have hb2a : Below wo.heap.size wo (w3.alloc (.cells #[.slice (some ⟨gn, 0, none⟩) (t + ml) c3] 24)) := hB3.alloc hB3.size _
          have M1 := hid (show k + 1 ≤ maxLen by unfold maxLen; omega)
          have M2 := hid (show (k + 1) * 24 ≤ 140737488355328 by omega)
          have M3 := hid (Nat.le_trans HBK.out.size hb2a.size)
          have HO2' := hid (own_below ho hb2a)
          have HE := hid he
          have HIN := hid hin
          have HSR2 := hid hsr
          have HB2' := hid hb2a
          have HOO := hid ho
          have HC3 := hid (own_cap own3)
          clear he hin hsr hb2a ho own3 hX hXl hml1 hml2 hB3 g3
          go_wp2_with (at_builtin; refine wpList_app _ rfl (.tmp 34) (.tmp 40) 22 rfl w.heap.size 24 (.slice none 0 0) 1 24 Tryz.underlying22 li_ints rfl Nat.one_pos (.slice va k vc) k vs rfl HO2'.out (some ⟨w3.heap.size, 0, none⟩) 1 1 [.slice (some ⟨gn, 0, none⟩) (t + ml) c3] rfl rfl no_none (one_news w3 _ _) (slice_oneCell _ _ _) M1.out M2.out M3.out ?_; refine Stop.of ?_)
          refine Stop.go ?_
          intro a5 c5 w5 own5 g5
          have hsn : OwnM w5 w.heap.size (.slice a5 (k + 1) c5) (C.take k ++ [X]) := by
            have own5' : w5.ownsRow w.heap.size 24 1 (.slice a5 (k + 1) c5) ((C.take k).length + 1) (vs ++ [.slice (some ⟨gn, 0, none⟩) X.length c3]) := by rw [HL.out, HXL.out]; exact own5
            exact OwnM.snoc (by rw [HL.out]; exact HOO.out) HIN.out HE.out HB2'.out (HSR2.out.keep (Below.heap_alloc _ _ _ HSR2.out.lt)) hgn (by rw [HXL.out]; exact HC3.out) HBK.out.size g5 own5'
          have hB5 : Below w.heap.size w w5 := (HBK.out.trans (HB2'.out.mono HBK.out.size)).grown g5 M3.out (fun q hq => (HO2'.out.lt q hq).1)
          rw [← HTK.out] at hsn
          go_wp2
          exact ⟨⟨k + 1, by omega, by go_num, hsn, hB5⟩, by simp [intOf]; omega⟩
    · obtain rfl : k = n := by omega
      rw [List.take_of_length_le (by rw [HCL.out, HN.out]; exact Nat.le_refl _)] at ho
      go_wp2
      go_ret
      exact ⟨_, rfl, ho, hbk⟩
end Go.Proofs.YtfipebkhomppmaaGreat

namespace Go.Proofs.YtfipebkhomppmaaGreat
section
set_option linter.unusedVariables false

theorem IsKer.congr {M : List (List Int)} {n : Nat} {u v : Vec} (h : IsKer M n u) (e : ∀ c, c < n → u c = v c) : IsKer M n v := fun q hq => by
  have := h q hq
  unfold dotS at *
  rw [sm_congr (g := fun c => rowv M q c * u c) (fun c hc => by rw [e c hc])]; exact this

end

section
set_option linter.unusedVariables false

def unitF (N i : Nat) : List Int := (List.replicate N 0).set i 1
def extF (M : List (List Int)) : List (List Int) := M.mapIdx (fun i r => r ++ unitF M.length i)
theorem extF_len (M : List (List Int)) : (extF M).length = M.length := by simp [extF]
theorem extF_get {M : List (List Int)} {i : Nat} (h : i < M.length) : (extF M)[i]? = some (M[i] ++ unitF M.length i) := by
  unfold extF; rw [List.getElem?_mapIdx, List.getElem?_eq_getElem h]; rfl
theorem extF_mem {M : List (List Int)} {r : List Int} (h : r ∈ extF M) : ∃ i, ∃ hi : i < M.length, r = M[i] ++ unitF M.length i := by
  obtain ⟨i, hi, rfl⟩ := List.mem_iff_getElem.1 h
  rw [extF_len] at hi
  have := extF_get hi
  rw [List.getElem?_eq_getElem (by rw [extF_len]; exact hi)] at this
  exact ⟨i, hi, Option.some.inj this⟩
theorem unitF_len (N i : Nat) : (unitF N i).length = N := by simp [unitF]
theorem unitF_vec {N i : Nat} (hi : i < N) (c : Nat) : vec (unitF N i) c = if c = i then 1 else 0 := by
  unfold unitF
  rw [vec_set (by simpa using hi)]
  split
  · rfl
  · unfold vec; rw [List.getElem?_replicate]; split <;> rfl
theorem vec_app_lt {a b : List Int} {c : Nat} (h : c < a.length) : vec (a ++ b) c = vec a c := by unfold vec; rw [List.getElem?_append_left h]
theorem vec_app_ge {a b : List Int} {c : Nat} (h : a.length ≤ c) : vec (a ++ b) c = vec b (c - a.length) := by unfold vec; rw [List.getElem?_append_right h]

structure ExtOk (M : List (List Int)) (n : Nat) : Prop where
  wid : ∀ r ∈ extF M, r.length = n + M.length
  one : ∀ r ∈ extF M, ∀ c, -1 ≤ vec r c ∧ vec r c ≤ 1
theorem MaskOk.ext {M : List (List Int)} {n : Nat} (h : MaskOk M n) : ExtOk M n := by
  constructor
  · intro r hr
    obtain ⟨i, hi, rfl⟩ := extF_mem hr
    rw [List.length_append, unitF_len, h.wid _ (List.getElem_mem hi)]
  · intro r hr c
    obtain ⟨i, hi, rfl⟩ := extF_mem hr
    rcases Nat.lt_or_ge c (M[i]).length with hc | hc
    · rw [vec_app_lt hc]; exact h.one _ (List.getElem_mem hi) c
    · rw [vec_app_ge hc, unitF_vec hi]; split <;> decide

theorem ext_row {M : List (List Int)} {n : Nat} (h : MaskOk M n) {i : Nat} (hi : i < M.length) (c : Nat) : rowv (extF M) i c = if c < n then rowv M i c else if c - n = i then 1 else 0 := by
  unfold rowv
  rw [extF_get hi, List.getElem?_eq_getElem hi]
  simp only [Option.getD_some]
  have hw := h.wid _ (List.getElem_mem hi)
  by_cases hc : c < n
  · rw [if_pos hc, vec_app_lt (by omega)]
  · rw [if_neg hc, vec_app_ge (by omega), unitF_vec hi, hw]

abbrev RE (M : List (List Int)) (n : Nat) : List (List Int) := (pRed (extF M) n).1
abbrev JE (M : List (List Int)) (n : Nat) : List Nat := (pRed (extF M) n).2
theorem MaskOk.einv {M : List (List Int)} {n : Nat} (h : MaskOk M n) (t : Nat) : RInv (n + M.length) M.length (rowv (extF M)) t (pRed (extF M) t).1 (pRed (extF M) t).2 := by
  have := pRed_inv (extF M) h.ext.wid t (fun j _ q => rowv_le (by decide) (fun r hr => h.ext.one r hr j) q)
  rwa [extF_len] at this

theorem MaskOk.re_le {M : List (List Int)} {n : Nat} (h : MaskOk M n) {t : Nat} (k c : Nat) : -720 ≤ vec ((pRed (extF M) t).1[k]?.getD []) c ∧ vec ((pRed (extF M) t).1[k]?.getD []) c ≤ 720 := by
  cases hk : (pRed (extF M) t).1[k]? with
  | none => simp [vec]
  | some r =>
    have := (pRed_le (n := t) (Y := 1) h.ext.wid (by rw [extF_len]; exact h.le6) (fun r hr c _ => h.ext.one r hr c) (fun r hr => mem_vec (P := fun x => -((1 : Nat) : Int) ≤ x ∧ x ≤ ((1 : Nat) : Int)) fun c => by have := h.ext.one r hr c; omega) (Nat.le_refl t) r (List.mem_of_getElem? hk)).2
    have h2 := vec_le (Y := 720) (by decide) (fun x hx => by have := this x hx; omega) c
    simpa using h2

def truncV (n : Nat) (v : Vec) : Vec := fun c => if c < n then v c else 0
theorem truncV_sp {B B' : Vec → Prop} {n : Nat} (hB : ∀ v, B v → Sp B' (truncV n v)) {v : Vec} (h : Sp B v) : Sp B' (truncV n v) :=
  Sp.map (truncV n) (by funext c; unfold truncV; split <;> rfl) (fun u v => by funext c; unfold truncV; split <;> simp) (fun k u => by funext c; unfold truncV; split <;> simp) hB h
theorem MaskOk.row_trunc {M : List (List Int)} {n : Nat} (h : MaskOk M n) {q : Nat} (hq : q < M.length) : truncV n (rowv (extF M) q) = rowv M q := by
  funext c
  unfold truncV
  by_cases hc : c < n
  · rw [if_pos hc, ext_row h hq, if_pos hc]
  · rw [if_neg hc, rowv_wid h.wid q (by omega)]

theorem MaskOk.ext_same {M : List (List Int)} {n : Nat} (h : MaskOk M n) : JE M n = JP M n ∧ ∀ k, k < (JP M n).length → ∀ c, c < n →
    rowv (RP M n) k (jf (JP M n) k) * rowv (RE M n) k c = rowv (RE M n) k (jf (JP M n) k) * rowv (RP M n) k c := by
  have he := h.einv n
  have hi := h.inv n
  have hE : Ech (JE M n).length (jf (JE M n)) (fun k => truncV n (rowv (RE M n) k)) := by
    have e := he.ech
    refine ⟨⟨fun k hk => ?_, fun k hk q hq hne => ?_⟩, fun k hk c hc => ?_, e.asc⟩
    · have hl := he.jf_lt hk
      simp only [truncV, if_pos hl]
      exact e.red.piv k hk
    · have hl := he.jf_lt hq
      simp only [truncV, if_pos hl]
      exact e.red.off k hk q hq hne
    · simp only [truncV]
      split
      · exact e.lead k hk c hc
      · rfl
  have s1 : ∀ k, k < (JE M n).length → Sp (RB (JP M n).length (rowv (RP M n))) (truncV n (rowv (RE M n) k)) := by
    intro k hk
    refine h.span.2 (truncV_sp (B := RB M.length (rowv (extF M))) ?_ (he.sp1 k (Nat.lt_of_lt_of_le hk he.K_le)))
    rintro v ⟨q, hq, rfl⟩
    rw [h.row_trunc hq]; exact RB.sp hq
  have s2 : ∀ k, k < (JP M n).length → Sp (RB (JE M n).length (fun k => truncV n (rowv (RE M n) k))) (rowv (RP M n) k) := by
    intro k hk
    refine (h.span.1 (RB.sp hk)).trans ?_
    rintro v ⟨q, hq, rfl⟩
    rw [← h.row_trunc hq]
    refine truncV_sp (B := RB M.length (rowv (RE M n))) ?_ (he.sp2 q hq)
    rintro v ⟨m, hm, rfl⟩
    rcases Nat.lt_or_ge m (JE M n).length with c | c
    · exact .of ⟨m, c, rfl⟩
    · refine Sp.zero.congr fun x => ?_
      unfold truncV
      split
      · exact he.zero m c hm x ‹_›
      · rfl
  obtain ⟨hK, hJ, hR⟩ := hE.unique hi.ech s1 s2
  have hJJ : JE M n = JP M n := List.ext_getElem hK fun k h1 h2 => by
    have := hJ k h1
    unfold jf at this
    rw [List.getElem?_eq_getElem h1, List.getElem?_eq_getElem h2] at this
    simpa using this
  refine ⟨hJJ, fun k hk c hc => ?_⟩
  have := hR k (by rw [hJJ]; exact hk) c
  rw [hJJ] at this
  have hl := hi.jf_lt hk
  simp only [truncV, if_pos hc, if_pos hl] at this
  exact this

def wtV (n : Nat) (v : Vec) : Vec := fun i => v (n + i)
theorem MaskOk.weigh {M : List (List Int)} {n : Nat} (h : MaskOk M n) {v : Vec} (hv : Sp (RB M.length (rowv (extF M))) v) {c : Nat} (hc : c < n) : v c = sm (fun i => wtV n v i * rowv M i c) M.length := by
  induction hv with
  | of hb =>
    obtain ⟨q, hq, rfl⟩ := hb
    rw [ext_row h hq, if_pos hc, sm_single hq (fun i hi hne => ?_)]
    · unfold wtV; rw [ext_row h hq, if_neg (by omega), if_pos (by omega)]; simp
    · unfold wtV; rw [ext_row h hq, if_neg (by omega), if_neg (by omega)]; simp
  | zero => rw [sm_congr (g := fun _ => 0) (fun k _ => by simp [wtV]), sm_zero]
  | @add u v _ _ h1 h2 => rw [sm_congr (g := fun i => wtV n u i * rowv M i c + wtV n v i * rowv M i c) (fun k _ => by unfold wtV; grind), sm_add, ← h1, ← h2]
  | @mul k u _ h1 => rw [sm_congr (g := fun i => k * (wtV n u i * rowv M i c)) (fun i _ => by unfold wtV; grind), sm_mul, ← h1]
  | @div k u hk _ h1 =>
    rw [sm_congr (g := fun i => k * (wtV n u i * rowv M i c)) (fun i _ => by unfold wtV; grind), sm_mul] at h1
    exact Int.eq_of_mul_eq_mul_left hk h1

def dotY (n : Nat) (v y : Vec) (N : Nat) : Int := sm (fun i => wtV n v i * y i) N

theorem withY_row {M : List (List Int)} {n : Nat} (h : MaskOk M n) {y : List Int} (hy : y.length = M.length) {q : Nat} (hq : q < M.length) (c : Nat) :
    rowv (withY M y) q c = if c < n then rowv M q c else if c = n then vec y q else 0 := by
  have hw := h.wid _ (List.getElem_mem hq)
  have e : (withY M y)[q]? = some (M[q] ++ [y[q]]) := by unfold withY; rw [List.getElem?_zipWith, List.getElem?_eq_getElem hq, List.getElem?_eq_getElem (by omega)]
  unfold rowv
  rw [e, List.getElem?_eq_getElem hq]
  simp only [Option.getD_some]
  by_cases hc : c < n
  · rw [if_pos hc, vec_app_lt (by rw [hw]; exact hc)]
  · rw [if_neg hc, vec_app_ge (by rw [hw]; omega), hw]
    by_cases e2 : c = n
    · rw [if_pos e2, e2, Nat.sub_self, vec_lt (l := [y[q]]) (by simp), vec_lt (l := y) (by omega)]; rfl
    · rw [if_neg e2, vec_ge (by simp; omega)]

def gY (n : Nat) (y : Vec) (N : Nat) (v : Vec) : Vec := fun c => if c < n then v c else if c = n then dotY n v y N else 0
theorem gY_row {M : List (List Int)} {n : Nat} (h : MaskOk M n) {y : List Int} (hy : y.length = M.length) {q : Nat} (hq : q < M.length) : gY n (vec y) M.length (rowv (extF M) q) = rowv (withY M y) q := by
  funext c
  rw [withY_row h hy hq]
  unfold gY
  by_cases hc : c < n
  · rw [if_pos hc, if_pos hc, ext_row h hq, if_pos hc]
  · rw [if_neg hc, if_neg hc]
    by_cases e : c = n
    · rw [if_pos e, if_pos e]
      unfold dotY wtV
      rw [sm_single hq (fun i hi hne => by rw [ext_row h hq, if_neg (by omega), if_neg (by omega)]; simp), ext_row h hq, if_neg (by omega), if_pos (by omega)]; simp
    · rw [if_neg e, if_neg e]
theorem gY_sp {M : List (List Int)} {n : Nat} (h : MaskOk M n) {y : List Int} (hy : y.length = M.length) {v : Vec} (hv : Sp (RB M.length (rowv (extF M))) v) : Sp (RB M.length (rowv (withY M y))) (gY n (vec y) M.length v) := by
  refine Sp.map (gY n (vec y) M.length) ?_ ?_ ?_ ?_ hv
  · funext c; unfold gY dotY wtV
    rw [sm_congr (g := fun _ => 0) (fun k _ => by simp), sm_zero]; split <;> (try split) <;> rfl
  · intro u v; funext c; unfold gY dotY wtV
    rw [sm_congr (g := fun i => u (n + i) * vec y i + v (n + i) * vec y i) (fun k _ => by grind), sm_add]
    split
    · rfl
    · split <;> simp
  · intro k u; funext c; unfold gY dotY wtV
    rw [sm_congr (g := fun i => k * (u (n + i) * vec y i)) (fun i _ => by grind), sm_mul]
    split
    · rfl
    · split <;> simp
  · rintro v ⟨q, hq, rfl⟩
    rw [gY_row h hy hq]; exact RB.sp hq
theorem gY_all {M : List (List Int)} {n : Nat} (h : MaskOk M n) {y : List Int} (hy : y.length = M.length) {v : Vec} (hv : Sp (RB M.length (rowv (withY M y))) v) : ∃ k : Int, k ≠ 0 ∧ ∃ u, Sp (RB M.length (rowv (extF M))) u ∧ ∀ c, gY n (vec y) M.length u c = k * v c := by
  have lin : ∀ (x z : Int) (u w : Vec) c, gY n (vec y) M.length (fun c => x * u c + z * w c) c = x * gY n (vec y) M.length u c + z * gY n (vec y) M.length w c := by
    intro x z u w c
    unfold gY dotY wtV
    rw [sm_congr (g := fun i => x * (u (n + i) * vec y i) + z * (w (n + i) * vec y i)) (fun k _ => by grind), sm_add, sm_mul, sm_mul]
    split
    · rfl
    · split <;> simp
  induction hv with
  | of hb => obtain ⟨q, hq, rfl⟩ := hb; exact ⟨1, by decide, _, RB.sp hq, fun c => by rw [gY_row h hy hq]; simp⟩
  | zero => exact ⟨1, by decide, _, .zero, fun c => by have := lin 0 0 (fun _ => 0) (fun _ => 0) c; simp at this; simp [this]⟩
  | add _ _ h1 h2 =>
    obtain ⟨k, hk, u, hu, e⟩ := h1
    obtain ⟨m, hm, w, hw, e2⟩ := h2
    exact ⟨k * m, Int.mul_ne_zero hk hm, _, Sp.lin m k hu hw, fun c => by rw [lin, e, e2]; grind⟩
  | mul x _ h1 =>
    obtain ⟨k, hk, u, hu, e⟩ := h1
    exact ⟨k, hk, _, Sp.lin x 0 hu hu, fun c => by rw [lin, e]; grind⟩
  | @div x _ hx _ h1 =>
    obtain ⟨k, hk, u, hu, e⟩ := h1
    exact ⟨k * x, Int.mul_ne_zero hk hx, u, hu, fun c => by rw [e]; grind⟩

def confF (M : List (List Int)) (n : Nat) (y : List Int) : Prop := ∃ q, (JP M n).length ≤ q ∧ q < M.length ∧ dotY n (rowv (RE M n) q) (vec y) M.length ≠ 0
theorem MaskOk.conf_iff {M : List (List Int)} {n : Nat} (h : MaskOk M n) {y : List Int} (hy : y.length = M.length) : confF M n y ↔ n ∈ (rRed (withY M y) (n + 1)).piv := by
  have he := h.einv n
  have hJ := h.ext_same.1
  have hw : ∀ r ∈ withY M y, r.length = n + 1 := fun r hr => by
    obtain ⟨r', h1, v, _, rfl⟩ := withY_mem hr
    simp [h.wid r' h1]
  obtain ⟨k, hk⟩ := rRed_inv (withY M y) hw (n + 1)
  rw [withY_len hy] at k
  have hpiv : n ∈ (rRed (withY M y) (n + 1)).piv ↔ ∃ v, Sp (RB M.length (rowv (withY M y))) v ∧ v n ≠ 0 ∧ ∀ c, c < n → v c = 0 := by
    have h1 := k.ech.pivot_iff n
    have h2 : (∃ i, i < (rRed (withY M y) (n + 1)).piv.length ∧ jf (rRed (withY M y) (n + 1)).piv i = n) ↔ n ∈ (rRed (withY M y) (n + 1)).piv :=
      ⟨fun ⟨i, hi, e⟩ => (by have := jf_mem hi; rwa [e] at this), fun hm => mem_jf hm⟩
    rw [← h2, h1]
    have h3 : ∀ v, Sp (RB (rRed (withY M y) (n + 1)).piv.length (rowv ((rRed (withY M y) (n + 1)).done ++ (rRed (withY M y) (n + 1)).left))) v ↔ Sp (RB M.length (rowv (withY M y))) v := fun v => by
      have := k.span (v := v) (fun q h1 h2 c => by
        rcases Nat.lt_or_ge c (n + 1) with hc | hc
        · exact k.zero q h1 h2 c hc
        · exact rowv_wid k.wid q hc)
      rw [this]
      have := primF_span (withY M y) v
      rwa [withY_len hy] at this
    constructor
    · rintro ⟨v, hv, r⟩; exact ⟨v, (h3 v).1 hv, r⟩
    · rintro ⟨v, hv, r⟩; exact ⟨v, (h3 v).2 hv, r⟩
  rw [hpiv]
  constructor
  · rintro ⟨q, h1, h2, h3⟩
    refine ⟨_, gY_sp h hy (he.sp1 q h2), ?_, fun c hc => ?_⟩
    · unfold gY; rw [if_neg (by omega), if_pos rfl]; exact h3
    · unfold gY; rw [if_pos hc]; exact he.zero q (by rw [show (pRed (extF M) n).2 = JP M n from hJ]; exact h1) h2 c hc
  · rintro ⟨v, hv, hn, h0⟩
    obtain ⟨m, hm, u, hu, e⟩ := gY_all h hy hv
    have hu0 : ∀ c, c < n → u c = 0 := fun c hc => by have := e c; unfold gY at this; rw [if_pos hc, h0 c hc] at this; simpa using this
    have hun : dotY n u (vec y) M.length ≠ 0 := by
      have := e n; unfold gY at this; rw [if_neg (by omega), if_pos rfl] at this
      rw [this]; exact Int.mul_ne_zero hm hn
    -- u lies in the span of all reduced rows; its parts at the pivots are 0
    have hu2 : Sp (RB M.length (rowv (RE M n))) u := hu.trans fun w ⟨q, hq, e⟩ => e ▸ he.sp2 q hq
    refine Classical.byContradiction fun hno => ?_
    have hz : ∀ q, (JE M n).length ≤ q → q < M.length → dotY n (rowv (RE M n) q) (vec y) M.length = 0 := fun q h1 h2 => Classical.byContradiction fun h3 => hno ⟨q, by rw [← hJ]; exact h1, h2, h3⟩
    -- all vectors of the span: up to a multiple, one of the pivots' rows' span and one whose reading's product is 0
    have key : ∀ w, Sp (RB M.length (rowv (RE M n))) w → ∃ k : Int, k ≠ 0 ∧ ∃ a b : Vec, Sp (RB (JE M n).length (rowv (RE M n))) a ∧ (∀ c, c < n → b c = 0) ∧ dotY n b (vec y) M.length = 0 ∧ ∀ c, k * w c = a c + b c := by
      have dl : ∀ (x z : Int) (u w : Vec), dotY n (fun c => x * u c + z * w c) (vec y) M.length = x * dotY n u (vec y) M.length + z * dotY n w (vec y) M.length := by
        intro x z u w
        unfold dotY wtV
        rw [sm_congr (g := fun i => x * (u (n + i) * vec y i) + z * (w (n + i) * vec y i)) (fun k _ => by grind), sm_add, sm_mul, sm_mul]
      have d0 : dotY n (fun _ => 0) (vec y) M.length = 0 := by unfold dotY wtV; rw [sm_congr (g := fun _ => 0) (fun k _ => by simp), sm_zero]
      intro w hw
      induction hw with
      | of hb =>
        obtain ⟨q, hq, rfl⟩ := hb
        rcases Nat.lt_or_ge q (JE M n).length with c | c
        · exact ⟨1, by decide, _, _, RB.sp c, fun _ _ => rfl, d0, fun c => by simp⟩
        · exact ⟨1, by decide, _, _, .zero, fun x hx => he.zero q c hq x hx, hz q c hq, fun c => by simp⟩
      | zero => exact ⟨1, by decide, _, _, .zero, fun _ _ => rfl, d0, fun c => by simp⟩
      | add _ _ h1 h2 =>
        obtain ⟨k1, hk1, a1, b1, p1, q1, r1, e1⟩ := h1
        obtain ⟨k2, hk2, a2, b2, p2, q2, r2, e2⟩ := h2
        exact ⟨k1 * k2, Int.mul_ne_zero hk1 hk2, _, fun c => k2 * b1 c + k1 * b2 c, Sp.lin k2 k1 p1 p2, fun c hc => by simp only [q1 c hc, q2 c hc]; simp, by rw [dl, r1, r2]; simp, fun c => by have := e1 c; have := e2 c; grind⟩
      | mul x _ h1 =>
        obtain ⟨k1, hk1, a1, b1, p1, q1, r1, e1⟩ := h1
        exact ⟨k1, hk1, _, fun c => x * b1 c + 0 * b1 c, Sp.lin x 0 p1 p1, fun c hc => by simp only [q1 c hc]; simp, by rw [dl, r1]; simp, fun c => by have := e1 c; grind⟩
      | @div x _ hx _ h1 =>
        obtain ⟨k1, hk1, a1, b1, p1, q1, r1, e1⟩ := h1
        exact ⟨k1 * x, Int.mul_ne_zero hk1 hx, a1, b1, p1, q1, r1, fun c => by have := e1 c; grind⟩
    obtain ⟨k1, hk1, a, b, p1, q1, r1, e1⟩ := key u hu2
    have ha : ∀ c, a c = 0 := he.ech.red.zero p1 (fun k hk => by
      have h1 := e1 (jf (JE M n) k)
      have hl := he.jf_lt hk
      rw [hu0 _ hl, q1 _ hl] at h1
      have h2 : a (jf (JE M n) k) = 0 := by simpa using h1.symm
      exact h2)
    have hb : ∀ c, b c = k1 * u c := fun c => by have := e1 c; rw [ha c] at this; omega
    have : dotY n b (vec y) M.length = k1 * dotY n u (vec y) M.length := by
      unfold dotY wtV
      rw [sm_congr (g := fun i => k1 * (u (n + i) * vec y i)) (fun i _ => by rw [hb]; grind), sm_mul]
    rw [r1] at this
    exact hun (eq_zero_of_mul hk1 this.symm)
end
end Go.Proofs.YtfipebkhomppmaaGreat

namespace Go.Proofs.YtfipebkhomppmaaGreat
set_option linter.unusedVariables false

theorem timesP_snoc (R : List (List Int)) (f p : Nat) : ∀ (J : List Nat) (k : Nat) (t : Int), timesP R f (J ++ [p]) k t =
    timesP R f J k t * (nP (vec (R[k + J.length]?.getD []) p) (vec (R[k + J.length]?.getD []) f)).tdiv (Int.gcd (timesP R f J k t) (nP (vec (R[k + J.length]?.getD []) p) (vec (R[k + J.length]?.getD []) f)) : Nat)
  | [], k, t => rfl
  | q :: J, k, t => by
    show timesP R f (J ++ [p]) (k + 1) _ = _
    rw [timesP_snoc R f p J (k + 1), show k + 1 + J.length = k + (q :: J).length by simp; omega]
    rfl
theorem fillF_snoc (v : Nat → Nat → Int) (p : Nat) : ∀ (J : List Nat) (k : Nat) (h : List Int), fillF v (J ++ [p]) k h = (fillF v J k h).set p (v (k + J.length) p)
  | [], k, h => rfl
  | q :: J, k, h => by
    show fillF v (J ++ [p]) (k + 1) _ = _
    rw [fillF_snoc v p J (k + 1), show k + 1 + J.length = k + (q :: J).length by simp; omega]
    rfl

def kernTo (R : List (List Int)) (J : List Nat) (n t : Nat) : List (List Int) := ((List.range t).filter (fun f => !J.contains f)).map (kerP R J n)
theorem kernTo_succ_in {R : List (List Int)} {J : List Nat} {n t : Nat} (h : t ∈ J) : kernTo R J n (t + 1) = kernTo R J n t := by
  unfold kernTo; rw [List.range_succ, List.filter_append]; simp [h]
theorem kernTo_succ_out {R : List (List Int)} {J : List Nat} {n t : Nat} (h : t ∉ J) : kernTo R J n (t + 1) = kernTo R J n t ++ [kerP R J n t] := by
  unfold kernTo; rw [List.range_succ, List.filter_append]; simp [h]
theorem kernTo_all (R : List (List Int)) (J : List Nat) (n : Nat) : kernTo R J n n = kernP R J n := rfl
theorem kernTo_le (R : List (List Int)) (J : List Nat) (n t : Nat) : (kernTo R J n t).length ≤ t := by
  unfold kernTo; rw [List.length_map]
  have := List.length_filter_le (fun f => !J.contains f) (List.range t)
  rwa [List.length_range] at this

theorem MaskOk.times {M : List (List Int)} {n : Nat} (h : MaskOk M n) (f : Nat) {t : Nat} (ht : t ≤ (JP M n).length) :
    0 < timesP (RP M n) f ((JP M n).take t) 0 1 ∧ timesP (RP M n) f ((JP M n).take t) 0 1 ≤ 720 := by
  obtain ⟨d, d1, d2, hk⟩ := pRed_ok (n := n) h.wid h.le6 (fun r hr c _ => h.one r hr c)
  obtain ⟨a, b, _, _⟩ := timesP_facts (R := RP M n) (f := f) (d := d) ((JP M n).take t) 0 1 (by decide) (Int.one_dvd _) (fun i hi => by
    rw [List.length_take] at hi
    have h1 : i < (JP M n).length := by omega
    have := hk.piv i h1
    rw [Nat.zero_add]
    have e : jf ((JP M n).take t) i = jf (JP M n) i := by unfold jf; rw [List.getElem?_take_of_lt (by omega)]
    rw [e]; exact this)
  have h9 := Int.le_of_dvd (by omega) b
  exact ⟨a, by omega⟩
theorem MaskOk.pivx {M : List (List Int)} {n : Nat} (h : MaskOk M n) {i : Nat} (hi : i < (JP M n).length) : 0 < vec ((RP M n)[i]?.getD []) ((JP M n)[i]) ∧ vec ((RP M n)[i]?.getD []) ((JP M n)[i]) ≤ 720 ∧ (JP M n)[i] < n := by
  have h1 : 0 < rowv (RP M n) i (jf (JP M n) i) := ((h.inv n).pp i hi).2
  have e : jf (JP M n) i = (JP M n)[i] := by unfold jf; rw [List.getElem?_eq_getElem hi]; rfl
  rw [e] at h1
  exact ⟨h1, (h.rp_le i _).2, (h.inv n).lt _ (List.getElem_mem hi)⟩
theorem nP_le {x e : Int} (h0 : 0 < x) (h : x ≤ 720) : 0 < nP x e ∧ nP x e ≤ 720 := by
  obtain ⟨a, b, _⟩ := nP_facts (e := e) h0 (Int.dvd_refl x)
  have := Int.le_of_dvd h0 b
  exact ⟨a, by omega⟩

theorem MaskOk.raw_le {M : List (List Int)} {n : Nat} (h : MaskOk M n) {f : Nat} (hf : f < n) (hfJ : f ∉ JP M n) (c : Nat) : (vec (rawP (RP M n) (JP M n) n f) c).natAbs ≤ 518400 := by
  obtain ⟨t, ht, ht2, h1, h2, h3⟩ := h.raw hf hfJ
  by_cases hc : c ∈ JP M n
  · obtain ⟨i, hi, rfl⟩ := mem_jf hc
    have e := h3 i hi
    have hp : 0 < rowv (RP M n) i (jf (JP M n) i) := ((h.inv n).pp i hi).2
    have hb := h.rp_le i f
    have e2 := congrArg Int.natAbs e
    rw [Int.natAbs_mul, Int.natAbs_mul, Int.natAbs_neg] at e2
    have h5 : (vec (rawP (RP M n) (JP M n) n f) (jf (JP M n) i)).natAbs ≤ (rowv (RP M n) i f).natAbs * t.natAbs := by
      rw [← e2]; exact Nat.le_mul_of_pos_right _ (by omega)
    refine Nat.le_trans h5 ?_
    show _ ≤ 720 * 720
    exact Nat.mul_le_mul (by unfold rowv; omega) (by omega)
  · by_cases e : c = f
    · subst e; rw [h1]; omega
    · rw [h2 c hc e]; simp
theorem rawP_len (R : List (List Int)) (J : List Nat) (n f : Nat) : (rawP R J n f).length = n := by unfold rawP; rw [fillF_len]; simp
theorem kerP_len (R : List (List Int)) (J : List Nat) (n f : Nat) : (kerP R J n f).length = n := by unfold kerP; rw [shortF_len, rawP_len]

theorem MaskOk.bnd {M : List (List Int)} {n : Nat} (h : MaskOk M n) {t : Nat} (ht : t ≤ n) : ∀ r ∈ (pRed M t).1, r.length = n ∧ ∀ x ∈ r, -(720 : Int) ≤ x ∧ x ≤ 720 := by
  have := pRed_le (n := n) (Y := 1) h.wid h.le6 (fun r hr c _ => h.one r hr c) (fun r hr => mem_vec (P := fun x => -((1 : Nat) : Int) ≤ x ∧ x ≤ ((1 : Nat) : Int)) fun c => by have := h.one r hr c; omega) ht
  intro r hr
  obtain ⟨h1, h2⟩ := this r hr
  exact ⟨h1, fun x hx => by have := h2 x hx; omega⟩
end Go.Proofs.YtfipebkhomppmaaGreat

namespace Go.Proofs.YtfipebkhomppmaaGreat
open Go.RowKit
set_option linter.unusedVariables false

theorem indexV (w : World) (a : Option Addr) (n cap : Nat) (l : List Int) (hn : l.length = n) (hm : n ≤ maxLen) (H : IntsAt w a l) (x : Int) :
    Calls Tryz.prog 107 #[.slice a n cap, .int .i64 x] w fun e w' => e = .returned (.int .i64 (idxP (fun y => decide (y = x)) l 0)) ∧ w = w' := by
  have HN := hid hn
  have HH := hid H
  clear hn H
  unfold maxLen at hm
  go_enter Tryz.func107, Tryz.ntmps107
  go_wp2
  go_loop [8] (fun i => ∃ k : Nat, k ≤ n ∧ i = .int .i64 k ∧ Hid (∀ i y, i < k → l[i]? = some y → y ≠ x)) (fun i => n - (intOf i).toNat)
  case atStart => exact ⟨0, Nat.zero_le _, rfl, hid (fun i y h => by omega)⟩
  case round =>
    obtain ⟨k, hk, rfl, HNO⟩ := hrel
    by_cases hlt : k < n
    · have hkl : k < l.length := by rw [HN.out]; exact hlt
      obtain ⟨b, off, rfl, hbs, hc⟩ := HH.out k hkl
      have HK := hid (List.getElem?_eq_getElem hkl)
      have hg : l[k]?.getD 0 = l[k] := by rw [List.getElem?_eq_getElem hkl]; rfl
      rw [hg] at hc
      obtain ⟨y, hy⟩ : ∃ y, y = l[k] := ⟨_, rfl⟩
      rw [← hy] at hc HK
      clear hg hy hkl
      by_cases e : y = x
      · have hb : (x == y) = true := by simp [e]
        have HE := hid e
        clear e
        go_wp2
        go_ret
        refine ⟨ret_int ?_, rfl⟩
        rw [idxP_at (fun y => decide (y = x)) l 0 k y HK.out (by simpa using HE.out) (fun i z hi hz => by simpa using HNO.out i z hi hz)]; simp
      · have hb : (x == y) = false := by simp; omega
        have HE := hid e
        clear e
        go_wp2
        go_round
        case rel =>
          refine ⟨k + 1, by omega, by go_num, hid fun i z hi hz => ?_⟩
          by_cases e : i = k
          · subst e; rw [HK.out] at hz; cases hz; exact HE.out
          · exact HNO.out i z (by omega) hz
        case measure => simp [intOf]; omega
    · go_wp2
      go_ret
      refine ⟨ret_int ?_, rfl⟩
      rw [idxP_neg]
      intro z hz
      obtain ⟨i, hi, e⟩ := List.getElem_of_mem hz
      simpa using HNO.out i z (by have := HN.out; omega) (by rw [List.getElem?_eq_getElem hi, e])

theorem containsV (w : World) (a : Option Addr) (n cap : Nat) (l : List Int) (hn : l.length = n) (hm : n ≤ maxLen) (H : IntsAt w a l) (x : Int) :
    Calls Tryz.prog 77 #[.slice a n cap, .int .i64 x] w fun e w' => e = .returned (.bool (l.contains x)) ∧ w = w' := by
  have HC := hid (indexV w a n cap l hn hm H x)
  have HG := hid (idxP_ge (fun y => decide (y = x)) l 0)
  clear hn H
  go_enter Tryz.func77, Tryz.ntmps77
  go_wp2_with (go_at_call 107; refine HC.out.mono ?_; rintro e w1 ⟨rfl, rfl⟩)
  go_ret
  refine ⟨ret_bool ?_, rfl⟩
  rw [Bool.eq_iff_iff, decide_eq_true_iff, HG.out]
  simp [List.any_eq_true]

def intsJ (J : List Nat) : List Int := J.map (fun j : Nat => (j : Int))
theorem intsJ_len (J : List Nat) : (intsJ J).length = J.length := by simp [intsJ]
theorem intsJ_contains (J : List Nat) (f : Nat) : (intsJ J).contains (f : Int) = J.contains f := by
  rw [Bool.eq_iff_iff]
  unfold intsJ
  simp only [List.contains_iff_mem, List.mem_map]
  constructor
  · rintro ⟨x, hx, e⟩
    have : x = f := by omega
    subst this; exact hx
  · intro h; exact ⟨f, h, rfl⟩
theorem intsJ_vals (J : List Nat) : J.map (fun j : Nat => Value.int .i64 j) = (intsJ J).map (Value.int .i64) := by unfold intsJ; rw [List.map_map]; rfl

theorem ints_of_own {W : World} {base : Nat} {v : Value} {n : Nat} {l : List Int} (h : W.ownsRow base 3 1 v n (l.map (Value.int .i64))) (hn : l.length = n) : ∃ a c, v = .slice a n c ∧ IntsAt W a l ∧ n ≤ maxLen := by
  subst hn
  rcases h.2 with ⟨rfl, h0⟩ | ⟨g, cap, cur, rfl, hbg, hgg, hnc, hcm, hsz, htk⟩
  · exact ⟨none, 0, by rw [h0], fun j hj => by omega, by rw [h0]; decide⟩
  · refine ⟨_, cap, rfl, ?_, by omega⟩
    have := (ElemI.own (S := fun _ => True) (base := base) ⟨h.1, .inr ⟨g, cap, cur, rfl, hbg, hgg, hnc, hcm, hsz, htk⟩⟩ (show l.length ≤ maxLen by omega) (fun _ _ => trivial)).ints
    exact this.2.2

theorem sp_made_set (w : World) (k f : Nat) (T : Int) : SpRow (w.alloc (.cells ((madeCells #[.int .i64 0] k).setIfInBounds f (.int .i64 T)) 3)) w.heap.size ((List.replicate k 0).set f T) := by
  have e : madeCells #[Value.int .i64 0] k = ((List.replicate k (0 : Int)).map (Value.int .i64)).toArray := by
    apply Array.toList_inj.1
    rw [toList_madeCells_one]; simp
  refine ⟨[], ?_⟩
  rw [World.alloc_heap_new, e, List.append_nil]
  congr 2
  apply Array.toList_inj.1
  simp [List.map_set]

theorem row_cells {W : World} {g0 : Nat} {R : List (List Int)} (h : RowsAt W (some ⟨g0, 0, none⟩) R) {t n : Nat} (ht : t < R.length) (hw : ∀ r ∈ R, r.length = n) (hn : 1 ≤ n) :
    ∃ rb ro rc, W.cell? ⟨g0, t, none⟩ = some (.slice (some ⟨rb, ro, none⟩) n rc) ∧ ∀ c, c < n → W.cell? ⟨rb, ro + c, none⟩ = some (.int .i64 (vec (R[t]?.getD []) c)) := by
  obtain ⟨b, off, ra, n', rc, e, hlt, h0, hn', hm, hi⟩ := h t ht
  cases e
  have hl := hw _ (List.getElem_mem ht)
  obtain ⟨rb, ro, rfl, _, _⟩ := hi 0 (by omega)
  refine ⟨rb, ro, rc, ?_, fun c hc => ?_⟩
  · rw [Nat.zero_add] at h0; rw [h0, ← hn', hl]
  · obtain ⟨rb', ro', e, _, hx⟩ := hi c (by omega)
    cases e
    rw [hx, List.getElem?_eq_getElem ht]; rfl

set_option maxRecDepth 100000 in
set_option maxHeartbeats 8000000 in
theorem pkernel_c (w : World) (a : Option Addr) (n cap : Nat) (M : List (List Int)) (hn : M.length = n) (hn1 : 1 ≤ n) {W : Nat} (hM : MaskOk M W) (H : RowsAt w a M) (a2 : Option Addr) (k cap2 : Nat) (S : List Int) (hk : S.length = k) (hk1 : 1 ≤ k) (hk9 : k ≤ 1000) (H2 : IntsAt w a2 S)
    (hS : ∀ j ∈ S, 0 ≤ j ∧ j < (W : Int)) :
    Calls Tryz.prog 44 #[.slice a n cap, .slice a2 k cap2] w fun e w' => ∃ v base, e = .returned v ∧ w.heap.size ≤ base ∧ OwnM w' base v (kerSP M S) ∧ Below w.heap.size w w' := by
  have hn6 : n ≤ 6 := by rw [← hn]; exact hM.le6
  have HCh := hid (chosen_c w a n cap M hn (by omega) H a2 k cap2 S hk (by omega) H2 (fun r hr j hj => by rw [hM.wid r hr]; exact hS j hj) 76 #[] (enters_of Tryz.func76 (by kernel_rfl) rfl) (fun _ => []) (none_more w n) (fun i _ => ⟨by simp, by simp; omega⟩))
  rw [chosenF_none] at HCh
  have hC : MaskOk (colsF M S) k := by rw [← hk]; exact hM.cols S
  have hCl : (colsF M S).length = n := by rw [colsF_len, hn]
  have hker : kerSP M S = kernP (RP (colsF M S) k) (JP (colsF M S) k) k := by unfold kerSP; rw [hk]
  rw [hker]
  obtain ⟨C, hCe⟩ : ∃ C, C = colsF M S := ⟨_, rfl⟩
  rw [← hCe] at HCh hC hCl ⊢
  have HK2 := hid hk
  clear hker hCe hn H hk H2 hS hM
  have HRd := hid (fun (W1 : World) (base : Nat) (v0 : Value) (hO : OwnT W1 base W1.heap.size v0 C) (hb : base ≤ W1.heap.size) => reduce_c W1 base v0 C k hO hb hC.wid (by omega) (by omega) (by omega) k (Nat.le_refl _) (fun t ht r hr => ⟨(hC.bnd ht r hr).1, fun x hx => by have := (hC.bnd ht r hr).2 x hx; omega⟩))
  have hJK : (JP C k).length ≤ n := by rw [← hCl]; exact (hC.inv k).K_le
  have hRl : (RP C k).length = n := by rw [pRed_len, hCl]
  have hRw : ∀ r ∈ RP C k, r.length = k := fun r hr => (hC.bnd (Nat.le_refl k) r hr).1
  have HRP := hid (fun (t c : Nat) => hC.rp_le t c)
  have HTI := hid (fun (f t : Nat) (ht : t ≤ (JP C k).length) => hC.times f ht)
  have HPX := hid (fun (i : Nat) (hi : i < (JP C k).length) => hC.pivx hi)
  have HRAW := hid (fun (f : Nat) (hf : f < k) (hfJ : f ∉ JP C k) (c : Nat) => hC.raw_le hf hfJ c)
  have HRAWT := hid (fun (f : Nat) (hf : f < k) (hfJ : f ∉ JP C k) (i : Nat) (hi : i < (JP C k).length) => hC.rp_le i f)
  obtain ⟨R, hR⟩ : ∃ R, R = RP C k := ⟨_, rfl⟩
  obtain ⟨J, hJ⟩ : ∃ R, R = JP C k := ⟨_, rfl⟩
  have e1 : (pRed C k).1 = R := hR.symm
  have e2 : (pRed C k).2 = J := hJ.symm
  rw [e1, e2] at HRd
  rw [← hR] at hRl hRw HRP HTI HPX HRAW ⊢
  rw [← hJ] at hJK HTI HPX HRAW ⊢
  obtain ⟨K, hK⟩ : ∃ K, K = J.length := ⟨_, rfl⟩
  rw [← hK] at HRd hJK HTI
  have HKJ := hid hK
  have HRL := hid hRl
  have HRW := hid hRw
  clear e1 e2 hR hJ hK hRl hRw HRAWT hC hCl
  go_enter Tryz.func44, Tryz.ntmps44
  go_wp2_with (go_at_call 51; refine HCh.out.mono ?_; rintro e w1 ⟨v0, rfl, hO1, hb1⟩; refine Stop.of ?_)
  refine Stop.go ?_
  have HRd1 := hid (HRd.out w1 w.heap.size v0 (OwnT.of hO1) hb1.size)
  clear hO1 HRd HCh
  go_wp2_with (go_at_call 53; refine HRd1.out.mono ?_; rintro e w2 ⟨vJ, rfl, hJo, hT2, hb2⟩; refine Stop.of ?_)
  refine Stop.go ?_
  rw [intsJ_vals] at hJo
  obtain ⟨ja, jc, rfl, hJI, hJm⟩ := ints_of_own hJo (by rw [intsJ_len, HKJ.out])
  have hv0 : ∃ g0 c0, v0 = .slice (some ⟨g0, 0, none⟩) n c0 := by
    obtain ⟨g0, c0, _, _, e, _⟩ := hT2.at 0 (by rw [HRL.out]; omega)
    exact ⟨g0, c0, by rw [e, HRL.out]⟩
  obtain ⟨g0, c0, rfl⟩ := hv0
  have hRA := hT2.rowsAt HRL.out (fun r hr => by rw [HRW.out r hr]; unfold maxLen; omega)
  have HJI := hid hJI
  have HRA := hid hRA
  have HBW := hid (show Below w.heap.size w w2 from hb1.trans hb2)
  have hsz : w.heap.size ≤ w2.heap.size := by have := hb1.size; have := hb2.size; omega
  clear hJI hRA hJo hT2 hb1 hb2 HRd1
  go_wp2
  go_loopw [7, 25] (fun v i wr => ∃ f : Nat, f ≤ k ∧ i = .int .i64 f ∧ OwnM wr w2.heap.size v (kernTo R J k f) ∧ Below w2.heap.size w2 wr) (fun _ i _ => k - (intOf i).toNat)
  case atStart => exact ⟨0, Nat.zero_le _, rfl, OwnM.nil _ _, Below.refl _ _⟩
  case round =>
    obtain ⟨f, hf, rfl, ho, hbk⟩ := hrel
    obtain ⟨wo, hwo⟩ : ∃ wo, wo = wr := ⟨_, rfl⟩
    subst hwo
    by_cases hlt : f < k
    · have HO := hid ho
      have HBK := hid hbk
      have HJO := hid (HJI.out.below hbk)
      have HRO := hid (HRA.out.below hbk)
      have HCV := hid (containsV wo ja K jc (intsJ J) (by rw [intsJ_len, HKJ.out]) hJm (HJI.out.below hbk) (f : Int))
      rw [intsJ_contains] at HCV
      clear ho hbk
      cases hfJ : J.contains f
      · have hfn : f ∉ J := by simpa using hfJ
        rw [hfJ] at HCV
        have HFN := hid hfn
        clear hfJ hfn
        go_wp2_with (go_at_call 77; refine HCV.out.mono ?_; rintro e w3 ⟨rfl, rfl⟩)
        go_loopw [9, 33] (fun T i wr => ∃ t : Nat, t ≤ K ∧ i = .int .i64 t ∧ T = .int .i64 (timesP R f (J.take t) 0 1) ∧ Below wo.heap.size wo wr) (fun _ i _ => K - (intOf i).toNat)
        case atStart => exact ⟨0, Nat.zero_le _, rfl, rfl, Below.refl _ _⟩
        case round =>
          obtain ⟨t, ht, rfl, rfl, hbt⟩ := hrel
          by_cases hltt : t < K
          · have htJ : t < J.length := by rw [← HKJ.out]; exact hltt
            obtain ⟨jb, jo, rfl, _, hjc⟩ := (HJO.out.below hbt) t (by rw [intsJ_len]; exact htJ)
            obtain ⟨rb, ro, rc, hh, hcs⟩ := row_cells (HRO.out.below hbt) (t := t) (by rw [HRL.out]; omega) HRW.out hk1
            have hp0 := HPX.out t htJ
            have hsn := timesP_snoc R f J[t] (J.take t) 0 1
            rw [← List.take_succ_eq_append_getElem htJ, List.length_take, Nat.zero_add, show min t J.length = t by omega] at hsn
            obtain ⟨hT0, hT1⟩ := HTI.out f t ht
            obtain ⟨hT2, hT3⟩ := HTI.out f (t + 1) hltt
            have hjv : (intsJ J)[t]?.getD 0 = ((J[t] : Nat) : Int) := by unfold intsJ; rw [List.getElem?_map, List.getElem?_eq_getElem htJ]; rfl
            rw [hjv] at hjc
            obtain ⟨p, hp⟩ : ∃ p, p = J[t] := ⟨_, rfl⟩
            rw [← hp] at hp0 hsn hjc
            have c1 := hcs p hp0.2.2
            have c2 := hcs f hlt
            have hxb := HRP.out t f
            obtain ⟨x, hx⟩ : ∃ x, x = vec (R[t]?.getD []) p := ⟨_, rfl⟩
            obtain ⟨y, hy⟩ : ∃ x, x = vec (R[t]?.getD []) f := ⟨_, rfl⟩
            rw [← hx] at c1 hp0 hsn
            rw [← hy] at c2 hxb hsn
            obtain ⟨hx1, hx2, hpk⟩ := hp0
            obtain ⟨T, hT⟩ : ∃ T, T = timesP R f (J.take t) 0 1 := ⟨_, rfl⟩
            rw [← hT] at hT0 hT1 hsn ⊢
            rw [hsn] at hT2 hT3
            have HSN := hid hsn
            obtain ⟨hn1', hn2'⟩ := nP_le (e := y) hx1 hx2
            have HD1 := hid (fun (W : World) => divisor_c W x y (by omega) (by omega))
            have HNP := hid (show nP x y = x.tdiv (Int.gcd x y : Nat) from rfl)
            have hg0 : 0 < ((Int.gcd x y : Nat) : Int) := by
              have : 0 < Int.gcd x y := Int.gcd_pos_of_ne_zero_left _ (by omega)
              omega
            obtain ⟨g, hg⟩ : ∃ g : Int, g = (Int.gcd x y : Nat) := ⟨_, rfl⟩
            rw [← hg] at HD1 HNP hg0
            have hgz : ¬ (g = 0) := by omega
            have hw1 : IntKind.i64.wrap (x.tdiv g) = x.tdiv g := by rw [← HNP.out]; exact IntWalk.i64_in _ (by omega)
            obtain ⟨N', hN'⟩ : ∃ N', N' = nP x y := ⟨_, rfl⟩
            rw [← hN'] at hn1' hn2' hT2 hT3 HNP HSN
            have HD2 := hid (fun (W : World) => divisor_c W T N' (by omega) (by omega))
            have hg20 : 0 < ((Int.gcd T N' : Nat) : Int) := by
              have : 0 < Int.gcd T N' := Int.gcd_pos_of_ne_zero_left _ (by omega)
              omega
            obtain ⟨g2, hg2⟩ : ∃ g : Int, g = (Int.gcd T N' : Nat) := ⟨_, rfl⟩
            rw [← hg2] at HD2 hg20 hT2 hT3 HSN
            have hgz2 : ¬ (g2 = 0) := by omega
            have htd := tdiv_bnd (show 1 ≤ g2 by omega) (show -(720 : Int) ≤ N' ∧ N' ≤ 720 by omega)
            have hw2 : IntKind.i64.wrap (N'.tdiv g2) = N'.tdiv g2 := IntWalk.i64_in _ (by omega)
            have hw3 : IntKind.i64.wrap (T * N'.tdiv g2) = T * N'.tdiv g2 := IntWalk.i64_in _ (by omega)
            have hNe : x.tdiv g = N' := HNP.out.symm
            have i1 : (0 : Int) ≤ (t : Int) := by omega
            have i2 : (t : Int) < (n : Int) := by omega
            have i3 : (0 : Int) ≤ (p : Int) := by omega
            have i4 : (p : Int) < (k : Int) := by omega
            have i5 : (0 : Int) ≤ (f : Int) := by omega
            have i6 : (f : Int) < (k : Int) := by omega
            have i7 : (t : Int) < (K : Int) := by omega
            have HBT := hid hbt
            clear hjv hp hx hy hT hsn hg hN' hg2 hcs htJ hbt
            go_wp2
            go_quiet ((go_at_call 78; exact Calls.quiet_of (HD1.out _)))
            go_wp2_with (go_at_call 78; refine (HD2.out _).mono ?_; rintro e w4 ⟨rfl, q4, rfl⟩)
            exact ⟨⟨t + 1, by omega, by go_num, by rw [HSN.out], below_drewN HBT.out _⟩, by simp [intOf]; omega⟩
          · obtain rfl : t = K := by omega
            have e : J.take t = J := List.take_of_length_le (by rw [HKJ.out]; exact Nat.le_refl _)
            obtain ⟨hT0, hT1⟩ := HTI.out f t (Nat.le_refl _)
            rw [e] at hT0 hT1 ⊢
            obtain ⟨T, hT⟩ : ∃ T, T = timesP R f J 0 1 := ⟨_, rfl⟩
            rw [← hT] at hT0 hT1 ⊢
            have HTT := hid hT
            have HB5 := hid hbt
            obtain ⟨w5, hw5⟩ : ∃ w5, w5 = wr := ⟨_, rfl⟩
            subst hw5
            have hmk : ∀ w, (Instr.makeSlice 24 (.int .i64 (k : Int)) (.int .i64 (k : Int))).run Tryz.prog w = .ok (.slice (some ⟨w.heap.size, 0, none⟩) k k) (w.alloc (.cells (madeCells #[.int .i64 0] k) 3)) :=
              fun w => run_make_row' 24 3 (.int .i64 0) 8 Tryz.underlying24 li_int rfl .i64 .i64 k (by omega) (by omega) w
            obtain ⟨h0, hh0⟩ : ∃ h0, h0 = (List.replicate k (0 : Int)).set f T := ⟨_, rfl⟩
            have hh0l : h0.length = k := by rw [hh0]; simp
            obtain ⟨w7, hw7⟩ : ∃ w7, w7 = w5.alloc (.cells ((madeCells #[.int .i64 0] k).setIfInBounds f (.int .i64 T)) 3) := ⟨_, rfl⟩
            have hr7 : SpRow w7 w5.heap.size h0 := by rw [hw7, hh0]; exact sp_made_set w5 k f T
            have hb7 : Below w5.heap.size w5 w7 := by rw [hw7]; exact (Below.refl _ _).alloc (Nat.le_refl _) _
            have hs7 : w7.heap.size = w5.heap.size + 1 := by rw [hw7]; simp
            have i5 : (0 : Int) ≤ (f : Int) := by omega
            have i6 : (f : Int) < (k : Int) := by omega
            have HSET6 := hid hr7
            have HH0 := hid hh0
            have HW7 := hid hw7
            have HB7 := hid hb7
            have HL0 := hid hh0l
            clear e hT hbt hh0 hr7 hb7 hw7 hh0l
            have hmsz : (madeCells #[Value.int .i64 0] k).size = k := by rw [size_madeCells]
            go_wp2
            rw [← HW7.out]
            clear hmk hmsz
            go_loopw [78] (fun i wr => ∃ s : Nat, s ≤ t ∧ i = .int .i64 s ∧ SpRow wr w5.heap.size (fillF (valP R f T) (J.take s) 0 h0) ∧ Keep (fun q => q ≠ w5.heap.size) w7 wr) (fun i _ => t - (intOf i).toNat)
            case atStart => exact ⟨0, Nat.zero_le _, rfl, HSET6.out, Keep.refl _ _⟩
            case round =>
              obtain ⟨s, hs, rfl, hr, hkp⟩ := hrel
              have hb57 : Below w5.heap.size w5 wr := hkp.below HB7.out (by omega) (fun q hq => by omega)
              have hbo := chain HB5.out hb57
              by_cases hlts : s < t
              · have htJ : s < J.length := by rw [← HKJ.out]; exact hlts
                obtain ⟨jb, jo, rfl, _, hjc⟩ := (HJO.out.below hbo) s (by rw [intsJ_len]; exact htJ)
                obtain ⟨rb, ro, rc, hh, hcs⟩ := row_cells (HRO.out.below hbo) (t := s) (by rw [HRL.out]; omega) HRW.out hk1
                have hp0 := HPX.out s htJ
                have hsn := fillF_snoc (valP R f T) J[s] (J.take s) 0 h0
                rw [← List.take_succ_eq_append_getElem htJ, List.length_take, Nat.zero_add, show min s J.length = s by omega] at hsn
                have hjv : (intsJ J)[s]?.getD 0 = ((J[s] : Nat) : Int) := by unfold intsJ; rw [List.getElem?_map, List.getElem?_eq_getElem htJ]; rfl
                rw [hjv] at hjc
                obtain ⟨p, hp⟩ : ∃ p, p = J[s] := ⟨_, rfl⟩
                rw [← hp] at hp0 hsn hjc
                have c1 := hcs p hp0.2.2
                have c2 := hcs f hlt
                have hxb := HRP.out s f
                have hval : valP R f T s p = (-(vec (R[s]?.getD []) f) * T).tdiv (vec (R[s]?.getD []) p) := rfl
                obtain ⟨x, hx⟩ : ∃ x, x = vec (R[s]?.getD []) p := ⟨_, rfl⟩
                obtain ⟨y, hy⟩ : ∃ x, x = vec (R[s]?.getD []) f := ⟨_, rfl⟩
                rw [← hx] at c1 hp0 hval
                rw [← hy] at c2 hxb hval
                rw [hval] at hsn
                obtain ⟨hx1, hx2, hpk⟩ := hp0
                have hlenF : (fillF (valP R f T) (J.take s) 0 h0).length = k := by rw [fillF_len, HL0.out]
                have c3 := hr.cell (j := p) (by rw [hlenF]; exact hpk)
                obtain ⟨z3, hz3⟩ : ∃ z, z = (fillF (valP R f T) (J.take s) 0 h0)[p]?.getD 0 := ⟨_, rfl⟩
                rw [← hz3] at c3
                have c4 := hr.frozen p
                have HSET := hid (fun (X : World) (hX : X.heap[w5.heap.size]? = wr.heap[w5.heap.size]?) v => (hr.keep hX).set p (by rw [hlenF]; exact hpk) v)
                have hgs := hr.lt
                have HSN := hid hsn
                have HKP := hid hkp
                have pm := mul_bnd (show -(720 : Int) ≤ -y ∧ -y ≤ 720 by omega) (show -(720 : Int) ≤ T ∧ T ≤ 720 by omega)
                have td := tdiv_bnd (show 1 ≤ x by omega) (show -(518400 : Int) ≤ -y * T ∧ -y * T ≤ 518400 by omega)
                have wn : IntKind.i64.wrap (-y) = -y := IntWalk.i64_in _ (by omega)
                have wm : IntKind.i64.wrap (-y * T) = -y * T := IntWalk.i64_in _ (by omega)
                have wq : IntKind.i64.wrap ((-y * T).tdiv x) = (-y * T).tdiv x := IntWalk.i64_in _ (by omega)
                have hxz : ¬ (x = 0) := by omega
                have i1 : (0 : Int) ≤ (s : Int) := by omega
                have i2 : (s : Int) < (n : Int) := by omega
                have i3 : (0 : Int) ≤ (p : Int) := by omega
                have i4 : (p : Int) < (k : Int) := by omega
                have i7 : (s : Int) < (t : Int) := by omega
                clear hjv hp hx hy hsn hcs htJ hval hlenF hz3 hr hkp hb57 hbo pm td
                go_wp2
                go_still_tail 21, (by kernel_rfl)
                change wpList _ _ _ _ _ wr.drew
                go_wp2
                refine ⟨⟨s + 1, by omega, by go_num, ?_, (HKP.out.drewN 1).trans (Keep.set wr.drew w5.heap.size p _)⟩, by simp [intOf]; omega⟩
                rw [HSN.out]
                exact HSET.out wr.drew rfl _
              · obtain rfl : s = t := by omega
                have e : J.take s = J := List.take_of_length_le (by rw [HKJ.out]; exact Nat.le_refl _)
                rw [e] at hr
                have hraw : fillF (valP R f T) J 0 h0 = rawP R J k f := by unfold rawP; rw [HH0.out, HTT.out]
                rw [hraw] at hr
                have hbR : BndL 4611686018427387904 (rawP R J k f) := by
                  refine mem_vec (P := fun x => -((4611686018427387904 : Nat) : Int) ≤ x ∧ x ≤ ((4611686018427387904 : Nat) : Int)) fun c => ?_
                  have := HRAW.out f hlt HFN.out c
                  omega
                have HSH := hid (shortened_c wr w5.heap.size k k (rawP R J k f) (rawP_len R J k f) (by unfold maxLen; omega) hr hbR)
                have HBO := hid hbo
                have HB57 := hid hb57
                clear e hraw hr hbR hkp hb57 hbo
                go_wp2_with (go_at_call 79; refine HSH.out.mono ?_; rintro e w8 ⟨rfl, hs8, hk8⟩; refine Stop.of ?_)
                refine Stop.go ?_
                have hbo8 : Below wo.heap.size wo w8 := by
                  have h1 := HBO.out
                  have h2 := HB5.out.size
                  exact hk8.below h1 h1.size (fun q hq => by omega)
                obtain ⟨X, hX⟩ : ∃ X, X = kerP R J k f := ⟨_, rfl⟩
                have hXs : shortF (rawP R J k f) = X := hX.symm
                have hXl : X.length = k := by rw [hX, kerP_len]
                rw [hXs] at hs8
                have hkt := kernTo_succ_out (R := R) (n := k) HFN.out
                rw [← hX] at hkt
                have hle := kernTo_le R J k f
                obtain ⟨Kt, hKt⟩ : ∃ Kt, Kt = kernTo R J k f := ⟨_, rfl⟩
                have HO' := HO.out
                rw [← hKt] at hkt hle HO'
                obtain ⟨g', vs, ho, hin, he⟩ := HO'
                obtain ⟨m, hm⟩ : ∃ m, m = Kt.length := ⟨_, rfl⟩
                rw [← hm] at ho hle
                obtain ⟨va, vc, rfl⟩ := ownsRow_slice ho
                have hb2a : Below wo.heap.size wo (w8.alloc (.cells #[.slice (some ⟨w5.heap.size, 0, none⟩) k k] 24)) := hbo8.alloc hbo8.size _
                have M1 := hid (show m + 1 ≤ maxLen by unfold maxLen; omega)
                have M2 := hid (show (m + 1) * 24 ≤ 140737488355328 by omega)
                have M3 := hid (Nat.le_trans HBK.out.size hb2a.size)
                have HO2' := hid (own_below ho hb2a)
                have HE := hid he
                have HIN := hid hin
                have HSR2 := hid hs8
                have HB2' := hid hb2a
                have HOO := hid ho
                have HML := hid hm
                have HXL := hid hXl
                have HKT := hid hkt
                have hg5 : wo.heap.size ≤ w5.heap.size := HB5.out.size
                clear he hin hs8 hb2a ho hX hXs hXl hkt hle hKt hm hk8 hbo8
                go_wp2_with (at_builtin; refine wpList_app _ rfl (.tmp 107) (.tmp 109) 22 rfl w2.heap.size 24 (.slice none 0 0) 1 24 Tryz.underlying22 li_ints rfl Nat.one_pos (.slice va m vc) m vs rfl HO2'.out (some ⟨w8.heap.size, 0, none⟩) 1 1 [.slice (some ⟨w5.heap.size, 0, none⟩) k k] rfl rfl no_none (one_news w8 _ _) (slice_oneCell _ _ _) M1.out M2.out M3.out ?_; refine Stop.of ?_)
                refine Stop.go ?_
                intro a5 c5 w9 own5 g5
                have hsn9 : OwnM w9 w2.heap.size (.slice a5 (m + 1) c5) (Kt ++ [X]) := by
                  have own5' : w9.ownsRow w2.heap.size 24 1 (.slice a5 (m + 1) c5) (Kt.length + 1) (vs ++ [.slice (some ⟨w5.heap.size, 0, none⟩) X.length k]) := by rw [← HML.out, HXL.out]; exact own5
                  exact OwnM.snoc (by rw [← HML.out]; exact HOO.out) HIN.out HE.out HB2'.out (HSR2.out.keep (Below.heap_alloc _ _ _ HSR2.out.lt)) hg5 (Nat.le_of_eq HXL.out) HBK.out.size g5 own5'
                have hB9 : Below w2.heap.size w2 w9 := (HBK.out.trans (HB2'.out.mono HBK.out.size)).grown g5 M3.out (fun q hq => (HO2'.out.lt q hq).1)
                rw [← HKT.out] at hsn9
                go_wp2
                exact ⟨⟨f + 1, by omega, by go_num, hsn9, hB9⟩, by simp [intOf]; omega⟩
      · have hfi : f ∈ J := by simpa using hfJ
        rw [hfJ] at HCV
        have HKT := hid (kernTo_succ_in (R := R) (n := k) hfi)
        clear hfJ hfi
        go_wp2_with (go_at_call 77; refine HCV.out.mono ?_; rintro e w3 ⟨rfl, rfl⟩)
        exact ⟨⟨f + 1, by omega, by go_num, by rw [HKT.out]; exact HO.out, HBK.out⟩, by simp [intOf]; omega⟩
    · obtain rfl : f = k := by omega
      rw [kernTo_all] at ho
      go_wp2
      go_ret
      exact ⟨_, w2.heap.size, rfl, hsz, ho, HBW.out.trans (hbk.mono hsz)⟩
end Go.Proofs.YtfipebkhomppmaaGreat

namespace Go.Proofs.YtfipebkhomppmaaGreat
open Go.RowKit
set_option linter.unusedVariables false

theorem region_cut {P : Program} {c : Code} {Q : Exit → Act → World → Prop} {a : Act} {w : World} (R : Act → Act → World → Prop) (h1 : c.wp P (fun e a' w' => e = .normal ∧ R a a' w') a w) (h2 : ∀ a' w', R a a' w' → Q .normal a' w') : c.wp P Q a w :=
  Code.wp_mono (fun e a' w' ⟨he, hr⟩ => by subst he; exact h2 a' w' hr) h1

theorem prim1 (w : World) : PredI Tryz.prog 117 #[] w (fun n => decide (n ≠ 0)) := by
  intro x W hb
  by_cases e : x = 0
  · subst e
    go_enter Tryz.func117, Tryz.ntmps117
    go_wp2
    go_ret
    exact ⟨rfl, Below.refl _ _⟩
  · have hd : (x == 0) = false := by simpa using e
    have HE := hid e
    clear e
    go_enter Tryz.func117, Tryz.ntmps117
    go_wp2
    go_ret
    exact ⟨ret_bool (by have := HE.out; simp [this]), Below.refl _ _⟩

theorem firstNz_zero : ∀ {l : List Int}, (∀ x ∈ l, x = 0) → firstNz l = 0
  | [], _ => rfl
  | x :: l, h => by unfold firstNz; rw [if_pos (h x (by simp))]; exact firstNz_zero fun y hy => h y (by simp [hy])

theorem idx_nz (l : List Int) : (idxP (fun n => decide (n ≠ 0)) l 0 = -1 ∧ firstNz l = 0) ∨ ∃ k : Nat, k < l.length ∧ idxP (fun n => decide (n ≠ 0)) l 0 = (k : Int) ∧ firstNz l = l[k]?.getD 0 := by
  rw [idxP_find]
  cases h : l.findIdx? (fun n => decide (n ≠ 0)) with
  | none =>
    left
    refine ⟨rfl, firstNz_zero fun x hx => ?_⟩
    have := List.findIdx?_eq_none_iff.1 h x hx
    simpa using this
  | some k =>
    right
    obtain ⟨h1, h2, h3⟩ := List.findIdx?_eq_some_iff_getElem.1 h
    refine ⟨k, h1, by simp, ?_⟩
    have hv : ∀ j (hj : j < l.length), vec l j = l[j] := fun j hj => vec_lt hj
    have := firstNz_at (l := l) (i := k) (fun j hj => by
      rw [hv j (by omega)]
      have := h3 j hj
      simpa using this) (by rw [hv k h1]; simpa using h2)
    rw [this]; rfl

set_option maxRecDepth 100000 in
set_option maxHeartbeats 4000000 in
theorem primitive_c (w : World) (b n cap : Nat) (l : List Int) (hn : l.length = n) (hm : n ≤ maxLen) (H : SpRow w b l) (hB : BndL 4611686018427387904 l) :
    Calls Tryz.prog 110 #[.slice (some ⟨b, 0, none⟩) n cap] w fun e w' => e = .returned (.slice (some ⟨b, 0, none⟩) n cap) ∧ SpRow w' b (primV l) ∧ Keep (fun k => k ≠ b) w w' := by
  have HS := hid (shortened_c w b n cap l hn hm H hB)
  have hsl : (shortF l).length = n := by rw [shortF_len, hn]
  have hsb : BndL 4611686018427387904 (shortF l) := by
    refine mem_vec (P := fun x => -((4611686018427387904 : Nat) : Int) ≤ x ∧ x ≤ ((4611686018427387904 : Nat) : Int)) fun c => ?_
    have h1 := shortF_le l c
    have h2 := vec_mem (P := fun x => -((4611686018427387904 : Nat) : Int) ≤ x ∧ x ≤ ((4611686018427387904 : Nat) : Int)) (by omega) hB c
    omega
  have hp : primV l = if firstNz (shortF l) < 0 then negF (shortF l) else shortF l := rfl
  rw [hp]
  obtain ⟨s, hs⟩ : ∃ s, s = shortF l := ⟨_, rfl⟩
  rw [← hs] at HS hsl hsb ⊢
  have HSL := hid hsl
  have HSB := hid hsb
  have hm9 := hm
  unfold maxLen at hm9
  clear hn H hB hs hp hsl hsb
  rcases idx_nz s with ⟨hi, hf⟩ | ⟨k, hks, hi, hf⟩
  · rw [hf]
    have HIX := hid hi
    clear hi hf
    go_enter Tryz.func110, Tryz.ntmps110
    go_wp2_with (go_at_call 79; refine HS.out.mono ?_; rintro e w1 ⟨rfl, hr1, hk1⟩; refine Stop.of ?_)
    refine Stop.go ?_
    have HI := hid (indexI w1 (some ⟨b, 0, none⟩) n cap s HSL.out hm hr1.ints 117 #[] _ (enters_of Tryz.func117 (by kernel_rfl) rfl) (prim1 w1))
    rw [HIX.out] at HI
    have HR1 := hid hr1
    have HK1 := hid hk1
    clear hr1 hk1 HS
    go_wp2_with (go_at_call 71; refine HI.out.mono ?_; rintro e w2 ⟨rfl, hb2⟩)
    go_ret
    exact ⟨rfl, HR1.out.keep (hb2.block b HR1.out.lt), HK1.out.trans (Keep.of_below hb2)⟩
  · rw [hf]
    obtain ⟨x, hx⟩ : ∃ x, x = s[k]?.getD 0 := ⟨_, rfl⟩
    rw [← hx]
    have hkn : k < n := by rw [← HSL.out]; exact hks
    have i1 : (0 : Int) ≤ (k : Int) := by omega
    have i2 : (k : Int) < (n : Int) := by omega
    have HIX := hid hi
    have HX := hid hx
    have HKS := hid hks
    clear hi hf hx hks
    by_cases hxn : x < 0
    · rw [if_pos hxn]
      have hd : decide (x < 0) = true := decide_eq_true hxn
      clear hxn
      go_enter Tryz.func110, Tryz.ntmps110
      go_wp2_with (go_at_call 79; refine HS.out.mono ?_; rintro e w1 ⟨rfl, hr1, hk1⟩; refine Stop.of ?_)
      refine Stop.go ?_
      have HI := hid (indexI w1 (some ⟨b, 0, none⟩) n cap s HSL.out hm hr1.ints 117 #[] _ (enters_of Tryz.func117 (by kernel_rfl) rfl) (prim1 w1))
      rw [HIX.out] at HI
      have hc1 := hr1.cell HKS.out
      rw [← HX.out] at hc1
      have hlt1 := hr1.lt
      have HR1 := hid hr1
      have HK1 := hid hk1
      clear hr1 hk1 HS
      go_wp2_with (go_at_call 71; refine HI.out.mono ?_; rintro e w2 ⟨rfl, hb2⟩; refine Stop.of ?_)
      refine Stop.go ?_
      have hc2 : w2.cell? ⟨b, k, none⟩ = some (.int .i64 x) := (hb2.cell (p := ⟨b, k, none⟩) hlt1).trans hc1
      have HR2 := hid (HR1.out.keep (hb2.block b HR1.out.lt))
      have HK2 := hid (HK1.out.trans (Keep.of_below hb2))
      clear HI hb2 hc1 HR1 HK1
      go_wp2
      go_loopw [20] (fun i wr => ∃ t : Nat, t ≤ n ∧ i = .int .i64 t ∧ SpRow wr b (halfF (fun x => -x) s t) ∧ Keep (fun k => k ≠ b) w2 wr) (fun i _ => n - (intOf i).toNat)
      case atStart => exact ⟨0, Nat.zero_le _, rfl, by rw [halfF_zero]; exact HR2.out, Keep.refl _ _⟩
      case round =>
        obtain ⟨t, ht, rfl, hr, hkp⟩ := hrel
        by_cases hltt : t < n
        · have htl : t < s.length := by rw [HSL.out]; exact hltt
          have d2 := hr.cell (j := t) (by rw [halfF_len]; exact htl)
          rw [halfF_at _ htl] at d2
          have hz := hr.frozen t
          have hbd := HSB.out.get htl
          have hst := halfF_set (fun x => -x) htl
          have HSET := hid (fun (X : World) (hX : X.heap[b]? = wr.heap[b]?) v => (hr.keep hX).set t (by rw [halfF_len]; exact htl) v)
          have hgs := hr.lt
          obtain ⟨y, hy⟩ : ∃ y, y = s[t]?.getD 0 := ⟨_, rfl⟩
          rw [← hy] at d2 hbd hst
          have HST := hid hst
          have HKP := hid hkp
          have hwn : IntKind.i64.wrap (-y) = -y := IntWalk.i64_in _ (by omega)
          have ht0 : (0 : Int) ≤ (t : Int) := by omega
          have ht1 : (t : Int) < (n : Int) := by omega
          clear hr hkp hst hy htl hc2 i1 i2
          go_wp2
          refine ⟨⟨t + 1, by omega, by go_num, ?_, HKP.out.trans (Keep.set wr b t _)⟩, by simp [intOf]; omega⟩
          rw [← HST.out]
          exact HSET.out wr rfl _
        · obtain rfl : t = n := by omega
          go_wp2
          go_ret
          rw [← HSL.out, halfF_all] at hr
          exact ⟨rfl, hr, HK2.out.trans hkp⟩
    · rw [if_neg hxn]
      have hd : decide (x < 0) = false := decide_eq_false hxn
      clear hxn
      go_enter Tryz.func110, Tryz.ntmps110
      go_wp2_with (go_at_call 79; refine HS.out.mono ?_; rintro e w1 ⟨rfl, hr1, hk1⟩; refine Stop.of ?_)
      refine Stop.go ?_
      have HI := hid (indexI w1 (some ⟨b, 0, none⟩) n cap s HSL.out hm hr1.ints 117 #[] _ (enters_of Tryz.func117 (by kernel_rfl) rfl) (prim1 w1))
      rw [HIX.out] at HI
      have hc1 := hr1.cell HKS.out
      rw [← HX.out] at hc1
      have hlt1 := hr1.lt
      have HR1 := hid hr1
      have HK1 := hid hk1
      clear hr1 hk1 HS
      go_wp2_with (go_at_call 71; refine HI.out.mono ?_; rintro e w2 ⟨rfl, hb2⟩; refine Stop.of ?_)
      refine Stop.go ?_
      have hc2 : w2.cell? ⟨b, k, none⟩ = some (.int .i64 x) := (hb2.cell (p := ⟨b, k, none⟩) hlt1).trans hc1
      have HR2 := hid (HR1.out.keep (hb2.block b HR1.out.lt))
      have HK2 := hid (HK1.out.trans (Keep.of_below hb2))
      clear HI hb2 hc1 HR1 HK1
      go_wp2
      go_ret
      exact ⟨rfl, HR2.out, HK2.out⟩

theorem okM_ok {M : Mask} (h : okM M = true) : MaskOk M (colsM M) ∧ 1 ≤ M.length ∧ M.length ≤ 6 ∧ 1 ≤ colsM M ∧ colsM M ≤ 10 := by
  unfold okM inB at h
  simp only [Bool.and_eq_true, decide_eq_true_eq, List.all_eq_true] at h
  obtain ⟨⟨h1, h2⟩, h3⟩ := h
  have hr : ∀ r ∈ M, r.length = colsM M ∧ (1 ≤ r.length ∧ r.length ≤ 10) ∧ ∀ x ∈ r, -1 ≤ x ∧ x ≤ 1 := fun r hr => by
    have h4 := h3 r hr
    unfold okMRow inB at h4
    simp only [Bool.and_eq_true, decide_eq_true_eq, List.all_eq_true] at h4
    obtain ⟨h5, ⟨h6, h7⟩, h8⟩ := h4
    exact ⟨h5, ⟨by omega, by omega⟩, h8⟩
  have h0 : M.length ≠ 0 := by omega
  have hm0 : M[0]'(by omega) ∈ M := List.getElem_mem _
  obtain ⟨k1, k2, _⟩ := hr _ hm0
  refine ⟨⟨fun r hr' => (hr r hr').1, by omega, fun r hr' c => vec_mem (P := fun x => -1 ≤ x ∧ x ≤ 1) (by decide) (hr r hr').2.2 c⟩, by omega, by omega, by omega, by omega⟩

theorem cols_all {M : List (List Int)} {n : Nat} (h : ∀ r ∈ M, r.length = n) : colsF M (allI n) = M := by
  unfold colsF
  conv => rhs; rw [← List.map_id M]
  refine List.map_congr_left fun r hr => ?_
  refine List.ext_getElem (by simp [allI, h r hr]) fun i h1 h2 => ?_
  simp only [allI, List.getElem_map, List.getElem_range, id]
  simp only [Int.toNat_natCast]
  exact vec_lt _

theorem allI_mem {n : Nat} {j : Int} (h : j ∈ allI n) : 0 ≤ j ∧ j < (n : Int) := by
  unfold allI at h
  obtain ⟨i, hi, rfl⟩ := List.mem_map.1 h
  have := List.mem_range.1 hi
  omega

theorem rows_head {w : World} {a : Option Addr} {M : Mask} (H : RowsAt w a M) (h0 : 0 < M.length) :
    ∃ b off ra rc, a = some ⟨b, off, none⟩ ∧ b < w.heap.size ∧ w.cell? ⟨b, off, none⟩ = some (.slice ra (colsM M) rc) := by
  obtain ⟨b, off, ra, rn, rc, rfl, hb, hc, hn, _, _⟩ := H 0 h0
  refine ⟨b, off, ra, rc, rfl, hb, ?_⟩
  have e : colsM M = rn := by unfold colsM; rw [List.getElem?_eq_getElem h0]; exact hn
  rw [e]; simpa using hc

set_option maxHeartbeats 1000000 in
theorem lkernel_c (w : World) (a : Option Addr) (n cap : Nat) (M : Mask) (hn : M.length = n) (hm : n ≤ maxLen) (H : RowsAt w a M) :
    Calls Tryz.prog 16 #[.slice a n cap] w fun e w' => ∃ v base, w.heap.size ≤ base ∧ Below w.heap.size w w' ∧
      ((okM M = false ∧ e = .returned (.tuple #[.slice none 0 0, .int .i64 1])) ∨ (okM M = true ∧ e = .returned (.tuple #[v, .int .i64 0]) ∧ OwnM w' base v (kerSP M (allI (colsM M))))) := by
  have HV := hid (maskValid_c w a n cap M hn hm H)
  cases hok : okM M
  · rw [hok] at HV
    clear hn H
    go_enter Tryz.func16, Tryz.ntmps16
    go_wp2_with (go_at_call 43; refine HV.out.mono ?_; rintro e w1 ⟨rfl, hb1⟩)
    go_ret2
    exact ⟨.slice none 0 0, w.heap.size, Nat.le_refl _, hb1, .inl ⟨by first | trivial | rfl, rfl⟩⟩
  · rw [hok] at HV
    obtain ⟨hM, h1, h6, hc1, hc10⟩ := okM_ok hok
    obtain ⟨b, off, ra, rc, rfl, hb, hc⟩ := rows_head H (by omega)
    have HR := hid H
    have HN := hid hn
    have HM := hid hM
    have hn0 : 0 < n := by omega
    obtain ⟨W, hW⟩ : ∃ W, W = colsM M := ⟨_, rfl⟩
    rw [← hW] at hc hc1 hc10 HM ⊢
    clear hn H hM hok hW
    go_enter Tryz.func16, Tryz.ntmps16
    go_wp2_with (go_at_call 43; refine HV.out.mono ?_; rintro e w1 ⟨rfl, hb1⟩; refine Stop.of ?_)
    refine Stop.go ?_
    have hc' : w1.cell? ⟨b, off, none⟩ = some (.slice ra W rc) := (hb1.cell (p := ⟨b, off, none⟩) hb).trans hc
    have HRR := hid (HR.out.below hb1)
    go_wp2_with (go_at_call 45; refine (all_c _ W (by omega)).mono ?_; rintro e w2 ⟨v, rfl, ho2, hb2⟩; refine Stop.of ?_)
    refine Stop.go ?_
    obtain ⟨va, vc, rfl, hi2, hm2⟩ := ints_of_own ho2 (allI_len W)
    have HR2 := hid (HRR.out.below hb2)
    have HI2 := hid hi2
    clear hi2 ho2
    go_wp2_with (go_at_call 44; refine (pkernel_c w2 _ n cap M HN.out (by omega) HM.out HR2.out va W vc (allI W) (allI_len W) hc1 (by omega) HI2.out (fun j hj => allI_mem hj)).mono ?_; rintro e w3 ⟨v3, base3, rfl, hbs3, hO3, hb3⟩; refine Stop.of ?_)
    refine Stop.go ?_
    have hbw := chain (chain hb1 hb2) hb3
    have hbs : w.heap.size ≤ base3 := by have := hb1.size; have := hb2.size; omega
    have HO3 := hid hO3
    clear hO3
    go_wp2
    go_ret2
    exact ⟨v3, base3, hbs, hbw, .inr ⟨by first | trivial | rfl, rfl, HO3.out⟩⟩

set_option maxHeartbeats 1000000 in
theorem rank_c (w : World) (a : Option Addr) (n cap : Nat) (M : Mask) (hn : M.length = n) (hm : n ≤ maxLen) (H : RowsAt w a M) :
    Calls Tryz.prog 108 #[.slice a n cap] w fun e w' => Below w.heap.size w w' ∧
      ((okM M = false ∧ e = .returned (.tuple #[.int .i64 0, .int .i64 1])) ∨ (okM M = true ∧ e = .returned (.tuple #[.int .i64 (rankF M (colsM M)), .int .i64 0]))) := by
  have HV := hid (maskValid_c w a n cap M hn hm H)
  cases hok : okM M
  · rw [hok] at HV
    clear hn H
    go_enter Tryz.func108, Tryz.ntmps108
    go_wp2_with (go_at_call 43; refine HV.out.mono ?_; rintro e w1 ⟨rfl, hb1⟩)
    go_ret2
    exact ⟨hb1, .inl ⟨by first | trivial | rfl, rfl⟩⟩
  · rw [hok] at HV
    obtain ⟨hM, h1, h6, hc1, hc10⟩ := okM_ok hok
    obtain ⟨b, off, ra, rc, rfl, hb, hc⟩ := rows_head H (by omega)
    have HR := hid H
    have HN := hid hn
    have HM := hid hM
    have hn0 : 0 < n := by omega
    obtain ⟨W, hW⟩ : ∃ W, W = colsM M := ⟨_, rfl⟩
    rw [← hW] at hc hc1 hc10 HM ⊢
    obtain ⟨rk, hrk⟩ : ∃ rk, rk = rankF M W := ⟨_, rfl⟩
    rw [← hrk]
    have HRK := hid hrk
    have hz : (0 : Int) < (n : Int) := by omega
    have hW1 : W ≤ 1000 := by omega
    have hn6 : n ≤ 6 := by omega
    clear hn H hM hok hW hrk
    go_enter Tryz.func108, Tryz.ntmps108
    go_wp2_with (go_at_call 43; refine HV.out.mono ?_; rintro e w1 ⟨rfl, hb1⟩; refine Stop.of ?_)
    refine Stop.go ?_
    have HS := hid (fun (X : World) (hX : Below w.heap.size w X) => (hX.cell (p := ⟨b, off, none⟩) hb).trans hc)
    have HRR := hid (fun (X : World) (hX : Below w.heap.size w X) => HR.out.below hX)
    have HB1 := hid hb1
    clear hb1 HR
    go_wp2
    refine region_cut (fun fr fr' X => ∃ v7 v8 v9 v10 v11 v12 v13 v14 v15 v16 v17 v18, fr' = ((((((((((((((fr.put (some 7) v7).put (some 8) v8).put (some 9) v9).put (some 10) v10).put (some 11) v11).put (some 12) v12).put (some 13) v13).put (some 14) v14).put (some 15) v15).put (some 16) v16).put (some 17) v17).put (some 18) v18).put (some 19) (.int .i64 rk)).put (some 2) (.int .i64 rk)).put (some 3) (.int .i64 0) ∧ Below w.heap.size w X) ?_ ?_
    · refine plain_region (fun j' X => wAll j' = true → X.cell? ⟨b, off, none⟩ = some (.slice ra W rc)) (by kernel_rfl) ?_
      have hbd : Below w.heap.size w w1.drew := HB1.out.drew
      generalize w1.drew = wd at hbd ⊢
      refine AnyT.takeD (i := 0) (v := .slice (some ⟨b, off, none⟩) n cap) rfl rfl (by kernel_rfl) (by kernel_rfl) (by kernel_rfl) (by first | exact (fun _ _ _ h => h) | exact (fun _ _ _ h => absurd h.1 (by simp))) (by kernel_rfl) (by rfl) (by rintro w' q5; go_simp) (HS.out _ hbd) ?_; go_frame
      refine AnyT.takeD (i := 1) (v := .slice (some ⟨b, off, none⟩) n cap) rfl rfl (by kernel_rfl) (by kernel_rfl) (by kernel_rfl) (by first | exact (fun _ _ _ h => h) | exact (fun _ _ _ h => absurd h.1 (by simp))) (by kernel_rfl) (by rfl) (by rintro w' q5; go_simp) (HS.out _ hbd) ?_; go_frame
      refine AnyT.takeD (i := 2) (v := .pointer (some ⟨b, off, none⟩)) rfl rfl (by kernel_rfl) (by kernel_rfl) (by kernel_rfl) (by first | exact (fun _ _ _ h => h) | exact (fun _ _ _ h => absurd h.1 (by simp))) (by kernel_rfl) (by rfl) (by rintro w' q5; go_simp) (HS.out _ hbd) ?_; go_frame
      refine AnyT.takeD (i := 3) (v := .slice ra W rc) rfl rfl (by kernel_rfl) (by kernel_rfl) (by kernel_rfl) (by first | exact (fun _ _ _ h => h) | exact (fun _ _ _ h => absurd h.1 (by simp))) (by kernel_rfl) (by rfl) (by rintro w' q5; go_simp) (HS.out _ hbd) ?_; go_frame
      refine AnyT.takeD (i := 4) (v := .int .i64 W) rfl rfl (by kernel_rfl) (by kernel_rfl) (by kernel_rfl) (by first | exact (fun _ _ _ h => h) | exact (fun _ _ _ h => absurd h.1 (by simp))) (by kernel_rfl) (by rfl) (by rintro w' q5; go_simp) (HS.out _ hbd) ?_; go_frame
      refine AnyT.takeD (i := 7) (v := .slice (some ⟨b, off, none⟩) n cap) rfl rfl (by kernel_rfl) (by kernel_rfl) (by kernel_rfl) (by first | exact (fun _ _ _ h => h) | exact (fun _ _ _ h => absurd h.1 (by simp))) (by kernel_rfl) (by rfl) (by rintro w' q5; go_simp) (HS.out _ hbd) ?_; go_frame
      refine AnyT.takeD (i := 8) (v := .pointer (some ⟨b, off, none⟩)) rfl rfl (by kernel_rfl) (by kernel_rfl) (by kernel_rfl) (by first | exact (fun _ _ _ h => h) | exact (fun _ _ _ h => absurd h.1 (by simp))) (by kernel_rfl) (by rfl) (by rintro w' q5; go_simp) (HS.out _ hbd) ?_; go_frame
      refine AnyT.takeD (i := 9) (v := .slice ra W rc) rfl rfl (by kernel_rfl) (by kernel_rfl) (by kernel_rfl) (by first | exact (fun _ _ _ h => h) | exact (fun _ _ _ h => absurd h.1 (by simp))) (by kernel_rfl) (by rfl) (by rintro w' q5; go_simp) (HS.out _ hbd) ?_; go_frame
      refine AnyT.takeD (i := 10) (v := .int .i64 W) rfl rfl (by kernel_rfl) (by kernel_rfl) (by kernel_rfl) (by first | exact (fun _ _ _ h => h) | exact (fun _ _ _ h => absurd h.1 (by simp))) (by kernel_rfl) (by rfl) (by rintro w' q5; go_simp) (HS.out _ hbd) ?_; go_frame
      refine AnyT.next (i := 5) (by kernel_rfl) rfl (wpOp_of_list rfl ?_)
      go_wp2_with (go_at_call 45; refine (all_c wd W hW1).mono ?_; rintro e w2 ⟨v, rfl, ho2, hb2⟩; refine Stop.of ?_)
      refine Stop.go ?_
      obtain ⟨va, vc, rfl, hi2, hm2⟩ := ints_of_own ho2 (allI_len W)
      have hbw2 := chain hbd hb2
      have HCH := hid (chosen_c w2 _ n cap M HN.out (by omega) (HRR.out _ hbw2) va W vc (allI W) (allI_len W) hW1 hi2 (fun r hr j hj => by rw [HM.out.wid r hr]; exact allI_mem hj) 76 #[] (enters_of Tryz.func76 (by kernel_rfl) rfl) (fun _ => []) (none_more w2 n) (fun i _ => ⟨by simp, by simp; omega⟩))
      rw [chosenF_none, cols_all HM.out.wid] at HCH
      clear ho2 hi2 hb2
      go_wp2
      refine ⟨fun _ => HS.out _ hbw2, ?_⟩
      refine AnyT.next (i := 6) (by kernel_rfl) rfl (wpOp_of_list rfl ?_)
      go_wp2_with (go_at_call 51; refine HCH.out.mono ?_; rintro e w3 ⟨v3, rfl, hO3, hb3⟩; refine Stop.of ?_)
      refine Stop.go ?_
      have hbw3 := chain hbw2 hb3
      have HRD := hid (reduce_c w3 w2.heap.size v3 M W (OwnT.of hO3) hb3.size HM.out.wid hW1 (by rw [HN.out]; omega) (by rw [HN.out]; omega) W (Nat.le_refl _) (fun t ht r hr => ⟨(HM.out.bnd ht r hr).1, fun x hx => by have := (HM.out.bnd ht r hr).2 x hx; omega⟩))
      have hbs2 := hbw2.size
      clear hO3 hb3 HCH
      go_wp2
      refine ⟨fun _ => HS.out _ hbw3, ?_⟩
      refine AnyT.next (i := 11) (by kernel_rfl) rfl (wpOp_of_list rfl ?_)
      go_wp2_with (go_at_call 53; refine HRD.out.mono ?_; rintro e w4 ⟨v4, rfl, hO4, hT4, hb4⟩; refine Stop.of ?_)
      refine Stop.go ?_
      have hbw4 : Below w.heap.size w w4 := hbw3.trans (hb4.mono hbs2)
      rw [intsJ_vals] at hO4
      obtain ⟨ja, jc, rfl, hJI, hJm⟩ := ints_of_own hO4 (intsJ_len _)
      have e4 : (pRed M W).2.length = rk := HRK.out.symm
      rw [e4]
      clear hO4 hT4 hb4 hJI hJm e4 HRD
      go_wp2
      refine ⟨fun _ => HS.out _ hbw4, ?_⟩
      refine AnyT.takeD (i := 12) (v := .int .i64 rk) rfl rfl (by kernel_rfl) (by kernel_rfl) (by kernel_rfl) (by first | exact (fun _ _ _ h => h) | exact (fun _ _ _ h => absurd h.1 (by simp))) (by kernel_rfl) (by rfl) (by rintro w' q5; go_simp) (HS.out _ hbw4) ?_; go_frame
      refine AnyT.takeD (i := 13) (v := .int .i64 rk) rfl rfl (by kernel_rfl) (by kernel_rfl) (by kernel_rfl) (by first | exact (fun _ _ _ h => h) | exact (fun _ _ _ h => absurd h.1 (by simp))) (by kernel_rfl) (by rfl) (by rintro w' q5; go_simp) (HS.out _ hbw4) ?_; go_frame
      refine AnyT.takeD (i := 14) (v := .int .i64 0) rfl rfl (by kernel_rfl) (by kernel_rfl) (by kernel_rfl) (by first | exact (fun _ _ _ h => h) | exact (fun _ _ _ h => absurd h.1 (by simp))) (by kernel_rfl) (by rfl) (by rintro w' q5; go_simp) (HS.out _ hbw4) ?_; go_frame
      exact ⟨by kernel_rfl, rfl, .slice (some ⟨b, off, none⟩) n cap, .slice (some ⟨b, off, none⟩) n cap, .pointer (some ⟨b, off, none⟩), .slice ra W rc, .int .i64 W, .slice va W vc, v3, .slice (some ⟨b, off, none⟩) n cap, .pointer (some ⟨b, off, none⟩), .slice ra W rc, .int .i64 W, .slice ja rk jc, (by go_frame), hbw4⟩
    · rintro a5 w5 ⟨v7, v8, v9, v10, v11, v12, v13, v14, v15, v16, v17, v18, rfl, hb5⟩
      go_frame
      go_wp2
      go_ret2
      exact ⟨hb5, .inr ⟨by first | trivial | rfl, rfl⟩⟩
end Go.Proofs.YtfipebkhomppmaaGreat

namespace Go.Proofs.YtfipebkhomppmaaGreat
open Go.RowKit
set_option linter.unusedVariables false

def mixTo (p : List Int) (j : Nat) (r : List Int) (k : Nat) : List Int := (List.range k).map (fun c => vec r c * vec p j - vec p c * vec r j)
theorem mixTo_len (p : List Int) (j : Nat) (r : List Int) (k : Nat) : (mixTo p j r k).length = k := by simp [mixTo]
theorem mixTo_succ (p : List Int) (j : Nat) (r : List Int) (k : Nat) : mixTo p j r (k + 1) = mixTo p j r k ++ [vec r k * vec p j - vec p k * vec r j] := by
  unfold mixTo; rw [List.range_succ, List.map_append]; rfl
theorem mixTo_all {p r : List Int} (j : Nat) (h : p.length = r.length) : withoutF p j r = primF (mixTo p j r r.length) := by
  unfold withoutF mixTo
  congr 1
  refine List.ext_getElem (by simp [h]) fun i h1 h2 => ?_
  simp only [List.length_zipWith, List.length_map, List.length_range] at h1 h2
  simp only [List.getElem_zipWith, List.getElem_map, List.getElem_range]
  rw [vec_lt (show i < r.length by omega), vec_lt (show i < p.length by omega)]

set_option maxRecDepth 100000 in
set_option maxHeartbeats 4000000 in
theorem r3without_c (w : World) (a a2 : Option Addr) (n cap cap2 : Nat) (r p : List Int) (hn : r.length = n) (hn2 : p.length = n) (hm : n ≤ 1000) (H : IntsAt w a r) (H2 : IntsAt w a2 p) (hB : BndL 1073741824 r) (hB2 : BndL 1073741824 p) (j : Nat) (hj : j < n) :
    Calls Tryz.prog 93 #[.slice a n cap, .slice a2 n cap2, .int .i64 j] w fun e w' => ∃ v base, e = .returned v ∧ w.heap.size ≤ base ∧ w'.ownsRow base 3 1 v n ((withoutF p j r).map (Value.int .i64)) ∧ Below w.heap.size w w' := by
  rw [mixTo_all j (show p.length = r.length by omega), hn]
  have HN := hid hn
  have HN2 := hid hn2
  have HH := hid H
  have HH2 := hid H2
  have HB := hid hB
  have HB2 := hid hB2
  clear hn hn2 H H2 hB hB2
  go_enter Tryz.func93, Tryz.ntmps93
  go_wp2
  go_loopw [7, 11] (fun v i wr => ∃ k : Nat, k ≤ n ∧ i = .int .i64 k ∧ wr.ownsRow w.heap.size 3 1 v k ((mixTo p j r k).map (Value.int .i64)) ∧ Below w.heap.size w wr) (fun _ i _ => n - (intOf i).toNat)
  case atStart => exact ⟨0, Nat.zero_le _, rfl, World.ownsRow_nil _ _ _ _, Below.refl _ _⟩
  case round =>
    obtain ⟨k, hk, rfl, hown, hbt⟩ := hrel
    by_cases hlt : k < n
    · obtain ⟨b, off, rfl, hbs, hc1⟩ := HH.out k (by rw [HN.out]; exact hlt)
      obtain ⟨b', off', e', _, hc2⟩ := HH.out j (by rw [HN.out]; exact hj)
      cases e'
      obtain ⟨b2, off2, rfl, hbs2, hc3⟩ := HH2.out k (by rw [HN2.out]; exact hlt)
      obtain ⟨b2', off2', e', _, hc4⟩ := HH2.out j (by rw [HN2.out]; exact hj)
      cases e'
      have d1 := HB.out.get (show k < r.length by rw [HN.out]; exact hlt)
      have d2 := HB.out.get (show j < r.length by rw [HN.out]; exact hj)
      have d3 := HB2.out.get (show k < p.length by rw [HN2.out]; exact hlt)
      have d4 := HB2.out.get (show j < p.length by rw [HN2.out]; exact hj)
      have hsn : (mixTo p j r (k + 1)).map (Value.int .i64) = (mixTo p j r k).map (Value.int .i64) ++ [.int .i64 (r[k]?.getD 0 * p[j]?.getD 0 - p[k]?.getD 0 * r[j]?.getD 0)] := by rw [mixTo_succ, List.map_append]; rfl
      obtain ⟨x, hx⟩ : ∃ x, x = r[k]?.getD 0 := ⟨_, rfl⟩
      obtain ⟨rj, hrj⟩ : ∃ x, x = r[j]?.getD 0 := ⟨_, rfl⟩
      obtain ⟨y, hy⟩ : ∃ x, x = p[k]?.getD 0 := ⟨_, rfl⟩
      obtain ⟨pj, hpj⟩ : ∃ x, x = p[j]?.getD 0 := ⟨_, rfl⟩
      rw [← hx] at hc1 d1 hsn
      rw [← hrj] at hc2 d2 hsn
      rw [← hy] at hc3 d3 hsn
      rw [← hpj] at hc4 d4 hsn
      have e1 := mul_bnd (show -(1073741824 : Int) ≤ x ∧ x ≤ 1073741824 by omega) (show -(1073741824 : Int) ≤ pj ∧ pj ≤ 1073741824 by omega)
      have e2 := mul_bnd (show -(1073741824 : Int) ≤ y ∧ y ≤ 1073741824 by omega) (show -(1073741824 : Int) ≤ rj ∧ rj ≤ 1073741824 by omega)
      obtain ⟨m1, hm1⟩ : ∃ m, m = x * pj := ⟨_, rfl⟩
      obtain ⟨m2, hm2⟩ : ∃ m, m = y * rj := ⟨_, rfl⟩
      rw [← hm1, ← hm2] at hsn
      rw [← hm1] at e1
      rw [← hm2] at e2
      obtain ⟨z, hz⟩ : ∃ m, m = m1 - m2 := ⟨_, rfl⟩
      rw [← hz] at hsn
      have w1 : IntKind.i64.wrap (x * pj) = m1 := by rw [← hm1]; exact IntWalk.i64_in _ (by omega)
      have w2 : IntKind.i64.wrap (y * rj) = m2 := by rw [← hm2]; exact IntWalk.i64_in _ (by omega)
      have w3 : IntKind.i64.wrap (m1 - m2) = z := by rw [← hz]; exact IntWalk.i64_in _ (by omega)
      obtain ⟨va, vc, rfl⟩ := ownsRow_slice hown
      have HSN := hid hsn
      have HO := hid hown
      have HBT := hid hbt
      have HS := hid (fun (X : World) (hX : Below w.heap.size w X) => show X.cell? ⟨b, off + k, none⟩ = some (.int .i64 x) ∧ X.cell? ⟨b, off + j, none⟩ = some (.int .i64 rj) ∧ X.cell? ⟨b2, off2 + k, none⟩ = some (.int .i64 y) ∧ X.cell? ⟨b2, off2 + j, none⟩ = some (.int .i64 pj) from
        have hbw := hX
        ⟨(hbw.cell (p := ⟨b, off + k, none⟩) hbs).trans hc1, (hbw.cell (p := ⟨b, off + j, none⟩) hbs).trans hc2, (hbw.cell (p := ⟨b2, off2 + k, none⟩) hbs2).trans hc3, (hbw.cell (p := ⟨b2, off2 + j, none⟩) hbs2).trans hc4⟩)
      have M1 := hid (show k + 1 ≤ maxLen by unfold maxLen; omega)
      have M2 := hid (show (k + 1) * 8 ≤ 140737488355328 by omega)
      have M3 := hid hbt.size
      have i1 : (0 : Int) ≤ (k : Int) := by omega
      have i2 : (k : Int) < (n : Int) := by omega
      have i3 : (0 : Int) ≤ (j : Int) := by omega
      have i4 : (j : Int) < (n : Int) := by omega
      have hbsw : b < w.heap.size ∧ b2 < w.heap.size := ⟨hbs, hbs2⟩
      clear hown hbt hsn hx hrj hy hpj hm1 hm2 hz hc1 hc2 hc3 hc4 d1 d2 d3 d4 e1 e2
      go_wp2
      refine region_cut (fun fr fr' X => ∃ v14 v15 v16 v17 v18 v19 v20 v21 v22 v23 v24 v25 v26 v27 v28 v29 v30 v31 v32 v33 v34 v35, fr' = (((((((((((((((((((((((fr.put (some 14) v14).put (some 15) v15).put (some 16) v16).put (some 17) v17).put (some 18) v18).put (some 19) v19).put (some 20) v20).put (some 21) v21).put (some 22) v22).put (some 23) v23).put (some 24) v24).put (some 25) v25).put (some 26) v26).put (some 27) v27).put (some 28) v28).put (some 29) v29).put (some 30) v30).put (some 31) v31).put (some 32) v32).put (some 33) v33).put (some 34) v34).put (some 35) v35).put (some 7) v35) ∧ (∃ a3 c3, v35 = .slice a3 (k + 1) c3) ∧ X.ownsRow w.heap.size 3 1 v35 (k + 1) ((mixTo p j r (k + 1)).map (Value.int .i64)) ∧ Below w.heap.size w X) ?_ ?_
      · refine plain_region (fun j' X => wAll j' = true → X.cell? ⟨b, off + k, none⟩ = some (.int .i64 x) ∧ X.cell? ⟨b, off + j, none⟩ = some (.int .i64 rj) ∧ X.cell? ⟨b2, off2 + k, none⟩ = some (.int .i64 y) ∧ X.cell? ⟨b2, off2 + j, none⟩ = some (.int .i64 pj)) (by kernel_rfl) ?_
        have hbd : Below w.heap.size w wr.drew := HBT.out.drew
        have HO2 := hid (own_below HO.out ((Below.refl _ wr).drew))
        have HB3 := hid hbd
        generalize wr.drew = wd at hbd HO2 HB3 ⊢
        refine AnyT.takeD (i := 0) (v := .slice va k vc) rfl rfl (by kernel_rfl) (by kernel_rfl) (by kernel_rfl) (by first | exact (fun _ _ _ h => h) | exact (fun _ _ _ h => absurd h.1 (by simp))) (by kernel_rfl) (by rfl) (by rintro w' ⟨q1, q2, q3, q4⟩; go_simp) (HS.out _ hbd) ?_; go_frame
        refine AnyT.takeD (i := 1) (v := .slice (some ⟨b, off, none⟩) n cap) rfl rfl (by kernel_rfl) (by kernel_rfl) (by kernel_rfl) (by first | exact (fun _ _ _ h => h) | exact (fun _ _ _ h => absurd h.1 (by simp))) (by kernel_rfl) (by rfl) (by rintro w' ⟨q1, q2, q3, q4⟩; go_simp) (HS.out _ hbd) ?_; go_frame
        refine AnyT.takeD (i := 2) (v := .int .i64 k) rfl rfl (by kernel_rfl) (by kernel_rfl) (by kernel_rfl) (by first | exact (fun _ _ _ h => h) | exact (fun _ _ _ h => absurd h.1 (by simp))) (by kernel_rfl) (by rfl) (by rintro w' ⟨q1, q2, q3, q4⟩; go_simp) (HS.out _ hbd) ?_; go_frame
        refine AnyT.takeD (i := 3) (v := .pointer (some ⟨b, off + k, none⟩)) rfl rfl (by kernel_rfl) (by kernel_rfl) (by kernel_rfl) (by first | exact (fun _ _ _ h => h) | exact (fun _ _ _ h => absurd h.1 (by simp))) (by kernel_rfl) (by rfl) (by rintro w' ⟨q1, q2, q3, q4⟩; go_simp) (HS.out _ hbd) ?_; go_frame
        refine AnyT.takeD (i := 4) (v := .int .i64 x) rfl rfl (by kernel_rfl) (by kernel_rfl) (by kernel_rfl) (by first | exact (fun _ _ _ h => h) | exact (fun _ _ _ h => absurd h.1 (by simp))) (by kernel_rfl) (by rfl) (by rintro w' ⟨q1, q2, q3, q4⟩; go_simp) (HS.out _ hbd) ?_; go_frame
        refine AnyT.takeD (i := 5) (v := .slice (some ⟨b2, off2, none⟩) n cap2) rfl rfl (by kernel_rfl) (by kernel_rfl) (by kernel_rfl) (by first | exact (fun _ _ _ h => h) | exact (fun _ _ _ h => absurd h.1 (by simp))) (by kernel_rfl) (by rfl) (by rintro w' ⟨q1, q2, q3, q4⟩; go_simp) (HS.out _ hbd) ?_; go_frame
        refine AnyT.takeD (i := 6) (v := .int .i64 j) rfl rfl (by kernel_rfl) (by kernel_rfl) (by kernel_rfl) (by first | exact (fun _ _ _ h => h) | exact (fun _ _ _ h => absurd h.1 (by simp))) (by kernel_rfl) (by rfl) (by rintro w' ⟨q1, q2, q3, q4⟩; go_simp) (HS.out _ hbd) ?_; go_frame
        refine AnyT.takeD (i := 7) (v := .pointer (some ⟨b2, off2 + j, none⟩)) rfl rfl (by kernel_rfl) (by kernel_rfl) (by kernel_rfl) (by first | exact (fun _ _ _ h => h) | exact (fun _ _ _ h => absurd h.1 (by simp))) (by kernel_rfl) (by rfl) (by rintro w' ⟨q1, q2, q3, q4⟩; go_simp) (HS.out _ hbd) ?_; go_frame
        refine AnyT.takeD (i := 8) (v := .int .i64 pj) rfl rfl (by kernel_rfl) (by kernel_rfl) (by kernel_rfl) (by first | exact (fun _ _ _ h => h) | exact (fun _ _ _ h => absurd h.1 (by simp))) (by kernel_rfl) (by rfl) (by rintro w' ⟨q1, q2, q3, q4⟩; go_simp) (HS.out _ hbd) ?_; go_frame
        refine AnyT.takeD (i := 9) (v := .int .i64 m1) rfl rfl (by kernel_rfl) (by kernel_rfl) (by kernel_rfl) (by first | exact (fun _ _ _ h => h) | exact (fun _ _ _ h => absurd h.1 (by simp))) (by kernel_rfl) (by rfl) (by rintro w' ⟨q1, q2, q3, q4⟩; go_simp) (HS.out _ hbd) ?_; go_frame
        refine AnyT.takeD (i := 10) (v := .slice (some ⟨b2, off2, none⟩) n cap2) rfl rfl (by kernel_rfl) (by kernel_rfl) (by kernel_rfl) (by first | exact (fun _ _ _ h => h) | exact (fun _ _ _ h => absurd h.1 (by simp))) (by kernel_rfl) (by rfl) (by rintro w' ⟨q1, q2, q3, q4⟩; go_simp) (HS.out _ hbd) ?_; go_frame
        refine AnyT.takeD (i := 11) (v := .int .i64 k) rfl rfl (by kernel_rfl) (by kernel_rfl) (by kernel_rfl) (by first | exact (fun _ _ _ h => h) | exact (fun _ _ _ h => absurd h.1 (by simp))) (by kernel_rfl) (by rfl) (by rintro w' ⟨q1, q2, q3, q4⟩; go_simp) (HS.out _ hbd) ?_; go_frame
        refine AnyT.takeD (i := 12) (v := .pointer (some ⟨b2, off2 + k, none⟩)) rfl rfl (by kernel_rfl) (by kernel_rfl) (by kernel_rfl) (by first | exact (fun _ _ _ h => h) | exact (fun _ _ _ h => absurd h.1 (by simp))) (by kernel_rfl) (by rfl) (by rintro w' ⟨q1, q2, q3, q4⟩; go_simp) (HS.out _ hbd) ?_; go_frame
        refine AnyT.takeD (i := 13) (v := .int .i64 y) rfl rfl (by kernel_rfl) (by kernel_rfl) (by kernel_rfl) (by first | exact (fun _ _ _ h => h) | exact (fun _ _ _ h => absurd h.1 (by simp))) (by kernel_rfl) (by rfl) (by rintro w' ⟨q1, q2, q3, q4⟩; go_simp) (HS.out _ hbd) ?_; go_frame
        refine AnyT.takeD (i := 14) (v := .slice (some ⟨b, off, none⟩) n cap) rfl rfl (by kernel_rfl) (by kernel_rfl) (by kernel_rfl) (by first | exact (fun _ _ _ h => h) | exact (fun _ _ _ h => absurd h.1 (by simp))) (by kernel_rfl) (by rfl) (by rintro w' ⟨q1, q2, q3, q4⟩; go_simp) (HS.out _ hbd) ?_; go_frame
        refine AnyT.takeD (i := 15) (v := .int .i64 j) rfl rfl (by kernel_rfl) (by kernel_rfl) (by kernel_rfl) (by first | exact (fun _ _ _ h => h) | exact (fun _ _ _ h => absurd h.1 (by simp))) (by kernel_rfl) (by rfl) (by rintro w' ⟨q1, q2, q3, q4⟩; go_simp) (HS.out _ hbd) ?_; go_frame
        refine AnyT.takeD (i := 16) (v := .pointer (some ⟨b, off + j, none⟩)) rfl rfl (by kernel_rfl) (by kernel_rfl) (by kernel_rfl) (by first | exact (fun _ _ _ h => h) | exact (fun _ _ _ h => absurd h.1 (by simp))) (by kernel_rfl) (by rfl) (by rintro w' ⟨q1, q2, q3, q4⟩; go_simp) (HS.out _ hbd) ?_; go_frame
        refine AnyT.takeD (i := 17) (v := .int .i64 rj) rfl rfl (by kernel_rfl) (by kernel_rfl) (by kernel_rfl) (by first | exact (fun _ _ _ h => h) | exact (fun _ _ _ h => absurd h.1 (by simp))) (by kernel_rfl) (by rfl) (by rintro w' ⟨q1, q2, q3, q4⟩; go_simp) (HS.out _ hbd) ?_; go_frame
        refine AnyT.takeD (i := 18) (v := .int .i64 m2) rfl rfl (by kernel_rfl) (by kernel_rfl) (by kernel_rfl) (by first | exact (fun _ _ _ h => h) | exact (fun _ _ _ h => absurd h.1 (by simp))) (by kernel_rfl) (by rfl) (by rintro w' ⟨q1, q2, q3, q4⟩; go_simp) (HS.out _ hbd) ?_; go_frame
        refine AnyT.takeD (i := 19) (v := .int .i64 z) rfl rfl (by kernel_rfl) (by kernel_rfl) (by kernel_rfl) (by first | exact (fun _ _ _ h => h) | exact (fun _ _ _ h => absurd h.1 (by simp))) (by kernel_rfl) (by rfl) (by rintro w' ⟨q1, q2, q3, q4⟩; go_simp) (HS.out _ hbd) ?_; go_frame
        refine AnyT.next (i := 20) (by kernel_rfl) rfl (wpOp_of_list rfl ?_)
        go_wp2
        have hbA := hbd.alloc hbd.size (.cells #[.int .i64 z] 3)
        refine ⟨fun _ => HS.out _ hbA, ?_⟩
        refine AnyT.next (i := 21) (by kernel_rfl) rfl (wpOp_of_list rfl ?_)
        (refine wpList_app _ rfl (.tmp 14) (.tmp 34) 24 rfl w.heap.size 3 (.int .i64 0) 1 8 Tryz.underlying24 li_int rfl Nat.one_pos (.slice va k vc) k _ rfl (HO2.out.alloc _) (some ⟨wd.heap.size, 0, none⟩) 1 1 [.int .i64 z] rfl rfl no_none (one_news wd _ _) (li_one _) M1.out M2.out (Nat.le_trans HB3.out.size (le_alloc _ _)) ?_)
        intro a3 c3 w3 own3 g3
        have hb3 := hbA.grown g3 hbA.size (fun q hq => (HO2.out.lt q hq).1)
        refine ⟨fun _ => HS.out _ hb3, ?_⟩
        refine AnyT.takeD (i := 22) (v := .slice a3 (k + 1) c3) rfl rfl (by kernel_rfl) (by kernel_rfl) (by kernel_rfl) (by first | exact (fun _ _ _ h => h) | exact (fun _ _ _ h => absurd h.1 (by simp))) (by kernel_rfl) (by rfl) (by rintro w' ⟨q1, q2, q3, q4⟩; go_simp) (HS.out _ hb3) ?_; go_frame
        exact ⟨by kernel_rfl, rfl, .slice va k vc, .slice (some ⟨b, off, none⟩) n cap, .int .i64 k, .pointer (some ⟨b, off + k, none⟩), .int .i64 x, .slice (some ⟨b2, off2, none⟩) n cap2, .int .i64 j, .pointer (some ⟨b2, off2 + j, none⟩), .int .i64 pj, .int .i64 m1, .slice (some ⟨b2, off2, none⟩) n cap2, .int .i64 k, .pointer (some ⟨b2, off2 + k, none⟩), .int .i64 y, .slice (some ⟨b, off, none⟩) n cap, .int .i64 j, .pointer (some ⟨b, off + j, none⟩), .int .i64 rj, .int .i64 m2, .int .i64 z, .slice (some ⟨wd.heap.size, 0, none⟩) 1 1, .slice a3 (k + 1) c3, (by first | rfl | go_frame), ⟨a3, c3, rfl⟩, by rw [HSN.out]; exact own3, hb3⟩
      · rintro a5 w5 ⟨v14, v15, v16, v17, v18, v19, v20, v21, v22, v23, v24, v25, v26, v27, v28, v29, v30, v31, v32, v33, v34, v35, rfl, ⟨a3, c3, rfl⟩, ho5, hb5⟩
        go_frame
        go_wp2
        exact ⟨⟨k + 1, by omega, by go_num, ho5, hb5⟩, by simp [intOf]; omega⟩
    · obtain rfl : k = n := by omega
      have hmb : BndL 4611686018427387904 (mixTo p j r k) := by
        intro x hx
        unfold mixTo at hx
        obtain ⟨c, hc, rfl⟩ := List.mem_map.1 hx
        have hck := List.mem_range.1 hc
        have d1 := HB.out.get (show c < r.length by rw [HN.out]; exact hck)
        have d2 := HB.out.get (show j < r.length by rw [HN.out]; exact hj)
        have d3 := HB2.out.get (show c < p.length by rw [HN2.out]; exact hck)
        have d4 := HB2.out.get (show j < p.length by rw [HN2.out]; exact hj)
        have e1 := mul_bnd (show -(1073741824 : Int) ≤ r[c]?.getD 0 ∧ r[c]?.getD 0 ≤ 1073741824 by omega) (show -(1073741824 : Int) ≤ p[j]?.getD 0 ∧ p[j]?.getD 0 ≤ 1073741824 by omega)
        have e2 := mul_bnd (show -(1073741824 : Int) ≤ p[c]?.getD 0 ∧ p[c]?.getD 0 ≤ 1073741824 by omega) (show -(1073741824 : Int) ≤ r[j]?.getD 0 ∧ r[j]?.getD 0 ≤ 1073741824 by omega)
        show -((4611686018427387904 : Nat) : Int) ≤ r[c]?.getD 0 * p[j]?.getD 0 - p[c]?.getD 0 * r[j]?.getD 0 ∧ r[c]?.getD 0 * p[j]?.getD 0 - p[c]?.getD 0 * r[j]?.getD 0 ≤ ((4611686018427387904 : Nat) : Int)
        omega
      obtain ⟨va, vc, rfl, hi, _⟩ := ints_of_own hown (mixTo_len p j r k)
      have HP := hid (r3primitive_c wr va k vc (mixTo p j r k) (mixTo_len p j r k) hm hi hmb)
      have HBT := hid hbt
      clear hown hi hmb hbt
      go_wp2_with (go_at_call 91; refine HP.out.mono ?_; rintro e w4 ⟨v4, rfl, ho4, hb4⟩; refine Stop.of ?_)
      refine Stop.go ?_
      have HO4 := hid ho4
      have hb := chain HBT.out hb4
      clear ho4 hb4
      go_wp2
      go_ret
      exact ⟨v4, wr.heap.size, rfl, HBT.out.size, HO4.out, hb⟩
end Go.Proofs.YtfipebkhomppmaaGreat

namespace Go.Proofs.YtfipebkhomppmaaGreat
open Go.RowKit
set_option linter.unusedVariables false

def HeadV (W : World) (xs : List Value) (L : List (List Int)) : Prop :=
  xs.length = L.length ∧ ∀ j (hj : j < L.length), ∃ ra rn rc, xs[j]? = some (.slice ra rn rc) ∧ L[j].length = rn ∧ rn ≤ maxLen ∧ IntsAt W ra L[j]
theorem HeadV.nil (W : World) : HeadV W [] [] := ⟨rfl, fun j hj => by simp at hj⟩
theorem HeadV.below {W W' : World} {xs : List Value} {L : List (List Int)} (h : HeadV W xs L) (hb : Below W.heap.size W W') : HeadV W' xs L :=
  ⟨h.1, fun j hj => by obtain ⟨ra, rn, rc, h1, h2, h3, h4⟩ := h.2 j hj; exact ⟨ra, rn, rc, h1, h2, h3, h4.below hb⟩⟩
theorem HeadV.one {W : World} {ra : Option Addr} {rn rc : Nat} {l : List Int} (hn : l.length = rn) (hm : rn ≤ maxLen) (h : IntsAt W ra l) : HeadV W [.slice ra rn rc] [l] :=
  ⟨rfl, fun j hj => by
    obtain rfl : j = 0 := by simp at hj; omega
    exact ⟨ra, rn, rc, rfl, hn, hm, h⟩⟩
theorem HeadV.append {W : World} {xs ys : List Value} {L K : List (List Int)} (h : HeadV W xs L) (k : HeadV W ys K) : HeadV W (xs ++ ys) (L ++ K) := by
  refine ⟨by simp [h.1, k.1], fun j hj => ?_⟩
  by_cases e : j < L.length
  · obtain ⟨ra, rn, rc, h1, h2, h3, h4⟩ := h.2 j e
    refine ⟨ra, rn, rc, by rw [List.getElem?_append_left (by rw [h.1]; exact e)]; exact h1, ?_, h3, ?_⟩
    · rw [List.getElem_append_left e]; exact h2
    · rw [List.getElem_append_left e]; exact h4
  · have hj2 : j - L.length < K.length := by simp at hj; omega
    obtain ⟨ra, rn, rc, h1, h2, h3, h4⟩ := k.2 (j - L.length) hj2
    refine ⟨ra, rn, rc, by rw [List.getElem?_append_right (by rw [h.1]; omega), h.1]; exact h1, ?_, h3, ?_⟩
    · rw [List.getElem_append_right (by omega)]; exact h2
    · rw [List.getElem_append_right (by omega)]; exact h4
theorem rows_of_own {W : World} {base n c : Nat} {T : TypeId} {a : Option Addr} {xs : List Value} {L : List (List Int)} (h : W.ownsRow base T 1 (.slice a n c) n xs) (hv : HeadV W xs L) (hl : L.length = n) : RowsAt W a L := by
  intro j hj
  rcases h.2 with ⟨_, h0⟩ | ⟨g, cap, cur, e, hg, hh, rest⟩
  · omega
  · cases e
    have hlt := (Array.getElem?_eq_some_iff.1 hh).1
    have hc : W.cell? ⟨g, j, none⟩ = xs[j]? := World.ownsRow.cellAt (w := W) (base := base) (e := T) (size := 1) (g := g) (n := n) (cap := c) (xs := xs) h j (by omega)
    obtain ⟨ra, rn, rc, h1, h2, h3, h4⟩ := hv.2 j hj
    exact ⟨g, 0, ra, rn, rc, rfl, hlt, by rw [Nat.zero_add, hc]; exact h1, h2, h3, h4⟩
end Go.Proofs.YtfipebkhomppmaaGreat
