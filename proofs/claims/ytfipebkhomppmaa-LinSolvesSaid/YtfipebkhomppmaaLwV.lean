/- Walks of reference 03: columns. -/
import Derived.Test.YtfipebkhomppmaaLwU
import Derived.Test.YtfipebkhomppmaaLwE
namespace Go.Proofs.Ytfipebkhomppmaa
open Go.RowKit
set_option linter.unusedVariables false

theorem rowS_own {W : World} {b0 : Nat} {v : Value} {l : List Int} {n : Nat} (h : W.ownsRow b0 3 1 v n (l.map (Value.int .i64))) (hn : l.length = n) : RowS W v l := by
  rcases Nat.eq_zero_or_pos n with h0 | h0
  · obtain ⟨a, c, rfl⟩ := ownsRow_slice h
    subst h0
    exact .inr ⟨List.length_eq_zero_iff.1 hn, a, c, rfl⟩
  · obtain ⟨g, cap, rfl, _, hs⟩ := spRow_own h hn h0
    exact .inl ⟨g, cap, by rw [hn], hs⟩
theorem RowS.slice {W : World} {v : Value} {l : List Int} (h : RowS W v l) : ∃ a c, v = .slice a l.length c := by
  rcases h with ⟨g, c, rfl, _⟩ | ⟨rfl, a, c, rfl⟩
  · exact ⟨_, _, rfl⟩
  · exact ⟨_, _, rfl⟩
theorem colsF_take {M : List (List Int)} {S : List Int} {k : Nat} (hk : k < M.length) : (colsF M S).take (k + 1) = (colsF M S).take k ++ [S.map (fun j => vec M[k] j.toNat)] := by
  have hc : k < (colsF M S).length := by rw [colsF_len]; exact hk
  rw [List.take_succ_eq_append_getElem hc]
  congr 2
  simp [colsF]

set_option maxRecDepth 100000 in
set_option maxHeartbeats 4000000 in
theorem r3columns_c (w : World) (a : Option Addr) (n cap : Nat) (M : List (List Int)) (hn : M.length = n) (hn6 : n ≤ 1000) (H : RowsAt w a M) (a2 : Option Addr) (k2 cap2 : Nat) (S : List Int) (hk2 : S.length = k2) (hk21 : k2 ≤ 1000) (H2 : IntsAt w a2 S)
    (hS : ∀ r ∈ M, ∀ j ∈ S, 0 ≤ j ∧ j < r.length) :
    Calls Try.prog 67 #[.slice a n cap, .slice a2 k2 cap2] w fun e w' => ∃ v, e = .returned v ∧ TabS w' w.heap.size v (colsF M S) ∧ Below w.heap.size w w' := by
  have HN := hid hn
  have HH := hid H
  have HK2 := hid hk2
  have HH2 := hid H2
  have HS := hid hS
  have HCT := hid (fun (k : Nat) (hk : k < M.length) => colsF_take (M := M) (S := S) hk)
  have HCL := hid (colsF_len M S)
  obtain ⟨C, hC⟩ : ∃ C, C = colsF M S := ⟨_, rfl⟩
  rw [← hC] at HCT HCL ⊢
  clear hn H hk2 H2 hS hC
  go_enter Try.func67, Try.ntmps67
  go_wp2
  go_loopw [5, 13] (fun v i wr => ∃ k : Nat, k ≤ n ∧ i = .int .i64 k ∧ TabS wr w.heap.size v (C.take k) ∧ Below w.heap.size w wr) (fun _ i _ => n - (intOf i).toNat)
  case atStart => exact ⟨0, Nat.zero_le _, rfl, TabS.nil _ _, Below.refl _ _⟩
  case round =>
    obtain ⟨k, hk, rfl, ho, hbk⟩ := hrel
    obtain ⟨wo, hwo⟩ : ∃ wo, wo = wr := ⟨_, rfl⟩
    subst hwo
    by_cases hlt : k < n
    · have hkM : k < M.length := by rw [HN.out]; exact hlt
      obtain ⟨b, off, ra, rn, rc, rfl, hbs, hq0, hrn, hrm, hri⟩ := (HH.out.below hbk) k hkM
      have htk := HCT.out k hkM
      have hsr := HS.out M[k] (List.getElem_mem hkM)
      obtain ⟨r, hr⟩ : ∃ r, r = M[k] := ⟨_, rfl⟩
      rw [← hr] at htk hsr hrn hri
      have hlen : (C.take k).length = k := by rw [List.length_take, HCL.out]; omega
      have HL := hid hlen
      have HTK := hid htk
      have HSR := hid hsr
      have HRN := hid hrn
      have HRI := hid hri
      have HO := hid ho
      have HBK := hid hbk
      obtain ⟨va, vc, hv⟩ : ∃ va vc, u5 = .slice va k vc := by
        obtain ⟨_, ho1, _⟩ := ho
        obtain ⟨a', c', e⟩ := ownsRow_slice ho1
        exact ⟨a', c', by rw [e, hlen]⟩
      subst hv
      have M0 := World.ownsRow_made (base := wo.heap.size) (e := 3) (size := 1) wo #[] 0 (Nat.le_refl _) (Nat.zero_le _) rfl
      have HM0 := hid M0
      clear hr htk hsr hrn hri hkM ho hlen M0
      go_wp2
      go_loopw [8, 20] (fun v i wr => ∃ t : Nat, t ≤ k2 ∧ i = .int .i64 t ∧ wr.ownsRow wo.heap.size 3 1 v t (((S.take t).map (fun j => vec r j.toNat)).map (Value.int .i64)) ∧ Below wo.heap.size wo wr) (fun _ i _ => k2 - (intOf i).toNat)
      case atStart => exact ⟨0, Nat.zero_le _, rfl, HM0.out, (Below.refl _ _).alloc (Nat.le_refl _) _⟩
      case round =>
        obtain ⟨t, ht, rfl, hown, hbt⟩ := hrel
        by_cases hlt2 : t < k2
        · have htS : t < S.length := by rw [HK2.out]; exact hlt2
          obtain ⟨b2, off2, rfl, hbs2, hc2⟩ := (HH2.out.below (chain HBK.out hbt)) t htS
          have hpp := HSR.out S[t] (List.getElem_mem htS)
          have hg2 : S[t]?.getD 0 = S[t] := by rw [List.getElem?_eq_getElem htS]; rfl
          rw [hg2] at hc2
          have htk2 : (S.take (t + 1)).map (fun j => vec r j.toNat) = (S.take t).map (fun j => vec r j.toNat) ++ [vec r (S[t]).toNat] := by
            rw [List.take_succ_eq_append_getElem htS, List.map_append]; rfl
          obtain ⟨q, hq⟩ : ∃ q : Nat, S[t] = q := ⟨(S[t]).toNat, by omega⟩
          rw [hq] at hc2 hpp htk2
          rw [show ((q : Int)).toNat = q by omega] at htk2
          have hqr : q < r.length := by omega
          obtain ⟨b3, off3, rfl, hbs3, hc3⟩ := (HRI.out.below hbt) q hqr
          have hqn : (q : Int) < (rn : Int) := by have := HRN.out; omega
          have hq0' : (0 : Int) ≤ (q : Int) := by omega
          obtain ⟨x, hx⟩ : ∃ x, x = r[q]?.getD 0 := ⟨_, rfl⟩
          have hxv : vec r q = x := hx.symm
          rw [← hx] at hc3
          rw [hxv] at htk2
          obtain ⟨la, lc, rfl⟩ := ownsRow_slice hown
          have HTK2 := hid htk2
          have HOW := hid hown
          have M1 := hid (show t + 1 ≤ maxLen by unfold maxLen; omega)
          have M2 := hid (show (t + 1) * 8 ≤ 140737488355328 by omega)
          have M3 := hid (Nat.le_trans hbt.size (le_alloc wr (.cells #[.int .i64 x] 3)))
          clear hpp hg2 htk2 hq hx hxv hown htS hqr
          go_wp2_with (at_builtin; refine wpList_app _ rfl (.tmp 24) (.tmp 29) 31 rfl wo.heap.size 3 (.int .i64 0) 1 8 Try.underlying31 li_int rfl Nat.one_pos (.slice la t lc) t _ rfl (HOW.out.alloc _) (some ⟨wr.heap.size, 0, none⟩) 1 1 [.int .i64 x] rfl rfl no_none (one_news wr _ _) (li_one _) M1.out M2.out M3.out ?_; refine Stop.of ?_)
          refine Stop.go ?_
          intro a3 c3 w3 own3 g3
          have hB3 : Below wo.heap.size wo w3 := (hbt.alloc hbt.size _).grown g3 M3.out (fun k hk => (HOW.out.lt k hk).1)
          go_wp2
          refine ⟨⟨t + 1, by omega, by go_num, ?_, hB3⟩, by simp [intOf]; omega⟩
          rw [HTK2.out]
          simpa using own3
        · obtain rfl : t = k2 := by omega
          rw [List.take_of_length_le (by rw [HK2.out]; exact Nat.le_refl _)] at hown
          obtain ⟨X, hX⟩ : ∃ X, X = S.map (fun j => vec r j.toNat) := ⟨_, rfl⟩
          rw [← hX] at hown HTK
          have hXl : X.length = t := by rw [hX, List.length_map, HK2.out]
          obtain ⟨la, lc, rfl⟩ := ownsRow_slice hown
          have hrs := rowS_own hown hXl
          obtain ⟨vs, ho1, ho2⟩ := HO.out
          have ho1' := ho1
          rw [HL.out] at ho1'
          have hb2a : Below wo.heap.size wo (wr.alloc (.cells #[.slice la t lc] 31)) := hbt.alloc hbt.size _
          have M1 := hid (show k + 1 ≤ maxLen by unfold maxLen; omega)
          have M2 := hid (show (k + 1) * 24 ≤ 140737488355328 by omega)
          have M3 := hid (Nat.le_trans HBK.out.size hb2a.size)
          have HO2' := hid (own_below ho1' hb2a)
          have HO1 := hid ho1
          have HO2 := hid ho2
          have HRS := hid (hrs.below ((Below.refl _ wr).alloc (Nat.le_refl _) (.cells #[.slice la t lc] 31)))
          have HB2' := hid hb2a
          clear hX hXl hown hrs ho1 ho1' ho2 hb2a hbt
          go_wp2_with (at_builtin; refine wpList_app _ rfl (.tmp 32) (.tmp 34) 22 rfl w.heap.size 31 (.slice none 0 0) 1 24 Try.underlying22 li_ints rfl Nat.one_pos (.slice va k vc) k vs rfl HO2'.out (some ⟨wr.heap.size, 0, none⟩) 1 1 [.slice la t lc] rfl rfl no_none (one_news wr _ _) (slice_oneCell _ _ _) M1.out M2.out M3.out ?_; refine Stop.of ?_)
          refine Stop.go ?_
          intro a5 c5 w5 own5 g5
          have hsn : TabS w5 w.heap.size (.slice a5 (k + 1) c5) (C.take k ++ [X]) := TabS.snoc HO1.out HO2.out HB2'.out HRS.out g5 (by rw [HL.out]; exact own5)
          have hB5 : Below w.heap.size w w5 := (HBK.out.trans (HB2'.out.mono HBK.out.size)).grown g5 M3.out (fun q hq => (HO2'.out.lt q hq).1)
          rw [← HTK.out] at hsn
          go_wp2
          exact ⟨⟨k + 1, by omega, by go_num, hsn, hB5⟩, by simp [intOf]; omega⟩
    · obtain rfl : k = n := by omega
      rw [List.take_of_length_le (by rw [HCL.out, HN.out]; exact Nat.le_refl _)] at ho
      go_wp2
      go_ret
      exact ⟨_, rfl, ho, hbk⟩
end Go.Proofs.Ytfipebkhomppmaa
