/- Walks and plain laws for StreamSentRow, part 4. -/
import Derived.Maps.RangeWalk
import Derived.Maps.AppendAt
import Derived.Test.YtkmjeegnijohmaaGreatPkStreamSentRow3
namespace Go.Proofs.YtkmjeegnijohmaaGreat
open Go.RowKit
set_option linter.unusedVariables false

theorem gcd_tmod (p q : Int) : Int.gcd q (p.tmod q) = Int.gcd p q := by
  unfold Int.gcd
  rw [Int.natAbs_tmod]
  rcases Nat.eq_zero_or_pos q.natAbs with h | h
  · rw [h]; simp
  · exact gcd_mod _ _ h

theorem r3divisor_c (w : World) (a b : Int) (ha : -4611686018427387904 ≤ a ∧ a ≤ 4611686018427387904) (hb : -4611686018427387904 ≤ b ∧ b ≤ 4611686018427387904) :
    Calls Tryz.prog 112 #[.int .i64 a, .int .i64 b] w fun e w' => e = .returned (.int .i64 (Int.gcd a b : Nat)) ∧ ∃ k, w' = w.drewN k := by
  obtain ⟨G, hG⟩ : ∃ G : Nat, G = Int.gcd a b := ⟨_, rfl⟩
  rw [← hG]
  have HG := hid hG
  clear hG
  obtain ⟨ha1, ha2⟩ := ha
  obtain ⟨hb1, hb2⟩ := hb
  go_enter Tryz.func112, Tryz.ntmps112
  go_wp2
  go_loopw [0, 1] (fun u v wr => ∃ p q : Int, u = .int .i64 p ∧ v = .int .i64 q ∧ -4611686018427387904 ≤ p ∧ p ≤ 4611686018427387904 ∧ -4611686018427387904 ≤ q ∧ q ≤ 4611686018427387904 ∧ Int.gcd p q = G ∧ ∃ k, wr = w.drewN k) (fun _ v _ => (intOf v).natAbs)
  case atStart => exact ⟨a, b, rfl, rfl, ha1, ha2, hb1, hb2, HG.out.symm, 0, rfl⟩
  case round =>
    obtain ⟨p, q, rfl, rfl, hp1, hp2, hq1, hq2, hg, k, rfl⟩ := hrel
    have HGG := hid hg
    clear hg
    by_cases h0 : q = 0
    · subst h0
      have hn : IntKind.i64.wrap (-p) = -p := IntWalk.i64_in _ (by omega)
      have HGP := hid (show max p (-p) = ((G : Nat) : Int) by
        have := HGG.out
        rw [Int.gcd_zero_right] at this
        omega)
      go_wp2
      all_goals
        go_ret
        exact ⟨ret_int (by have := HGP.out; omega), _, rfl⟩
    · have hne : (q != 0) = true := by simpa using h0
      have hlt : (p.tmod q).natAbs < q.natAbs := by rw [Int.natAbs_tmod]; exact Nat.mod_lt _ (by omega)
      have hw : IntKind.i64.wrap (p.tmod q) = p.tmod q := IntWalk.i64_in _ (by omega)
      have HGM := hid ((gcd_tmod p q).trans HGG.out)
      have HLT := hid hlt
      clear hlt
      go_wp2
      go_quiet (fail)
      go_wp2
      have h1 := HLT.out
      exact ⟨⟨q, p.tmod q, rfl, rfl, hq1, hq2, by omega, by omega, HGM.out, _, drewN_add _ _ _⟩, by show (p.tmod q).natAbs < q.natAbs; exact h1⟩

set_option maxRecDepth 100000 in
set_option maxHeartbeats 1000000 in
theorem r3primitive_c (w : World) (a : Option Addr) (n cap : Nat) (l : List Int) (hn : l.length = n) (hm : n ≤ 1000) (H : IntsAt w a l) (hB : BndL 4611686018427387904 l) :
    Calls Tryz.prog 113 #[.slice a n cap] w fun e w' => ∃ v, e = .returned v ∧ w'.ownsRow w.heap.size 3 1 v n ((primF l).map (Value.int .i64)) ∧ Below w.heap.size w w' := by
  have HN := hid hn
  have HH := hid H
  have HBL := hid hB
  have HGT := hid (fun (k : Nat) (hk : k < l.length) => gcdL_take hk)
  have HG0 := hid (fun k => gcdL_nonneg (l.take k))
  have HGL := hid (fun (k : Nat) => gcdL_le (hB.take k))
  clear hn H hB
  go_enter Tryz.func113, Tryz.ntmps113
  go_wp2
  go_loopw [3, 11] (fun g i wr => ∃ k : Nat, k ≤ n ∧ i = .int .i64 k ∧ g = .int .i64 (gcdL (l.take k)) ∧ Below w.heap.size w wr) (fun _ i _ => n - (intOf i).toNat)
  case atStart => exact ⟨0, Nat.zero_le _, rfl, rfl, Below.refl _ _⟩
  case round =>
    obtain ⟨k, hk, rfl, rfl, hbk⟩ := hrel
    by_cases hlt : k < n
    · have hkl : k < l.length := by rw [HN.out]; exact hlt
      obtain ⟨b, off, rfl, hbs, hc⟩ := (HH.out.below hbk) k hkl
      have hbd := HBL.out.get hkl
      have hg := HGT.out k hkl
      have hg0 := HG0.out k
      have hgl := HGL.out k
      obtain ⟨x, hx⟩ : ∃ x, x = l[k]?.getD 0 := ⟨_, rfl⟩
      rw [← hx] at hc hbd hg
      obtain ⟨G, hG⟩ : ∃ G, G = gcdL (l.take k) := ⟨_, rfl⟩
      rw [← hG] at hg hg0 hgl ⊢
      have HD := hid (r3divisor_c wr G x (by omega) (by omega))
      rw [← hg] at HD
      have HB := hid hbk
      clear hg hG hx hkl hbk
      go_wp2_with (go_at_call 112; refine HD.out.mono ?_; rintro e w1 ⟨rfl, q, rfl⟩)
      exact ⟨⟨k + 1, by omega, by go_num, rfl, below_drewN HB.out _⟩, by simp [intOf]; omega⟩
    · obtain rfl : k = n := by omega
      have e : l.take k = l := List.take_of_length_le (by rw [HN.out]; exact Nat.le_refl _)
      have hg0 := HG0.out k
      have hgl := HGL.out k
      rw [e] at hg0 hgl ⊢
      obtain ⟨G, hG⟩ : ∃ G, G = gcdL l := ⟨_, rfl⟩
      rw [← hG] at hg0 hgl ⊢
      have HG := hid hG
      have HB := hid hbk
      have hpf : primF l = l.map (fun x => x.tdiv (max G 1)) := by unfold primF; rw [← HG.out]
      have HPF := hid hpf
      obtain ⟨d, hd⟩ : ∃ d, d = max G 1 := ⟨_, rfl⟩
      have HD := hid hd
      have hd1 : 1 ≤ d := by omega
      clear e hG hbk hpf hd
      obtain ⟨w1, hw1⟩ : ∃ w1, w1 = wr := ⟨_, rfl⟩
      subst hw1
      go_wp2
      go_loopw [6, 21] (fun v i wr => ∃ t : Nat, t ≤ k ∧ i = .int .i64 t ∧ wr.ownsRow w.heap.size 3 1 v t ((l.take t).map (fun x => Value.int .i64 (x.tdiv d))) ∧ Below w.heap.size w wr) (fun _ i _ => k - (intOf i).toNat)
      case atStart => exact ⟨0, Nat.zero_le _, rfl, World.ownsRow_nil _ _ _ _, HB.out⟩
      case round =>
        obtain ⟨t, ht, rfl, hown, hbt⟩ := hrel
        by_cases hlt : t < k
        · have htl : t < l.length := by rw [HN.out]; exact hlt
          obtain ⟨b, off, rfl, hbs, hc⟩ := (HH.out.below hbt) t htl
          have hbd := HBL.out.get htl
          have hsn : (l.take (t + 1)).map (fun x => Value.int .i64 (x.tdiv d)) = (l.take t).map (fun x => Value.int .i64 (x.tdiv d)) ++ [.int .i64 ((l[t]?.getD 0).tdiv d)] := by
            rw [List.take_succ_eq_append_getElem htl, List.map_append, List.getElem?_eq_getElem htl]; rfl
          obtain ⟨x, hx⟩ : ∃ x, x = l[t]?.getD 0 := ⟨_, rfl⟩
          rw [← hx] at hc hbd hsn
          obtain ⟨va, vc, rfl⟩ := ownsRow_slice hown
          have htd := tdiv_bnd hd1 (show -(4611686018427387904 : Int) ≤ x ∧ x ≤ 4611686018427387904 by omega)
          have hwq : IntKind.i64.wrap (x.tdiv d) = x.tdiv d := IntWalk.i64_in _ (by omega)
          have HSN := hid hsn
          have HO := hid hown
          have HBT := hid hbt
          have M1 := hid (show t + 1 ≤ maxLen by unfold maxLen; omega)
          have M2 := hid (show (t + 1) * 8 ≤ 140737488355328 by omega)
          have M3 := hid (Nat.le_trans hbt.size (le_alloc wr (.cells #[.int .i64 (x.tdiv d)] 3)))
          clear hown hbt hsn hx htl htd
          rcases Int.lt_or_le G 1 with hG1 | hG1
          · obtain rfl : d = 1 := by have := HD.out; omega
            have hGG : ¬ (1 ≤ G) := by omega
            rw [Int.tdiv_one] at HSN M3 hwq
            go_wp2_with (at_builtin; refine wpList_app _ rfl (.tmp 25) (.tmp 30) 33 rfl w.heap.size 3 (.int .i64 0) 1 8 Tryz.underlying33 li_int rfl Nat.one_pos (.slice va t vc) t _ rfl (HO.out.alloc _) (some ⟨wr.heap.size, 0, none⟩) 1 1 [.int .i64 x] rfl rfl no_none (one_news wr _ _) (li_one _) M1.out M2.out M3.out ?_; refine Stop.of ?_)
            refine Stop.go ?_
            intro a3 c3 w3 own3 g3
            have hB3 : Below w.heap.size w w3 := (HBT.out.alloc HBT.out.size _).grown g3 M3.out (fun k hk => (HO.out.lt k hk).1)
            go_wp2
            refine ⟨⟨t + 1, by omega, by go_num, ?_, hB3⟩, by simp [intOf]; omega⟩
            rw [HSN.out]
            simpa using own3
          · obtain rfl : d = G := by have := HD.out; omega
            have hgz : ¬ (d = 0) := by omega
            go_wp2_with (at_builtin; refine wpList_app _ rfl (.tmp 25) (.tmp 30) 33 rfl w.heap.size 3 (.int .i64 0) 1 8 Tryz.underlying33 li_int rfl Nat.one_pos (.slice va t vc) t _ rfl (HO.out.alloc _) (some ⟨wr.heap.size, 0, none⟩) 1 1 [.int .i64 (x.tdiv d)] rfl rfl no_none (one_news wr _ _) (li_one _) M1.out M2.out M3.out ?_; refine Stop.of ?_)
            refine Stop.go ?_
            intro a3 c3 w3 own3 g3
            have hB3 : Below w.heap.size w w3 := (HBT.out.alloc HBT.out.size _).grown g3 M3.out (fun k hk => (HO.out.lt k hk).1)
            go_wp2
            refine ⟨⟨t + 1, by omega, by go_num, ?_, hB3⟩, by simp [intOf]; omega⟩
            rw [HSN.out]
            simpa using own3
        · obtain rfl : t = k := by omega
          rw [List.take_of_length_le (by rw [HN.out]; exact Nat.le_refl _)] at hown
          go_wp2
          go_ret
          refine ⟨_, rfl, ?_, hbt⟩
          rw [HPF.out, ← HD.out, List.map_map]
          exact hown

set_option maxRecDepth 100000 in
set_option maxHeartbeats 1000000 in
theorem r3scaled_c (w : World) (a : Option Addr) (n cap : Nat) (l : List Int) (hn : l.length = n) (hm : n ≤ 1000) (H : IntsAt w a l) (hB : BndL 4611686018427387904 l) :
    Calls Tryz.prog 101 #[.slice a n cap, .int .i64 (-1)] w fun e w' => ∃ v, e = .returned v ∧ w'.ownsRow w.heap.size 3 1 v n ((negF l).map (Value.int .i64)) ∧ Below w.heap.size w w' := by
  have HN := hid hn
  have HH := hid H
  have HBL := hid hB
  have HPF := hid (show negF l = l.map (fun x => -x) from rfl)
  clear hn H hB
  go_enter Tryz.func101, Tryz.ntmps101
  go_wp2
  go_loopw [5, 10] (fun v i wr => ∃ t : Nat, t ≤ n ∧ i = .int .i64 t ∧ wr.ownsRow w.heap.size 3 1 v t ((l.take t).map (fun x => Value.int .i64 (-x))) ∧ Below w.heap.size w wr) (fun _ i _ => n - (intOf i).toNat)
  case atStart => exact ⟨0, Nat.zero_le _, rfl, World.ownsRow_nil _ _ _ _, Below.refl _ _⟩
  case round =>
    obtain ⟨t, ht, rfl, hown, hbt⟩ := hrel
    by_cases hlt : t < n
    · have htl : t < l.length := by rw [HN.out]; exact hlt
      obtain ⟨b, off, rfl, hbs, hc⟩ := (HH.out.below hbt) t htl
      have hbd := HBL.out.get htl
      have hsn : (l.take (t + 1)).map (fun x => Value.int .i64 (-x)) = (l.take t).map (fun x => Value.int .i64 (-x)) ++ [.int .i64 (-(l[t]?.getD 0))] := by
        rw [List.take_succ_eq_append_getElem htl, List.map_append, List.getElem?_eq_getElem htl]; rfl
      obtain ⟨x, hx⟩ : ∃ x, x = l[t]?.getD 0 := ⟨_, rfl⟩
      rw [← hx] at hc hbd hsn
      obtain ⟨y, hy⟩ : ∃ y, y = -x := ⟨_, rfl⟩
      obtain ⟨va, vc, rfl⟩ := ownsRow_slice hown
      have hwq : wrap64 (-x) = y := by unfold wrap64; omega
      rw [← hy] at hsn
      have HSN := hid hsn
      have HO := hid hown
      have HBT := hid hbt
      have M1 := hid (show t + 1 ≤ maxLen by unfold maxLen; omega)
      have M2 := hid (show (t + 1) * 8 ≤ 140737488355328 by omega)
      have M3 := hid (Nat.le_trans hbt.size (le_alloc wr (.cells #[.int .i64 y] 3)))
      clear hown hbt hsn hx htl hbd hy
      go_wp2_with (at_builtin; refine wpList_app _ rfl (.tmp 14) (.tmp 18) 33 rfl w.heap.size 3 (.int .i64 0) 1 8 Tryz.underlying33 li_int rfl Nat.one_pos (.slice va t vc) t _ rfl (HO.out.alloc _) (some ⟨wr.heap.size, 0, none⟩) 1 1 [.int .i64 y] rfl rfl no_none (one_news wr _ _) (li_one _) M1.out M2.out M3.out ?_; refine Stop.of ?_)
      refine Stop.go ?_
      intro a3 c3 w3 own3 g3
      have hB3 : Below w.heap.size w w3 := (HBT.out.alloc HBT.out.size _).grown g3 M3.out (fun k hk => (HO.out.lt k hk).1)
      go_wp2
      refine ⟨⟨t + 1, by omega, by go_num, ?_, hB3⟩, by simp [intOf]; omega⟩
      rw [HSN.out]
      simpa using own3
    · obtain rfl : t = n := by omega
      rw [List.take_of_length_le (by rw [HN.out]; exact Nat.le_refl _)] at hown
      go_wp2
      go_ret
      refine ⟨_, rfl, ?_, hbt⟩
      rw [HPF.out, List.map_map]
      exact hown
end Go.Proofs.YtkmjeegnijohmaaGreat

namespace Go.Proofs.YtkmjeegnijohmaaGreat
open Go.RowKit
set_option linter.unusedVariables false

def allI (n : Nat) : List Int := (List.range n).map (fun j : Nat => (j : Int))
theorem allI_len (n : Nat) : (allI n).length = n := by simp [allI]
theorem allI_succ (n : Nat) : allI (n + 1) = allI n ++ [(n : Int)] := by unfold allI; rw [List.range_succ, List.map_append]; rfl

set_option maxHeartbeats 1000000 in
theorem all_c (w : World) (n : Nat) (hn : n ≤ 1000) :
    Calls Tryz.prog 127 #[.int .i64 n] w fun e w' => ∃ v, e = .returned v ∧ w'.ownsRow w.heap.size 3 1 v n ((allI n).map (Value.int .i64)) ∧ Below w.heap.size w w' := by
  go_enter Tryz.func127, Tryz.ntmps127
  go_wp2
  go_loopw [3, 6] (fun v i wr => ∃ k : Nat, k ≤ n ∧ i = .int .i64 k ∧ wr.ownsRow w.heap.size 3 1 v k ((allI k).map (Value.int .i64)) ∧ Below w.heap.size w wr) (fun _ i _ => n - (intOf i).toNat)
  case atStart => exact ⟨0, Nat.zero_le _, rfl, World.ownsRow_nil _ _ _ _, Below.refl _ _⟩
  case round =>
    obtain ⟨k, hk, rfl, hown, hbk⟩ := hrel
    by_cases hlt : k < n
    · obtain ⟨va, vc, rfl⟩ := ownsRow_slice hown
      have HO := hid hown
      have M1 := hid (show k + 1 ≤ maxLen by unfold maxLen; omega)
      have M2 := hid (show (k + 1) * 8 ≤ 140737488355328 by omega)
      have M3 := hid (Nat.le_trans hbk.size (le_alloc wr (.cells #[.int .i64 (k : Int)] 3)))
      clear hown
      go_wp2_with (at_builtin; refine wpList_app _ rfl (.tmp 9) (.tmp 11) 33 rfl w.heap.size 3 (.int .i64 0) 1 8 Tryz.underlying33 li_int rfl Nat.one_pos (.slice va k vc) k _ rfl (HO.out.alloc _) (some ⟨wr.heap.size, 0, none⟩) 1 1 [.int .i64 (k : Int)] rfl rfl no_none (one_news wr _ _) (li_one _) M1.out M2.out M3.out ?_; refine Stop.of ?_)
      refine Stop.go ?_
      intro a3 c3 w3 own3 g3
      have hB3 : Below w.heap.size w w3 := (hbk.alloc hbk.size _).grown g3 M3.out (fun k hk => (HO.out.lt k hk).1)
      go_wp2
      refine ⟨⟨k + 1, by omega, by go_num, ?_, hB3⟩, by simp [intOf]; omega⟩
      rw [allI_succ]
      simpa using own3
    · obtain rfl : k = n := by omega
      go_wp2
      go_ret
      exact ⟨_, rfl, hown, hbk⟩

def MoreP (P : Program) (g : Nat) (lb : Array Value) (w : World) (N : Nat) (mo : Nat → List Int) : Prop :=
  ∀ (i : Nat) (W : World), i < N → Below w.heap.size w W → Calls P g (#[.int .i64 i] ++ lb) W fun e W' => ∃ a c, e = .returned (.slice a (mo i).length c) ∧ IntsAt W' a (mo i) ∧ Below W.heap.size W W'
def chosenF (M : List (List Int)) (S : List Int) (mo : Nat → List Int) : List (List Int) := M.mapIdx (fun i r => S.map (fun j => vec r j.toNat) ++ mo i)
theorem chosenF_len (M : List (List Int)) (S : List Int) (mo : Nat → List Int) : (chosenF M S mo).length = M.length := by simp [chosenF]
theorem chosenF_take {M : List (List Int)} {S : List Int} {mo : Nat → List Int} {k : Nat} (hk : k < M.length) : (chosenF M S mo).take (k + 1) = (chosenF M S mo).take k ++ [S.map (fun j => vec M[k] j.toNat) ++ mo k] := by
  rw [List.take_succ_eq_append_getElem (by rw [chosenF_len]; exact hk)]
  simp [chosenF]

theorem ints_one (l : List Int) : ∀ u ∈ l.map (Value.int .i64), u.oneCell' = true := by intro u hu; obtain ⟨x, _, rfl⟩ := List.mem_map.1 hu; rfl

set_option maxRecDepth 100000 in
set_option maxHeartbeats 4000000 in
theorem chosen_c (w : World) (a : Option Addr) (n cap : Nat) (M : List (List Int)) (hn : M.length = n) (hn6 : n ≤ 1000) (H : RowsAt w a M) (a2 : Option Addr) (k2 cap2 : Nat) (S : List Int) (hk2 : S.length = k2) (hk21 : k2 ≤ 1000) (H2 : IntsAt w a2 S)
    (hS : ∀ r ∈ M, ∀ j ∈ S, 0 ≤ j ∧ j < r.length) (g : Nat) (lb : Array Value) (eg : ∀ args w, (callFunc g args).run Tryz.prog w = .ok (.enter g args) w) (mo : Nat → List Int) (hmo : MoreP Tryz.prog g lb w n mo) (hml : ∀ i, i < n → (mo i).length ≤ 1000 ∧ 1 ≤ k2 + (mo i).length) :
    Calls Tryz.prog 135 #[.slice a n cap, .slice a2 k2 cap2, .func (.func g) #[] lb] w fun e w' => ∃ v, e = .returned v ∧ OwnM w' w.heap.size v (chosenF M S mo) ∧ Below w.heap.size w w' := by
  have HN := hid hn
  have HH := hid H
  have HK2 := hid hk2
  have HH2 := hid H2
  have HS := hid hS
  have HMO := hid hmo
  have HML := hid hml
  have HCT := hid (fun (k : Nat) (hk : k < M.length) => chosenF_take (M := M) (S := S) (mo := mo) hk)
  have HCL := hid (chosenF_len M S mo)
  obtain ⟨C, hC⟩ : ∃ C, C = chosenF M S mo := ⟨_, rfl⟩
  rw [← hC] at HCT HCL ⊢
  clear hn H hk2 H2 hS hmo hml hC
  go_enter Tryz.func135, Tryz.ntmps135
  go_wp2
  go_loopw [7, 15] (fun v i wr => ∃ k : Nat, k ≤ n ∧ i = .int .i64 k ∧ OwnM wr w.heap.size v (C.take k) ∧ Below w.heap.size w wr) (fun _ i _ => n - (intOf i).toNat)
  case atStart => exact ⟨0, Nat.zero_le _, rfl, OwnM.nil _ _, Below.refl _ _⟩
  case round =>
    obtain ⟨k, hk, rfl, ho, hbk⟩ := hrel
    obtain ⟨wo, hwo⟩ : ∃ wo, wo = wr := ⟨_, rfl⟩
    subst hwo
    by_cases hlt : k < n
    · have hkM : k < M.length := by rw [HN.out]; exact hlt
      obtain ⟨b, off, ra, rn, rc, rfl, hbs, hq0, hrn, hrm, hri⟩ := (HH.out.below hbk) k hkM
      have htk := HCT.out k hkM
      have hsr := HS.out M[k] (List.getElem_mem hkM)
      obtain ⟨r, hr⟩ : ∃ r, r = M[k] := ⟨_, rfl⟩
      rw [← hr] at htk hsr hrn hri
      have hlen : (C.take k).length = k := by rw [List.length_take, HCL.out]; omega
      have HL := hid hlen
      have HTK := hid htk
      have HSR := hid hsr
      have HRN := hid hrn
      have HRI := hid hri
      have HO := hid ho
      have HBK := hid hbk
      obtain ⟨va, vc, hv⟩ : ∃ va vc, u7 = .slice va k vc := by
        obtain ⟨_, _, ho1, _⟩ := ho
        obtain ⟨a', c', e⟩ := ownsRow_slice ho1
        exact ⟨a', c', by rw [e, hlen]⟩
      subst hv
      clear hr htk hsr hrn hri hkM ho hlen
      go_wp2
      go_loopw [10, 22] (fun v i wr => ∃ t : Nat, t ≤ k2 ∧ i = .int .i64 t ∧ wr.ownsRow wo.heap.size 3 1 v t (((S.take t).map (fun j => vec r j.toNat)).map (Value.int .i64)) ∧ Below wo.heap.size wo wr) (fun _ i _ => k2 - (intOf i).toNat)
      case atStart => exact ⟨0, Nat.zero_le _, rfl, World.ownsRow_nil _ _ _ _, Below.refl _ _⟩
      case round =>
        obtain ⟨t, ht, rfl, hown, hbt⟩ := hrel
        by_cases hlt2 : t < k2
        · have htS : t < S.length := by rw [HK2.out]; exact hlt2
          obtain ⟨b2, off2, rfl, hbs2, hc2⟩ := (HH2.out.below (chain HBK.out hbt)) t htS
          have hpp := HSR.out S[t] (List.getElem_mem htS)
          have hg2 : S[t]?.getD 0 = S[t] := by rw [List.getElem?_eq_getElem htS]; rfl
          rw [hg2] at hc2
          have htk2 : (S.take (t + 1)).map (fun j => vec r j.toNat) = (S.take t).map (fun j => vec r j.toNat) ++ [vec r (S[t]).toNat] := by
            rw [List.take_succ_eq_append_getElem htS, List.map_append]; rfl
          obtain ⟨q, hq⟩ : ∃ q : Nat, S[t] = q := ⟨(S[t]).toNat, by omega⟩
          rw [hq] at hc2 hpp htk2
          rw [show ((q : Int)).toNat = q by omega] at htk2
          have hqr : q < r.length := by omega
          obtain ⟨b3, off3, rfl, hbs3, hc3⟩ := (HRI.out.below hbt) q hqr
          have hqn : (q : Int) < (rn : Int) := by have := HRN.out; omega
          have hq0' : (0 : Int) ≤ (q : Int) := by omega
          obtain ⟨x, hx⟩ : ∃ x, x = r[q]?.getD 0 := ⟨_, rfl⟩
          have hxv : vec r q = x := hx.symm
          rw [← hx] at hc3
          rw [hxv] at htk2
          obtain ⟨la, lc, rfl⟩ := ownsRow_slice hown
          have HTK2 := hid htk2
          have HOW := hid hown
          have M1 := hid (show t + 1 ≤ maxLen by unfold maxLen; omega)
          have M2 := hid (show (t + 1) * 8 ≤ 140737488355328 by omega)
          have M3 := hid (Nat.le_trans hbt.size (le_alloc wr (.cells #[.int .i64 x] 3)))
          clear hpp hg2 htk2 hq hx hxv hown htS hqr
          go_wp2_with (at_builtin; refine wpList_app _ rfl (.tmp 26) (.tmp 31) 33 rfl wo.heap.size 3 (.int .i64 0) 1 8 Tryz.underlying33 li_int rfl Nat.one_pos (.slice la t lc) t _ rfl (HOW.out.alloc _) (some ⟨wr.heap.size, 0, none⟩) 1 1 [.int .i64 x] rfl rfl no_none (one_news wr _ _) (li_one _) M1.out M2.out M3.out ?_; refine Stop.of ?_)
          refine Stop.go ?_
          intro a3 c3 w3 own3 g3
          have hB3 : Below wo.heap.size wo w3 := (hbt.alloc hbt.size _).grown g3 M3.out (fun k hk => (HOW.out.lt k hk).1)
          go_wp2
          refine ⟨⟨t + 1, by omega, by go_num, ?_, hB3⟩, by simp [intOf]; omega⟩
          rw [HTK2.out]
          simpa using own3
        · obtain rfl : t = k2 := by omega
          rw [List.take_of_length_le (by rw [HK2.out]; exact Nat.le_refl _)] at hown
          obtain ⟨la, lc, rfl⟩ := ownsRow_slice hown
          have HMK := hid (HMO.out k wr hlt (chain HBK.out hbt))
          have HOW := hid hown
          have hml := HML.out k hlt
          obtain ⟨m, hm⟩ : ∃ m, m = mo k := ⟨_, rfl⟩
          rw [← hm] at hml HMK HTK
          obtain ⟨ml, hmle⟩ : ∃ ml, ml = m.length := ⟨_, rfl⟩
          rw [← hmle] at hml HMK
          have HME := hid hmle
          obtain ⟨hml1, hml2⟩ := hml
          clear hown hm hmle
          go_wp2_with (refine HMK.out.mono ?_; rintro e w2 ⟨ma, mc, rfl, hmi, hb2⟩; refine Stop.of ?_)
          refine Stop.go ?_
          have HO2 := hid (own_below HOW.out hb2)
          have HMI := hid hmi
          have HB2 := hid (chain hbt hb2)
          have N1 := hid (show t + ml ≤ maxLen by unfold maxLen; omega)
          have N2 := hid (show (t + ml) * 8 ≤ 140737488355328 by omega)
          have N3 := hid (show wo.heap.size ≤ w2.heap.size from HB2.out.size)
          have N4 := hid (show (m.map (Value.int .i64)).length = ml * 1 by rw [List.length_map, HME.out]; omega)
          have N5 := hid (show ma = none → ml = 0 from fun h => by rw [HME.out]; exact ints_none hmi h)
          have N6 := hid (ints_news hmi)
          clear hmi hb2 hbt
          go_wp2_with (at_builtin; refine wpList_app _ rfl (.tmp 35) (.tmp 38) 33 rfl wo.heap.size 3 (.int .i64 0) 1 8 Tryz.underlying33 li_int rfl Nat.one_pos (.slice la t lc) t _ rfl HO2.out ma ml mc (m.map (Value.int .i64)) rfl N4.out N5.out N6.out (ints_one _) N1.out N2.out N3.out ?_; refine Stop.of ?_)
          refine Stop.go ?_
          intro a3 c3 w3 own3 g3
          have hB3 : Below wo.heap.size wo w3 := HB2.out.grown g3 N3.out (fun k hk => (HO2.out.lt k hk).1)
          rw [← List.map_map, ← List.map_append] at own3
          obtain ⟨X, hX⟩ : ∃ X, X = S.map (fun j => vec r j.toNat) ++ m := ⟨_, rfl⟩
          rw [← hX] at own3 HTK
          have hXl : X.length = t + ml := by rw [hX, List.length_append, List.length_map, HK2.out, HME.out]
          obtain ⟨gn, cc, e3, hgn, hsr⟩ := spRow_own own3 hXl (by omega)
          cases e3
          have HXL := hid hXl
          obtain ⟨g', vs, ho, hin, he⟩ := HO.out
          rw [HL.out] at ho
          have hb2a : Below wo.heap.size wo (w3.alloc (.cells #[.slice (some ⟨gn, 0, none⟩) (t + ml) c3] 33)) := hB3.alloc hB3.size _
          have M1 := hid (show k + 1 ≤ maxLen by unfold maxLen; omega)
          have M2 := hid (show (k + 1) * 24 ≤ 140737488355328 by omega)
          have M3 := hid (Nat.le_trans HBK.out.size hb2a.size)
          have HO2' := hid (own_below ho hb2a)
          have HE := hid he
          have HIN := hid hin
          have HSR2 := hid hsr
          have HB2' := hid hb2a
          have HOO := hid ho
          have HC3 := hid (own_cap own3)
          clear he hin hsr hb2a ho own3 hX hXl hml1 hml2 hB3 g3
          go_wp2_with (at_builtin; refine wpList_app _ rfl (.tmp 34) (.tmp 40) 22 rfl w.heap.size 33 (.slice none 0 0) 1 24 Tryz.underlying22 li_ints rfl Nat.one_pos (.slice va k vc) k vs rfl HO2'.out (some ⟨w3.heap.size, 0, none⟩) 1 1 [.slice (some ⟨gn, 0, none⟩) (t + ml) c3] rfl rfl no_none (one_news w3 _ _) (slice_oneCell _ _ _) M1.out M2.out M3.out ?_; refine Stop.of ?_)
          refine Stop.go ?_
          intro a5 c5 w5 own5 g5
          have hsn : OwnM w5 w.heap.size (.slice a5 (k + 1) c5) (C.take k ++ [X]) := by
            have own5' : w5.ownsRow w.heap.size 33 1 (.slice a5 (k + 1) c5) ((C.take k).length + 1) (vs ++ [.slice (some ⟨gn, 0, none⟩) X.length c3]) := by rw [HL.out, HXL.out]; exact own5
            exact OwnM.snoc (by rw [HL.out]; exact HOO.out) HIN.out HE.out HB2'.out (HSR2.out.keep (Below.heap_alloc _ _ _ HSR2.out.lt)) hgn (by rw [HXL.out]; exact HC3.out) HBK.out.size g5 own5'
          have hB5 : Below w.heap.size w w5 := (HBK.out.trans (HB2'.out.mono HBK.out.size)).grown g5 M3.out (fun q hq => (HO2'.out.lt q hq).1)
          rw [← HTK.out] at hsn
          go_wp2
          exact ⟨⟨k + 1, by omega, by go_num, hsn, hB5⟩, by simp [intOf]; omega⟩
    · obtain rfl : k = n := by omega
      rw [List.take_of_length_le (by rw [HCL.out, HN.out]; exact Nat.le_refl _)] at ho
      go_wp2
      go_ret
      exact ⟨_, rfl, ho, hbk⟩
end Go.Proofs.YtkmjeegnijohmaaGreat

namespace Go.Proofs.YtkmjeegnijohmaaGreat
set_option linter.unusedVariables false

theorem fillF_snoc (v : Nat → Nat → Int) (p : Nat) : ∀ (J : List Nat) (k : Nat) (h : List Int), fillF v (J ++ [p]) k h = (fillF v J k h).set p (v (k + J.length) p)
  | [], k, h => rfl
  | q :: J, k, h => by
    show fillF v (J ++ [p]) (k + 1) _ = _
    rw [fillF_snoc v p J (k + 1), show k + 1 + J.length = k + (q :: J).length by simp; omega]
    rfl

theorem MaskOk.times {M : List (List Int)} {n : Nat} (h : MaskOk M n) (f : Nat) {t : Nat} (ht : t ≤ (JP M n).length) :
    0 < timesP (RP M n) f ((JP M n).take t) 0 1 ∧ timesP (RP M n) f ((JP M n).take t) 0 1 ≤ 720 := by
  obtain ⟨d, d1, d2, hk⟩ := pRed_ok (n := n) h.wid h.le6 (fun r hr c _ => h.one r hr c)
  obtain ⟨a, b, _, _⟩ := timesP_facts (R := RP M n) (f := f) (d := d) ((JP M n).take t) 0 1 (by decide) (Int.one_dvd _) (fun i hi => by
    rw [List.length_take] at hi
    have h1 : i < (JP M n).length := by omega
    have := hk.piv i h1
    rw [Nat.zero_add]
    have e : jf ((JP M n).take t) i = jf (JP M n) i := by unfold jf; rw [List.getElem?_take_of_lt (by omega)]
    rw [e]; exact this)
  have h9 := Int.le_of_dvd (by omega) b
  exact ⟨a, by omega⟩
theorem MaskOk.pivx {M : List (List Int)} {n : Nat} (h : MaskOk M n) {i : Nat} (hi : i < (JP M n).length) : 0 < vec ((RP M n)[i]?.getD []) ((JP M n)[i]) ∧ vec ((RP M n)[i]?.getD []) ((JP M n)[i]) ≤ 720 ∧ (JP M n)[i] < n := by
  have h1 : 0 < rowv (RP M n) i (jf (JP M n) i) := ((h.inv n).pp i hi).2
  have e : jf (JP M n) i = (JP M n)[i] := by unfold jf; rw [List.getElem?_eq_getElem hi]; rfl
  rw [e] at h1
  exact ⟨h1, (h.rp_le i _).2, (h.inv n).lt _ (List.getElem_mem hi)⟩
theorem MaskOk.bnd {M : List (List Int)} {n : Nat} (h : MaskOk M n) {t : Nat} (ht : t ≤ n) : ∀ r ∈ (pRed M t).1, r.length = n ∧ ∀ x ∈ r, -(720 : Int) ≤ x ∧ x ≤ 720 := by
  have := pRed_le (n := n) (Y := 1) h.wid h.le6 (fun r hr c _ => h.one r hr c) (fun r hr => mem_vec (P := fun x => -((1 : Nat) : Int) ≤ x ∧ x ≤ ((1 : Nat) : Int)) fun c => by have := h.one r hr c; omega) ht
  intro r hr
  obtain ⟨h1, h2⟩ := this r hr
  exact ⟨h1, fun x hx => by have := h2 x hx; omega⟩
end Go.Proofs.YtkmjeegnijohmaaGreat

namespace Go.Proofs.YtkmjeegnijohmaaGreat
open Go.RowKit
set_option linter.unusedVariables false

def intsJ (J : List Nat) : List Int := J.map (fun j : Nat => (j : Int))
theorem intsJ_len (J : List Nat) : (intsJ J).length = J.length := by simp [intsJ]
theorem intsJ_vals (J : List Nat) : J.map (fun j : Nat => Value.int .i64 j) = (intsJ J).map (Value.int .i64) := by unfold intsJ; rw [List.map_map]; rfl

theorem ints_of_own {W : World} {base : Nat} {v : Value} {n : Nat} {l : List Int} (h : W.ownsRow base 3 1 v n (l.map (Value.int .i64))) (hn : l.length = n) : ∃ a c, v = .slice a n c ∧ IntsAt W a l ∧ n ≤ maxLen := by
  subst hn
  rcases h.2 with ⟨rfl, h0⟩ | ⟨g, cap, cur, rfl, hbg, hgg, hnc, hcm, hsz, htk⟩
  · exact ⟨none, 0, by rw [h0], fun j hj => by omega, by rw [h0]; decide⟩
  · refine ⟨_, cap, rfl, ?_, by omega⟩
    have := (ElemI.own (S := fun _ => True) (base := base) ⟨h.1, .inr ⟨g, cap, cur, rfl, hbg, hgg, hnc, hcm, hsz, htk⟩⟩ (show l.length ≤ maxLen by omega) (fun _ _ => trivial)).ints
    exact this.2.2

theorem sp_made_set (w : World) (k f : Nat) (T : Int) : SpRow (w.alloc (.cells ((madeCells #[.int .i64 0] k).setIfInBounds f (.int .i64 T)) 3)) w.heap.size ((List.replicate k 0).set f T) := by
  have e : madeCells #[Value.int .i64 0] k = ((List.replicate k (0 : Int)).map (Value.int .i64)).toArray := by
    apply Array.toList_inj.1
    rw [toList_madeCells_one]; simp
  refine ⟨[], ?_⟩
  rw [World.alloc_heap_new, e, List.append_nil]
  congr 2
  apply Array.toList_inj.1
  simp [List.map_set]

end Go.Proofs.YtkmjeegnijohmaaGreat

namespace Go.Proofs.YtkmjeegnijohmaaGreat
open Go.RowKit
set_option linter.unusedVariables false

theorem region_cut {P : Program} {c : Code} {Q : Exit → Act → World → Prop} {a : Act} {w : World} (R : Act → Act → World → Prop) (h1 : c.wp P (fun e a' w' => e = .normal ∧ R a a' w') a w) (h2 : ∀ a' w', R a a' w' → Q .normal a' w') : c.wp P Q a w :=
  Code.wp_mono (fun e a' w' ⟨he, hr⟩ => by subst he; exact h2 a' w' hr) h1

theorem okM_ok {M : Mask} (h : okM M = true) : MaskOk M (colsM M) ∧ 1 ≤ M.length ∧ M.length ≤ 6 ∧ 1 ≤ colsM M ∧ colsM M ≤ 10 := by
  unfold okM inB at h
  simp only [Bool.and_eq_true, decide_eq_true_eq, List.all_eq_true] at h
  obtain ⟨⟨h1, h2⟩, h3⟩ := h
  have hr : ∀ r ∈ M, r.length = colsM M ∧ (1 ≤ r.length ∧ r.length ≤ 10) ∧ ∀ x ∈ r, -1 ≤ x ∧ x ≤ 1 := fun r hr => by
    have h4 := h3 r hr
    unfold okMRow inB at h4
    simp only [Bool.and_eq_true, decide_eq_true_eq, List.all_eq_true] at h4
    obtain ⟨h5, ⟨h6, h7⟩, h8⟩ := h4
    exact ⟨h5, ⟨by omega, by omega⟩, h8⟩
  have h0 : M.length ≠ 0 := by omega
  have hm0 : M[0]'(by omega) ∈ M := List.getElem_mem _
  obtain ⟨k1, k2, _⟩ := hr _ hm0
  refine ⟨⟨fun r hr' => (hr r hr').1, by omega, fun r hr' c => vec_mem (P := fun x => -1 ≤ x ∧ x ≤ 1) (by decide) (hr r hr').2.2 c⟩, by omega, by omega, by omega, by omega⟩

theorem rows_head {w : World} {a : Option Addr} {M : Mask} (H : RowsAt w a M) (h0 : 0 < M.length) :
    ∃ b off ra rc, a = some ⟨b, off, none⟩ ∧ b < w.heap.size ∧ w.cell? ⟨b, off, none⟩ = some (.slice ra (colsM M) rc) := by
  obtain ⟨b, off, ra, rn, rc, rfl, hb, hc, hn, _, _⟩ := H 0 h0
  refine ⟨b, off, ra, rc, rfl, hb, ?_⟩
  have e : colsM M = rn := by unfold colsM; rw [List.getElem?_eq_getElem h0]; exact hn
  rw [e]; simpa using hc

end Go.Proofs.YtkmjeegnijohmaaGreat

namespace Go.Proofs.YtkmjeegnijohmaaGreat
open Go.RowKit
set_option linter.unusedVariables false

def mixTo (p : List Int) (j : Nat) (r : List Int) (k : Nat) : List Int := (List.range k).map (fun c => vec r c * vec p j - vec p c * vec r j)
theorem mixTo_len (p : List Int) (j : Nat) (r : List Int) (k : Nat) : (mixTo p j r k).length = k := by simp [mixTo]
theorem mixTo_succ (p : List Int) (j : Nat) (r : List Int) (k : Nat) : mixTo p j r (k + 1) = mixTo p j r k ++ [vec r k * vec p j - vec p k * vec r j] := by
  unfold mixTo; rw [List.range_succ, List.map_append]; rfl
theorem mixTo_all {p r : List Int} (j : Nat) (h : p.length = r.length) : withoutF p j r = primF (mixTo p j r r.length) := by
  unfold withoutF mixTo
  congr 1
  refine List.ext_getElem (by simp [h]) fun i h1 h2 => ?_
  simp only [List.length_zipWith, List.length_map, List.length_range] at h1 h2
  simp only [List.getElem_zipWith, List.getElem_map, List.getElem_range]
  rw [vec_lt (show i < r.length by omega), vec_lt (show i < p.length by omega)]

set_option maxRecDepth 100000 in
set_option maxHeartbeats 4000000 in
theorem r3without_c (w : World) (a a2 : Option Addr) (n cap cap2 : Nat) (r p : List Int) (hn : r.length = n) (hn2 : p.length = n) (hm : n ≤ 1000) (H : IntsAt w a r) (H2 : IntsAt w a2 p) (hB : BndL 1073741824 r) (hB2 : BndL 1073741824 p) (j : Nat) (hj : j < n) :
    Calls Tryz.prog 123 #[.slice a n cap, .slice a2 n cap2, .int .i64 j] w fun e w' => ∃ v base, e = .returned v ∧ w.heap.size ≤ base ∧ w'.ownsRow base 3 1 v n ((withoutF p j r).map (Value.int .i64)) ∧ Below w.heap.size w w' := by
  rw [mixTo_all j (show p.length = r.length by omega), hn]
  have HN := hid hn
  have HN2 := hid hn2
  have HH := hid H
  have HH2 := hid H2
  have HB := hid hB
  have HB2 := hid hB2
  clear hn hn2 H H2 hB hB2
  go_enter Tryz.func123, Tryz.ntmps123
  go_wp2
  go_loopw [7, 11] (fun v i wr => ∃ k : Nat, k ≤ n ∧ i = .int .i64 k ∧ wr.ownsRow w.heap.size 3 1 v k ((mixTo p j r k).map (Value.int .i64)) ∧ Below w.heap.size w wr) (fun _ i _ => n - (intOf i).toNat)
  case atStart => exact ⟨0, Nat.zero_le _, rfl, World.ownsRow_nil _ _ _ _, Below.refl _ _⟩
  case round =>
    obtain ⟨k, hk, rfl, hown, hbt⟩ := hrel
    by_cases hlt : k < n
    · obtain ⟨b, off, rfl, hbs, hc1⟩ := HH.out k (by rw [HN.out]; exact hlt)
      obtain ⟨b', off', e', _, hc2⟩ := HH.out j (by rw [HN.out]; exact hj)
      cases e'
      obtain ⟨b2, off2, rfl, hbs2, hc3⟩ := HH2.out k (by rw [HN2.out]; exact hlt)
      obtain ⟨b2', off2', e', _, hc4⟩ := HH2.out j (by rw [HN2.out]; exact hj)
      cases e'
      have d1 := HB.out.get (show k < r.length by rw [HN.out]; exact hlt)
      have d2 := HB.out.get (show j < r.length by rw [HN.out]; exact hj)
      have d3 := HB2.out.get (show k < p.length by rw [HN2.out]; exact hlt)
      have d4 := HB2.out.get (show j < p.length by rw [HN2.out]; exact hj)
      have hsn : (mixTo p j r (k + 1)).map (Value.int .i64) = (mixTo p j r k).map (Value.int .i64) ++ [.int .i64 (r[k]?.getD 0 * p[j]?.getD 0 - p[k]?.getD 0 * r[j]?.getD 0)] := by rw [mixTo_succ, List.map_append]; rfl
      obtain ⟨x, hx⟩ : ∃ x, x = r[k]?.getD 0 := ⟨_, rfl⟩
      obtain ⟨rj, hrj⟩ : ∃ x, x = r[j]?.getD 0 := ⟨_, rfl⟩
      obtain ⟨y, hy⟩ : ∃ x, x = p[k]?.getD 0 := ⟨_, rfl⟩
      obtain ⟨pj, hpj⟩ : ∃ x, x = p[j]?.getD 0 := ⟨_, rfl⟩
      rw [← hx] at hc1 d1 hsn
      rw [← hrj] at hc2 d2 hsn
      rw [← hy] at hc3 d3 hsn
      rw [← hpj] at hc4 d4 hsn
      have e1 := mul_bnd (show -(1073741824 : Int) ≤ x ∧ x ≤ 1073741824 by omega) (show -(1073741824 : Int) ≤ pj ∧ pj ≤ 1073741824 by omega)
      have e2 := mul_bnd (show -(1073741824 : Int) ≤ y ∧ y ≤ 1073741824 by omega) (show -(1073741824 : Int) ≤ rj ∧ rj ≤ 1073741824 by omega)
      obtain ⟨m1, hm1⟩ : ∃ m, m = x * pj := ⟨_, rfl⟩
      obtain ⟨m2, hm2⟩ : ∃ m, m = y * rj := ⟨_, rfl⟩
      rw [← hm1, ← hm2] at hsn
      rw [← hm1] at e1
      rw [← hm2] at e2
      obtain ⟨z, hz⟩ : ∃ m, m = m1 - m2 := ⟨_, rfl⟩
      rw [← hz] at hsn
      have w1 : IntKind.i64.wrap (x * pj) = m1 := by rw [← hm1]; exact IntWalk.i64_in _ (by omega)
      have w2 : IntKind.i64.wrap (y * rj) = m2 := by rw [← hm2]; exact IntWalk.i64_in _ (by omega)
      have w3 : IntKind.i64.wrap (m1 - m2) = z := by rw [← hz]; exact IntWalk.i64_in _ (by omega)
      obtain ⟨va, vc, rfl⟩ := ownsRow_slice hown
      have HSN := hid hsn
      have HO := hid hown
      have HBT := hid hbt
      have HS := hid (fun (X : World) (hX : Below w.heap.size w X) => show X.cell? ⟨b, off + k, none⟩ = some (.int .i64 x) ∧ X.cell? ⟨b, off + j, none⟩ = some (.int .i64 rj) ∧ X.cell? ⟨b2, off2 + k, none⟩ = some (.int .i64 y) ∧ X.cell? ⟨b2, off2 + j, none⟩ = some (.int .i64 pj) from
        have hbw := hX
        ⟨(hbw.cell (p := ⟨b, off + k, none⟩) hbs).trans hc1, (hbw.cell (p := ⟨b, off + j, none⟩) hbs).trans hc2, (hbw.cell (p := ⟨b2, off2 + k, none⟩) hbs2).trans hc3, (hbw.cell (p := ⟨b2, off2 + j, none⟩) hbs2).trans hc4⟩)
      have M1 := hid (show k + 1 ≤ maxLen by unfold maxLen; omega)
      have M2 := hid (show (k + 1) * 8 ≤ 140737488355328 by omega)
      have M3 := hid hbt.size
      have i1 : (0 : Int) ≤ (k : Int) := by omega
      have i2 : (k : Int) < (n : Int) := by omega
      have i3 : (0 : Int) ≤ (j : Int) := by omega
      have i4 : (j : Int) < (n : Int) := by omega
      have hbsw : b < w.heap.size ∧ b2 < w.heap.size := ⟨hbs, hbs2⟩
      clear hown hbt hsn hx hrj hy hpj hm1 hm2 hz hc1 hc2 hc3 hc4 d1 d2 d3 d4 e1 e2
      go_wp2
      refine region_cut (fun fr fr' X => ∃ v14 v15 v16 v17 v18 v19 v20 v21 v22 v23 v24 v25 v26 v27 v28 v29 v30 v31 v32 v33 v34 v35, fr' = (((((((((((((((((((((((fr.put (some 14) v14).put (some 15) v15).put (some 16) v16).put (some 17) v17).put (some 18) v18).put (some 19) v19).put (some 20) v20).put (some 21) v21).put (some 22) v22).put (some 23) v23).put (some 24) v24).put (some 25) v25).put (some 26) v26).put (some 27) v27).put (some 28) v28).put (some 29) v29).put (some 30) v30).put (some 31) v31).put (some 32) v32).put (some 33) v33).put (some 34) v34).put (some 35) v35).put (some 7) v35) ∧ (∃ a3 c3, v35 = .slice a3 (k + 1) c3) ∧ X.ownsRow w.heap.size 3 1 v35 (k + 1) ((mixTo p j r (k + 1)).map (Value.int .i64)) ∧ Below w.heap.size w X) ?_ ?_
      · refine plain_region (fun j' X => wAll j' = true → X.cell? ⟨b, off + k, none⟩ = some (.int .i64 x) ∧ X.cell? ⟨b, off + j, none⟩ = some (.int .i64 rj) ∧ X.cell? ⟨b2, off2 + k, none⟩ = some (.int .i64 y) ∧ X.cell? ⟨b2, off2 + j, none⟩ = some (.int .i64 pj)) (by kernel_rfl) ?_
        have hbd : Below w.heap.size w wr.drew := HBT.out.drew
        have HO2 := hid (own_below HO.out ((Below.refl _ wr).drew))
        have HB3 := hid hbd
        generalize wr.drew = wd at hbd HO2 HB3 ⊢
        refine AnyT.takeD (i := 0) (v := .slice va k vc) rfl rfl (by kernel_rfl) (by kernel_rfl) (by kernel_rfl) (by first | exact (fun _ _ _ h => h) | exact (fun _ _ _ h => absurd h.1 (by simp))) (by kernel_rfl) (by rfl) (by rintro w' ⟨q1, q2, q3, q4⟩; go_simp) (HS.out _ hbd) ?_; go_frame
        refine AnyT.takeD (i := 1) (v := .slice (some ⟨b, off, none⟩) n cap) rfl rfl (by kernel_rfl) (by kernel_rfl) (by kernel_rfl) (by first | exact (fun _ _ _ h => h) | exact (fun _ _ _ h => absurd h.1 (by simp))) (by kernel_rfl) (by rfl) (by rintro w' ⟨q1, q2, q3, q4⟩; go_simp) (HS.out _ hbd) ?_; go_frame
        refine AnyT.takeD (i := 2) (v := .int .i64 k) rfl rfl (by kernel_rfl) (by kernel_rfl) (by kernel_rfl) (by first | exact (fun _ _ _ h => h) | exact (fun _ _ _ h => absurd h.1 (by simp))) (by kernel_rfl) (by rfl) (by rintro w' ⟨q1, q2, q3, q4⟩; go_simp) (HS.out _ hbd) ?_; go_frame
        refine AnyT.takeD (i := 3) (v := .pointer (some ⟨b, off + k, none⟩)) rfl rfl (by kernel_rfl) (by kernel_rfl) (by kernel_rfl) (by first | exact (fun _ _ _ h => h) | exact (fun _ _ _ h => absurd h.1 (by simp))) (by kernel_rfl) (by rfl) (by rintro w' ⟨q1, q2, q3, q4⟩; go_simp) (HS.out _ hbd) ?_; go_frame
        refine AnyT.takeD (i := 4) (v := .int .i64 x) rfl rfl (by kernel_rfl) (by kernel_rfl) (by kernel_rfl) (by first | exact (fun _ _ _ h => h) | exact (fun _ _ _ h => absurd h.1 (by simp))) (by kernel_rfl) (by rfl) (by rintro w' ⟨q1, q2, q3, q4⟩; go_simp) (HS.out _ hbd) ?_; go_frame
        refine AnyT.takeD (i := 5) (v := .slice (some ⟨b2, off2, none⟩) n cap2) rfl rfl (by kernel_rfl) (by kernel_rfl) (by kernel_rfl) (by first | exact (fun _ _ _ h => h) | exact (fun _ _ _ h => absurd h.1 (by simp))) (by kernel_rfl) (by rfl) (by rintro w' ⟨q1, q2, q3, q4⟩; go_simp) (HS.out _ hbd) ?_; go_frame
        refine AnyT.takeD (i := 6) (v := .int .i64 j) rfl rfl (by kernel_rfl) (by kernel_rfl) (by kernel_rfl) (by first | exact (fun _ _ _ h => h) | exact (fun _ _ _ h => absurd h.1 (by simp))) (by kernel_rfl) (by rfl) (by rintro w' ⟨q1, q2, q3, q4⟩; go_simp) (HS.out _ hbd) ?_; go_frame
        refine AnyT.takeD (i := 7) (v := .pointer (some ⟨b2, off2 + j, none⟩)) rfl rfl (by kernel_rfl) (by kernel_rfl) (by kernel_rfl) (by first | exact (fun _ _ _ h => h) | exact (fun _ _ _ h => absurd h.1 (by simp))) (by kernel_rfl) (by rfl) (by rintro w' ⟨q1, q2, q3, q4⟩; go_simp) (HS.out _ hbd) ?_; go_frame
        refine AnyT.takeD (i := 8) (v := .int .i64 pj) rfl rfl (by kernel_rfl) (by kernel_rfl) (by kernel_rfl) (by first | exact (fun _ _ _ h => h) | exact (fun _ _ _ h => absurd h.1 (by simp))) (by kernel_rfl) (by rfl) (by rintro w' ⟨q1, q2, q3, q4⟩; go_simp) (HS.out _ hbd) ?_; go_frame
        refine AnyT.takeD (i := 9) (v := .int .i64 m1) rfl rfl (by kernel_rfl) (by kernel_rfl) (by kernel_rfl) (by first | exact (fun _ _ _ h => h) | exact (fun _ _ _ h => absurd h.1 (by simp))) (by kernel_rfl) (by rfl) (by rintro w' ⟨q1, q2, q3, q4⟩; go_simp) (HS.out _ hbd) ?_; go_frame
        refine AnyT.takeD (i := 10) (v := .slice (some ⟨b2, off2, none⟩) n cap2) rfl rfl (by kernel_rfl) (by kernel_rfl) (by kernel_rfl) (by first | exact (fun _ _ _ h => h) | exact (fun _ _ _ h => absurd h.1 (by simp))) (by kernel_rfl) (by rfl) (by rintro w' ⟨q1, q2, q3, q4⟩; go_simp) (HS.out _ hbd) ?_; go_frame
        refine AnyT.takeD (i := 11) (v := .int .i64 k) rfl rfl (by kernel_rfl) (by kernel_rfl) (by kernel_rfl) (by first | exact (fun _ _ _ h => h) | exact (fun _ _ _ h => absurd h.1 (by simp))) (by kernel_rfl) (by rfl) (by rintro w' ⟨q1, q2, q3, q4⟩; go_simp) (HS.out _ hbd) ?_; go_frame
        refine AnyT.takeD (i := 12) (v := .pointer (some ⟨b2, off2 + k, none⟩)) rfl rfl (by kernel_rfl) (by kernel_rfl) (by kernel_rfl) (by first | exact (fun _ _ _ h => h) | exact (fun _ _ _ h => absurd h.1 (by simp))) (by kernel_rfl) (by rfl) (by rintro w' ⟨q1, q2, q3, q4⟩; go_simp) (HS.out _ hbd) ?_; go_frame
        refine AnyT.takeD (i := 13) (v := .int .i64 y) rfl rfl (by kernel_rfl) (by kernel_rfl) (by kernel_rfl) (by first | exact (fun _ _ _ h => h) | exact (fun _ _ _ h => absurd h.1 (by simp))) (by kernel_rfl) (by rfl) (by rintro w' ⟨q1, q2, q3, q4⟩; go_simp) (HS.out _ hbd) ?_; go_frame
        refine AnyT.takeD (i := 14) (v := .slice (some ⟨b, off, none⟩) n cap) rfl rfl (by kernel_rfl) (by kernel_rfl) (by kernel_rfl) (by first | exact (fun _ _ _ h => h) | exact (fun _ _ _ h => absurd h.1 (by simp))) (by kernel_rfl) (by rfl) (by rintro w' ⟨q1, q2, q3, q4⟩; go_simp) (HS.out _ hbd) ?_; go_frame
        refine AnyT.takeD (i := 15) (v := .int .i64 j) rfl rfl (by kernel_rfl) (by kernel_rfl) (by kernel_rfl) (by first | exact (fun _ _ _ h => h) | exact (fun _ _ _ h => absurd h.1 (by simp))) (by kernel_rfl) (by rfl) (by rintro w' ⟨q1, q2, q3, q4⟩; go_simp) (HS.out _ hbd) ?_; go_frame
        refine AnyT.takeD (i := 16) (v := .pointer (some ⟨b, off + j, none⟩)) rfl rfl (by kernel_rfl) (by kernel_rfl) (by kernel_rfl) (by first | exact (fun _ _ _ h => h) | exact (fun _ _ _ h => absurd h.1 (by simp))) (by kernel_rfl) (by rfl) (by rintro w' ⟨q1, q2, q3, q4⟩; go_simp) (HS.out _ hbd) ?_; go_frame
        refine AnyT.takeD (i := 17) (v := .int .i64 rj) rfl rfl (by kernel_rfl) (by kernel_rfl) (by kernel_rfl) (by first | exact (fun _ _ _ h => h) | exact (fun _ _ _ h => absurd h.1 (by simp))) (by kernel_rfl) (by rfl) (by rintro w' ⟨q1, q2, q3, q4⟩; go_simp) (HS.out _ hbd) ?_; go_frame
        refine AnyT.takeD (i := 18) (v := .int .i64 m2) rfl rfl (by kernel_rfl) (by kernel_rfl) (by kernel_rfl) (by first | exact (fun _ _ _ h => h) | exact (fun _ _ _ h => absurd h.1 (by simp))) (by kernel_rfl) (by rfl) (by rintro w' ⟨q1, q2, q3, q4⟩; go_simp) (HS.out _ hbd) ?_; go_frame
        refine AnyT.takeD (i := 19) (v := .int .i64 z) rfl rfl (by kernel_rfl) (by kernel_rfl) (by kernel_rfl) (by first | exact (fun _ _ _ h => h) | exact (fun _ _ _ h => absurd h.1 (by simp))) (by kernel_rfl) (by rfl) (by rintro w' ⟨q1, q2, q3, q4⟩; go_simp) (HS.out _ hbd) ?_; go_frame
        refine AnyT.next (i := 20) (by kernel_rfl) rfl (wpOp_of_list rfl ?_)
        go_wp2
        have hbA := hbd.alloc hbd.size (.cells #[.int .i64 z] 3)
        refine ⟨fun _ => HS.out _ hbA, ?_⟩
        refine AnyT.next (i := 21) (by kernel_rfl) rfl (wpOp_of_list rfl ?_)
        (refine wpList_app _ rfl (.tmp 14) (.tmp 34) 33 rfl w.heap.size 3 (.int .i64 0) 1 8 Tryz.underlying33 li_int rfl Nat.one_pos (.slice va k vc) k _ rfl (HO2.out.alloc _) (some ⟨wd.heap.size, 0, none⟩) 1 1 [.int .i64 z] rfl rfl no_none (one_news wd _ _) (li_one _) M1.out M2.out (Nat.le_trans HB3.out.size (le_alloc _ _)) ?_)
        intro a3 c3 w3 own3 g3
        have hb3 := hbA.grown g3 hbA.size (fun q hq => (HO2.out.lt q hq).1)
        refine ⟨fun _ => HS.out _ hb3, ?_⟩
        refine AnyT.takeD (i := 22) (v := .slice a3 (k + 1) c3) rfl rfl (by kernel_rfl) (by kernel_rfl) (by kernel_rfl) (by first | exact (fun _ _ _ h => h) | exact (fun _ _ _ h => absurd h.1 (by simp))) (by kernel_rfl) (by rfl) (by rintro w' ⟨q1, q2, q3, q4⟩; go_simp) (HS.out _ hb3) ?_; go_frame
        exact ⟨by kernel_rfl, rfl, .slice va k vc, .slice (some ⟨b, off, none⟩) n cap, .int .i64 k, .pointer (some ⟨b, off + k, none⟩), .int .i64 x, .slice (some ⟨b2, off2, none⟩) n cap2, .int .i64 j, .pointer (some ⟨b2, off2 + j, none⟩), .int .i64 pj, .int .i64 m1, .slice (some ⟨b2, off2, none⟩) n cap2, .int .i64 k, .pointer (some ⟨b2, off2 + k, none⟩), .int .i64 y, .slice (some ⟨b, off, none⟩) n cap, .int .i64 j, .pointer (some ⟨b, off + j, none⟩), .int .i64 rj, .int .i64 m2, .int .i64 z, .slice (some ⟨wd.heap.size, 0, none⟩) 1 1, .slice a3 (k + 1) c3, (by first | rfl | go_frame), ⟨a3, c3, rfl⟩, by rw [HSN.out]; exact own3, hb3⟩
      · rintro a5 w5 ⟨v14, v15, v16, v17, v18, v19, v20, v21, v22, v23, v24, v25, v26, v27, v28, v29, v30, v31, v32, v33, v34, v35, rfl, ⟨a3, c3, rfl⟩, ho5, hb5⟩
        go_frame
        go_wp2
        exact ⟨⟨k + 1, by omega, by go_num, ho5, hb5⟩, by simp [intOf]; omega⟩
    · obtain rfl : k = n := by omega
      have hmb : BndL 4611686018427387904 (mixTo p j r k) := by
        intro x hx
        unfold mixTo at hx
        obtain ⟨c, hc, rfl⟩ := List.mem_map.1 hx
        have hck := List.mem_range.1 hc
        have d1 := HB.out.get (show c < r.length by rw [HN.out]; exact hck)
        have d2 := HB.out.get (show j < r.length by rw [HN.out]; exact hj)
        have d3 := HB2.out.get (show c < p.length by rw [HN2.out]; exact hck)
        have d4 := HB2.out.get (show j < p.length by rw [HN2.out]; exact hj)
        have e1 := mul_bnd (show -(1073741824 : Int) ≤ r[c]?.getD 0 ∧ r[c]?.getD 0 ≤ 1073741824 by omega) (show -(1073741824 : Int) ≤ p[j]?.getD 0 ∧ p[j]?.getD 0 ≤ 1073741824 by omega)
        have e2 := mul_bnd (show -(1073741824 : Int) ≤ p[c]?.getD 0 ∧ p[c]?.getD 0 ≤ 1073741824 by omega) (show -(1073741824 : Int) ≤ r[j]?.getD 0 ∧ r[j]?.getD 0 ≤ 1073741824 by omega)
        show -((4611686018427387904 : Nat) : Int) ≤ r[c]?.getD 0 * p[j]?.getD 0 - p[c]?.getD 0 * r[j]?.getD 0 ∧ r[c]?.getD 0 * p[j]?.getD 0 - p[c]?.getD 0 * r[j]?.getD 0 ≤ ((4611686018427387904 : Nat) : Int)
        omega
      obtain ⟨va, vc, rfl, hi, _⟩ := ints_of_own hown (mixTo_len p j r k)
      have HP := hid (r3primitive_c wr va k vc (mixTo p j r k) (mixTo_len p j r k) hm hi hmb)
      have HBT := hid hbt
      clear hown hi hmb hbt
      go_wp2_with (go_at_call 113; refine HP.out.mono ?_; rintro e w4 ⟨v4, rfl, ho4, hb4⟩; refine Stop.of ?_)
      refine Stop.go ?_
      have HO4 := hid ho4
      have hb := chain HBT.out hb4
      clear ho4 hb4
      go_wp2
      go_ret
      exact ⟨v4, wr.heap.size, rfl, HBT.out.size, HO4.out, hb⟩
end Go.Proofs.YtkmjeegnijohmaaGreat

namespace Go.Proofs.YtkmjeegnijohmaaGreat
open Go.RowKit
set_option linter.unusedVariables false

def HeadV (W : World) (xs : List Value) (L : List (List Int)) : Prop :=
  xs.length = L.length ∧ ∀ j (hj : j < L.length), ∃ ra rn rc, xs[j]? = some (.slice ra rn rc) ∧ L[j].length = rn ∧ rn ≤ maxLen ∧ IntsAt W ra L[j]
theorem HeadV.nil (W : World) : HeadV W [] [] := ⟨rfl, fun j hj => by simp at hj⟩
theorem HeadV.below {W W' : World} {xs : List Value} {L : List (List Int)} (h : HeadV W xs L) (hb : Below W.heap.size W W') : HeadV W' xs L :=
  ⟨h.1, fun j hj => by obtain ⟨ra, rn, rc, h1, h2, h3, h4⟩ := h.2 j hj; exact ⟨ra, rn, rc, h1, h2, h3, h4.below hb⟩⟩
theorem HeadV.one {W : World} {ra : Option Addr} {rn rc : Nat} {l : List Int} (hn : l.length = rn) (hm : rn ≤ maxLen) (h : IntsAt W ra l) : HeadV W [.slice ra rn rc] [l] :=
  ⟨rfl, fun j hj => by
    obtain rfl : j = 0 := by simp at hj; omega
    exact ⟨ra, rn, rc, rfl, hn, hm, h⟩⟩
theorem HeadV.append {W : World} {xs ys : List Value} {L K : List (List Int)} (h : HeadV W xs L) (k : HeadV W ys K) : HeadV W (xs ++ ys) (L ++ K) := by
  refine ⟨by simp [h.1, k.1], fun j hj => ?_⟩
  by_cases e : j < L.length
  · obtain ⟨ra, rn, rc, h1, h2, h3, h4⟩ := h.2 j e
    refine ⟨ra, rn, rc, by rw [List.getElem?_append_left (by rw [h.1]; exact e)]; exact h1, ?_, h3, ?_⟩
    · rw [List.getElem_append_left e]; exact h2
    · rw [List.getElem_append_left e]; exact h4
  · have hj2 : j - L.length < K.length := by simp at hj; omega
    obtain ⟨ra, rn, rc, h1, h2, h3, h4⟩ := k.2 (j - L.length) hj2
    refine ⟨ra, rn, rc, by rw [List.getElem?_append_right (by rw [h.1]; omega), h.1]; exact h1, ?_, h3, ?_⟩
    · rw [List.getElem_append_right (by omega)]; exact h2
    · rw [List.getElem_append_right (by omega)]; exact h4
theorem HeadV.oneCell {W : World} {xs : List Value} {L : List (List Int)} (h : HeadV W xs L) : ∀ u ∈ xs, u.oneCell' = true := by
  intro u hu
  obtain ⟨i, hi, rfl⟩ := List.mem_iff_getElem.1 hu
  obtain ⟨ra, rn, rc, h1, _⟩ := h.2 i (by rw [← h.1]; exact hi)
  rw [List.getElem?_eq_getElem hi] at h1
  rw [Option.some.inj h1]; rfl

theorem rows_of_own {W : World} {base n c : Nat} {T : TypeId} {a : Option Addr} {xs : List Value} {L : List (List Int)} (h : W.ownsRow base T 1 (.slice a n c) n xs) (hv : HeadV W xs L) (hl : L.length = n) : RowsAt W a L := by
  intro j hj
  rcases h.2 with ⟨_, h0⟩ | ⟨g, cap, cur, e, hg, hh, rest⟩
  · omega
  · cases e
    have hlt := (Array.getElem?_eq_some_iff.1 hh).1
    have hc : W.cell? ⟨g, j, none⟩ = xs[j]? := World.ownsRow.cellAt (w := W) (base := base) (e := T) (size := 1) (g := g) (n := n) (cap := c) (xs := xs) h j (by omega)
    obtain ⟨ra, rn, rc, h1, h2, h3, h4⟩ := hv.2 j hj
    exact ⟨g, 0, ra, rn, rc, rfl, hlt, by rw [Nat.zero_add, hc]; exact h1, h2, h3, h4⟩
end Go.Proofs.YtkmjeegnijohmaaGreat

namespace Go.Proofs.YtkmjeegnijohmaaGreat
section
open Go.RowKit
set_option linter.unusedVariables false

def RowS (W : World) (v : Value) (l : List Int) : Prop :=
  (∃ g c, v = .slice (some ⟨g, 0, none⟩) l.length c ∧ SpRow W g l) ∨ (l = [] ∧ ∃ a c, v = .slice a 0 c)
theorem RowS.sl {W : World} {v : Value} {l : List Int} (h : RowS W v l) (hm : l.length ≤ maxLen) : SlV W v l := by
  rcases h with ⟨g, c, rfl, hs⟩ | ⟨rfl, a, c, rfl⟩
  · exact ⟨_, _, _, rfl, rfl, hm, hs.ints⟩
  · exact ⟨_, _, _, rfl, rfl, Nat.zero_le _, fun j hj => by simp at hj⟩
theorem RowS.below {W W' : World} {v : Value} {l : List Int} (h : RowS W v l) (hb : Below W.heap.size W W') : RowS W' v l := by
  rcases h with ⟨g, c, rfl, hs⟩ | h
  · exact .inl ⟨g, c, rfl, hs.keep (hb.block g hs.lt)⟩
  · exact .inr h
def TabS (W : World) (base : Nat) (v : Value) (L : List (List Int)) : Prop :=
  ∃ vs, W.ownsRow base 33 1 v L.length vs ∧ ∀ j (hj : j < L.length), ∃ u, vs[j]? = some u ∧ RowS W u L[j]
theorem TabS.nil (W : World) (base : Nat) : TabS W base (.slice none 0 0) [] := ⟨[], World.ownsRow_nil _ _ _ _, fun j hj => by simp at hj⟩
theorem TabS.below {W W' : World} {base : Nat} {v : Value} {L : List (List Int)} (h : TabS W base v L) (hb : Below W.heap.size W W') : TabS W' base v L := by
  obtain ⟨vs, h1, h2⟩ := h
  refine ⟨vs, own_below h1 hb, fun j hj => ?_⟩
  obtain ⟨u, hu, hr⟩ := h2 j hj
  exact ⟨u, hu, hr.below hb⟩
theorem TabS.rows {W : World} {base n c : Nat} {a : Option Addr} {L : List (List Int)} (h : TabS W base (.slice a n c) L) (hl : L.length = n) (hm : ∀ r ∈ L, r.length ≤ maxLen) : RowsAt W a L := by
  obtain ⟨vs, h1, h2⟩ := h
  rw [hl] at h1
  refine rows_of_own (xs := vs) h1 ⟨by have := h1.1; omega, fun j hj => ?_⟩ hl
  obtain ⟨u, hu, hr⟩ := h2 j hj
  obtain ⟨ra, rn, rc, rfl, e1, e2, e3⟩ := hr.sl (hm _ (List.getElem_mem hj))
  exact ⟨ra, rn, rc, hu, e1, e2, e3⟩
theorem TabS.snoc {W w1 w3 : World} {base : Nat} {v v' u : Value} {L : List (List Int)} {r : List Int} {vs : List Value} (h1 : W.ownsRow base 33 1 v L.length vs)
    (h2 : ∀ j (hj : j < L.length), ∃ u, vs[j]? = some u ∧ RowS W u L[j]) (hb : Below W.heap.size W w1) (hr : RowS w1 u r) (hg : w1.grownBy w3 v.ownBlock)
    (ho' : w3.ownsRow base 33 1 v' (L.length + 1) (vs ++ [u])) : TabS w3 base v' (L ++ [r]) := by
  have hlen : vs.length = L.length := by have := h1.1; omega
  have hown : ∀ b, v.ownBlock = some b → ∃ c f, w1.heap[b]? = some (.cells c 33 f) := by
    intro b hb'
    rcases h1.2 with ⟨rfl, _⟩ | ⟨g, cap, cur, rfl, hbg, hgg, _⟩
    · simp [Value.ownBlock] at hb'
    · obtain rfl : g = b := by simpa [Value.ownBlock] using hb'
      exact ⟨cur, _, (hb.block g (Array.getElem?_eq_some_iff.1 hgg).1).trans hgg⟩
  have hold : ∀ b l, SpRow w1 b l → SpRow w3 b l := by
    intro b l hs
    refine hs.keep (hg.block b hs.lt ?_)
    intro e
    obtain ⟨c, f, hc⟩ := hown b e.symm
    obtain ⟨sp, hs⟩ := hs
    rw [hs] at hc
    simp at hc
  have hup : ∀ u l, RowS w1 u l → RowS w3 u l := by
    rintro u l (⟨g, c, rfl, hs⟩ | h)
    · exact .inl ⟨g, c, rfl, hold _ _ hs⟩
    · exact .inr h
  refine ⟨vs ++ [u], by simpa using ho', fun j hj => ?_⟩
  simp only [List.length_append, List.length_cons, List.length_nil, Nat.zero_add] at hj
  by_cases hjl : j < L.length
  · obtain ⟨u', hu', hr'⟩ := h2 j hjl
    rw [List.getElem_append_left hjl]
    exact ⟨u', by rw [List.getElem?_append_left (by omega)]; exact hu', hup _ _ (hr'.below hb)⟩
  · obtain rfl : j = L.length := by omega
    rw [List.getElem_append_right (Nat.le_refl _)]
    simp only [Nat.sub_self, List.getElem_cons_zero]
    exact ⟨u, by rw [List.getElem?_append_right (by omega), hlen]; simp, hup _ _ hr⟩
theorem TabS.at {W : World} {base n : Nat} {v : Value} {L : List (List Int)} (h : TabS W base v L) (hl : L.length = n) {i : Nat} (hi : i < n) :
    ∃ g0 cap u, v = .slice (some ⟨g0, 0, none⟩) n cap ∧ base ≤ g0 ∧ g0 < W.heap.size ∧ W.cell? ⟨g0, i, none⟩ = some u ∧ RowS W u (L[i]?.getD []) ∧ W.frozen? ⟨g0, i, none⟩ = false ∧
      ∀ u' r, RowS W u' r → TabS (W.setCell ⟨g0, i, none⟩ u') base v (L.set i r) ∧ ∀ k, k ≠ g0 → (W.setCell ⟨g0, i, none⟩ u').heap[k]? = W.heap[k]? := by
  subst hl
  obtain ⟨vs, h1, h2⟩ := h
  obtain ⟨u, hu, hr⟩ := h2 i hi
  rcases h1.2 with ⟨rfl, h0⟩ | ⟨g0, cap, cur, rfl, hbg, hgg, hnc, hcm, hsz, htk⟩
  · omega
  have hcell := World.ownsRow.cellAt (w := W) (base := base) (e := 33) (size := 1) (g := g0) (n := L.length) (cap := cap) (xs := vs) h1 i (by omega)
  have hvl : vs.length = L.length := by have := h1.1; omega
  refine ⟨g0, cap, u, rfl, hbg, (Array.getElem?_eq_some_iff.1 hgg).1, by rw [hcell]; exact hu, by rw [List.getElem?_eq_getElem hi]; exact hr, by simp [World.frozen?, hgg], ?_⟩
  intro u' r hr'
  have hkeep : ∀ k, k ≠ g0 → (W.setCell ⟨g0, i, none⟩ u').heap[k]? = W.heap[k]? := fun k hk => Below.heap_setCell _ _ _ _ hk
  have hup : ∀ u l, RowS W u l → RowS (W.setCell ⟨g0, i, none⟩ u') u l := by
    rintro u l (⟨g, c, rfl, hs⟩ | h)
    · refine .inl ⟨g, c, rfl, hs.keep (hkeep g ?_)⟩
      rintro rfl
      obtain ⟨sp, hs⟩ := hs
      rw [hgg] at hs
      cases hs
    · exact .inr h
  have hb2 : (W.setCell ⟨g0, i, none⟩ u').heap[g0]? = some (.cells (cur.setIfInBounds i u') 33 (0, 0)) := cells_set hgg i u'
  refine ⟨⟨vs.set i u', ⟨by simpa using h1.1, .inr ⟨g0, cap, cur.setIfInBounds i u', by simp, hbg, hb2, by simpa using hnc, hcm, by simpa using hsz, ?_⟩⟩, fun j hj => ?_⟩, hkeep⟩
  · rw [← htk]
    simp only [Array.toList_setIfInBounds, List.length_set, Nat.mul_one]
    rw [List.take_set]
  · have hj' : j < L.length := by simpa using hj
    by_cases e : i = j
    · subst e
      exact ⟨u', by simp [hvl, hj'], by simpa using hup _ _ hr'⟩
    · obtain ⟨u2, hu2, hr2⟩ := h2 j hj'
      exact ⟨u2, by rw [List.getElem?_set_ne e]; exact hu2, by rw [List.getElem_set_ne e]; exact hup _ _ hr2⟩
end

section
open Go.RowKit
set_option linter.unusedVariables false

theorem rowS_own {W : World} {b0 : Nat} {v : Value} {l : List Int} {n : Nat} (h : W.ownsRow b0 3 1 v n (l.map (Value.int .i64))) (hn : l.length = n) : RowS W v l := by
  rcases Nat.eq_zero_or_pos n with h0 | h0
  · obtain ⟨a, c, rfl⟩ := ownsRow_slice h
    subst h0
    exact .inr ⟨List.length_eq_zero_iff.1 hn, a, c, rfl⟩
  · obtain ⟨g, cap, rfl, _, hs⟩ := spRow_own h hn h0
    exact .inl ⟨g, cap, by rw [hn], hs⟩
theorem RowS.slice {W : World} {v : Value} {l : List Int} (h : RowS W v l) : ∃ a c, v = .slice a l.length c := by
  rcases h with ⟨g, c, rfl, _⟩ | ⟨rfl, a, c, rfl⟩
  · exact ⟨_, _, rfl⟩
  · exact ⟨_, _, rfl⟩
theorem colsF_take {M : List (List Int)} {S : List Int} {k : Nat} (hk : k < M.length) : (colsF M S).take (k + 1) = (colsF M S).take k ++ [S.map (fun j => vec M[k] j.toNat)] := by
  have hc : k < (colsF M S).length := by rw [colsF_len]; exact hk
  rw [List.take_succ_eq_append_getElem hc]
  congr 2
  simp [colsF]

set_option maxRecDepth 100000 in
set_option maxHeartbeats 4000000 in
theorem r3columns_c (w : World) (a : Option Addr) (n cap : Nat) (M : List (List Int)) (hn : M.length = n) (hn6 : n ≤ 1000) (H : RowsAt w a M) (a2 : Option Addr) (k2 cap2 : Nat) (S : List Int) (hk2 : S.length = k2) (hk21 : k2 ≤ 1000) (H2 : IntsAt w a2 S)
    (hS : ∀ r ∈ M, ∀ j ∈ S, 0 ≤ j ∧ j < r.length) :
    Calls Tryz.prog 100 #[.slice a n cap, .slice a2 k2 cap2] w fun e w' => ∃ v, e = .returned v ∧ TabS w' w.heap.size v (colsF M S) ∧ Below w.heap.size w w' := by
  have HN := hid hn
  have HH := hid H
  have HK2 := hid hk2
  have HH2 := hid H2
  have HS := hid hS
  have HCT := hid (fun (k : Nat) (hk : k < M.length) => colsF_take (M := M) (S := S) hk)
  have HCL := hid (colsF_len M S)
  obtain ⟨C, hC⟩ : ∃ C, C = colsF M S := ⟨_, rfl⟩
  rw [← hC] at HCT HCL ⊢
  clear hn H hk2 H2 hS hC
  go_enter Tryz.func100, Tryz.ntmps100
  go_wp2
  go_loopw [5, 13] (fun v i wr => ∃ k : Nat, k ≤ n ∧ i = .int .i64 k ∧ TabS wr w.heap.size v (C.take k) ∧ Below w.heap.size w wr) (fun _ i _ => n - (intOf i).toNat)
  case atStart => exact ⟨0, Nat.zero_le _, rfl, TabS.nil _ _, Below.refl _ _⟩
  case round =>
    obtain ⟨k, hk, rfl, ho, hbk⟩ := hrel
    obtain ⟨wo, hwo⟩ : ∃ wo, wo = wr := ⟨_, rfl⟩
    subst hwo
    by_cases hlt : k < n
    · have hkM : k < M.length := by rw [HN.out]; exact hlt
      obtain ⟨b, off, ra, rn, rc, rfl, hbs, hq0, hrn, hrm, hri⟩ := (HH.out.below hbk) k hkM
      have htk := HCT.out k hkM
      have hsr := HS.out M[k] (List.getElem_mem hkM)
      obtain ⟨r, hr⟩ : ∃ r, r = M[k] := ⟨_, rfl⟩
      rw [← hr] at htk hsr hrn hri
      have hlen : (C.take k).length = k := by rw [List.length_take, HCL.out]; omega
      have HL := hid hlen
      have HTK := hid htk
      have HSR := hid hsr
      have HRN := hid hrn
      have HRI := hid hri
      have HO := hid ho
      have HBK := hid hbk
      obtain ⟨va, vc, hv⟩ : ∃ va vc, u5 = .slice va k vc := by
        obtain ⟨_, ho1, _⟩ := ho
        obtain ⟨a', c', e⟩ := ownsRow_slice ho1
        exact ⟨a', c', by rw [e, hlen]⟩
      subst hv
      have M0 := World.ownsRow_made (base := wo.heap.size) (e := 3) (size := 1) wo #[] 0 (Nat.le_refl _) (Nat.zero_le _) rfl
      have HM0 := hid M0
      clear hr htk hsr hrn hri hkM ho hlen M0
      go_wp2
      go_loopw [8, 20] (fun v i wr => ∃ t : Nat, t ≤ k2 ∧ i = .int .i64 t ∧ wr.ownsRow wo.heap.size 3 1 v t (((S.take t).map (fun j => vec r j.toNat)).map (Value.int .i64)) ∧ Below wo.heap.size wo wr) (fun _ i _ => k2 - (intOf i).toNat)
      case atStart => exact ⟨0, Nat.zero_le _, rfl, HM0.out, (Below.refl _ _).alloc (Nat.le_refl _) _⟩
      case round =>
        obtain ⟨t, ht, rfl, hown, hbt⟩ := hrel
        by_cases hlt2 : t < k2
        · have htS : t < S.length := by rw [HK2.out]; exact hlt2
          obtain ⟨b2, off2, rfl, hbs2, hc2⟩ := (HH2.out.below (chain HBK.out hbt)) t htS
          have hpp := HSR.out S[t] (List.getElem_mem htS)
          have hg2 : S[t]?.getD 0 = S[t] := by rw [List.getElem?_eq_getElem htS]; rfl
          rw [hg2] at hc2
          have htk2 : (S.take (t + 1)).map (fun j => vec r j.toNat) = (S.take t).map (fun j => vec r j.toNat) ++ [vec r (S[t]).toNat] := by
            rw [List.take_succ_eq_append_getElem htS, List.map_append]; rfl
          obtain ⟨q, hq⟩ : ∃ q : Nat, S[t] = q := ⟨(S[t]).toNat, by omega⟩
          rw [hq] at hc2 hpp htk2
          rw [show ((q : Int)).toNat = q by omega] at htk2
          have hqr : q < r.length := by omega
          obtain ⟨b3, off3, rfl, hbs3, hc3⟩ := (HRI.out.below hbt) q hqr
          have hqn : (q : Int) < (rn : Int) := by have := HRN.out; omega
          have hq0' : (0 : Int) ≤ (q : Int) := by omega
          obtain ⟨x, hx⟩ : ∃ x, x = r[q]?.getD 0 := ⟨_, rfl⟩
          have hxv : vec r q = x := hx.symm
          rw [← hx] at hc3
          rw [hxv] at htk2
          obtain ⟨la, lc, rfl⟩ := ownsRow_slice hown
          have HTK2 := hid htk2
          have HOW := hid hown
          have M1 := hid (show t + 1 ≤ maxLen by unfold maxLen; omega)
          have M2 := hid (show (t + 1) * 8 ≤ 140737488355328 by omega)
          have M3 := hid (Nat.le_trans hbt.size (le_alloc wr (.cells #[.int .i64 x] 3)))
          clear hpp hg2 htk2 hq hx hxv hown htS hqr
          go_wp2_with (at_builtin; refine wpList_app _ rfl (.tmp 24) (.tmp 29) 33 rfl wo.heap.size 3 (.int .i64 0) 1 8 Tryz.underlying33 li_int rfl Nat.one_pos (.slice la t lc) t _ rfl (HOW.out.alloc _) (some ⟨wr.heap.size, 0, none⟩) 1 1 [.int .i64 x] rfl rfl no_none (one_news wr _ _) (li_one _) M1.out M2.out M3.out ?_; refine Stop.of ?_)
          refine Stop.go ?_
          intro a3 c3 w3 own3 g3
          have hB3 : Below wo.heap.size wo w3 := (hbt.alloc hbt.size _).grown g3 M3.out (fun k hk => (HOW.out.lt k hk).1)
          go_wp2
          refine ⟨⟨t + 1, by omega, by go_num, ?_, hB3⟩, by simp [intOf]; omega⟩
          rw [HTK2.out]
          simpa using own3
        · obtain rfl : t = k2 := by omega
          rw [List.take_of_length_le (by rw [HK2.out]; exact Nat.le_refl _)] at hown
          obtain ⟨X, hX⟩ : ∃ X, X = S.map (fun j => vec r j.toNat) := ⟨_, rfl⟩
          rw [← hX] at hown HTK
          have hXl : X.length = t := by rw [hX, List.length_map, HK2.out]
          obtain ⟨la, lc, rfl⟩ := ownsRow_slice hown
          have hrs := rowS_own hown hXl
          obtain ⟨vs, ho1, ho2⟩ := HO.out
          have ho1' := ho1
          rw [HL.out] at ho1'
          have hb2a : Below wo.heap.size wo (wr.alloc (.cells #[.slice la t lc] 33)) := hbt.alloc hbt.size _
          have M1 := hid (show k + 1 ≤ maxLen by unfold maxLen; omega)
          have M2 := hid (show (k + 1) * 24 ≤ 140737488355328 by omega)
          have M3 := hid (Nat.le_trans HBK.out.size hb2a.size)
          have HO2' := hid (own_below ho1' hb2a)
          have HO1 := hid ho1
          have HO2 := hid ho2
          have HRS := hid (hrs.below ((Below.refl _ wr).alloc (Nat.le_refl _) (.cells #[.slice la t lc] 33)))
          have HB2' := hid hb2a
          clear hX hXl hown hrs ho1 ho1' ho2 hb2a hbt
          go_wp2_with (at_builtin; refine wpList_app _ rfl (.tmp 32) (.tmp 34) 22 rfl w.heap.size 33 (.slice none 0 0) 1 24 Tryz.underlying22 li_ints rfl Nat.one_pos (.slice va k vc) k vs rfl HO2'.out (some ⟨wr.heap.size, 0, none⟩) 1 1 [.slice la t lc] rfl rfl no_none (one_news wr _ _) (slice_oneCell _ _ _) M1.out M2.out M3.out ?_; refine Stop.of ?_)
          refine Stop.go ?_
          intro a5 c5 w5 own5 g5
          have hsn : TabS w5 w.heap.size (.slice a5 (k + 1) c5) (C.take k ++ [X]) := TabS.snoc HO1.out HO2.out HB2'.out HRS.out g5 (by rw [HL.out]; exact own5)
          have hB5 : Below w.heap.size w w5 := (HBK.out.trans (HB2'.out.mono HBK.out.size)).grown g5 M3.out (fun q hq => (HO2'.out.lt q hq).1)
          rw [← HTK.out] at hsn
          go_wp2
          exact ⟨⟨k + 1, by omega, by go_num, hsn, hB5⟩, by simp [intOf]; omega⟩
    · obtain rfl : k = n := by omega
      rw [List.take_of_length_le (by rw [HCL.out, HN.out]; exact Nat.le_refl _)] at ho
      go_wp2
      go_ret
      exact ⟨_, rfl, ho, hbk⟩
end

section
open Go.RowKit
set_option linter.unusedVariables false

def RowN (N : Option Nat) (W : World) (v : Value) (l : List Int) : Prop :=
  (∃ g c, v = .slice (some ⟨g, 0, none⟩) l.length c ∧ SpRow W g l ∧ N ≠ some g) ∨ (l = [] ∧ ∃ a c, v = .slice a 0 c)
theorem RowN.row {N : Option Nat} {W : World} {v : Value} {l : List Int} (h : RowN N W v l) : RowS W v l := by
  rcases h with ⟨g, c, e, hs, _⟩ | h
  · exact .inl ⟨g, c, e, hs⟩
  · exact .inr h
theorem rowN_own {N : Option Nat} {W : World} {b0 : Nat} {v : Value} {l : List Int} {n : Nat} (h : W.ownsRow b0 3 1 v n (l.map (Value.int .i64))) (hn : l.length = n) (hN : ∀ k, N = some k → k < b0) : RowN N W v l := by
  rcases Nat.eq_zero_or_pos n with h0 | h0
  · obtain ⟨a, c, rfl⟩ := ownsRow_slice h
    subst h0
    exact .inr ⟨List.length_eq_zero_iff.1 hn, a, c, rfl⟩
  · obtain ⟨g, cap, rfl, hg, hs⟩ := spRow_own h hn h0
    exact .inl ⟨g, cap, by rw [hn], hs, fun e => by have := hN g e; omega⟩
def KeepN (N : Option Nat) (W W' : World) : Prop := ∀ k c, W.heap[k]? = some (.cells c 3 (0, 0)) → N ≠ some k → W'.heap[k]? = W.heap[k]?
theorem RowN.keep {N : Option Nat} {W W' : World} {v : Value} {l : List Int} (h : RowN N W v l) (hk : KeepN N W W') : RowN N W' v l := by
  rcases h with ⟨g, c, e, hs, hne⟩ | h
  · refine .inl ⟨g, c, e, ?_, hne⟩
    obtain ⟨sp, hs'⟩ := id hs
    exact hs.keep (hk g _ hs' hne)
  · exact .inr h
theorem KeepN.below {N : Option Nat} {W W' : World} (hb : Below W.heap.size W W') : KeepN N W W' := fun k c h _ => hb.block k (Array.getElem?_eq_some_iff.1 h).1
def TabN (N : Option Nat) (W : World) (base : Nat) (v : Value) (L : List (List Int)) : Prop :=
  ∃ vs, W.ownsRow base 33 1 v L.length vs ∧ ∀ j (hj : j < L.length), ∃ u, vs[j]? = some u ∧ RowN N W u L[j]
theorem TabN.tab {N : Option Nat} {W : World} {base : Nat} {v : Value} {L : List (List Int)} (h : TabN N W base v L) : TabS W base v L := by
  obtain ⟨vs, h1, h2⟩ := h
  refine ⟨vs, h1, fun j hj => ?_⟩
  obtain ⟨u, hu, hr⟩ := h2 j hj
  exact ⟨u, hu, hr.row⟩
theorem TabN.nil (N : Option Nat) (W : World) (base : Nat) : TabN N W base (.slice none 0 0) [] := ⟨[], World.ownsRow_nil _ _ _ _, fun j hj => by simp at hj⟩
theorem own_kept {W W' : World} {base size n : Nat} {T : TypeId} {v : Value} {xs : List Value} (h : W.ownsRow base T size v n xs) (hk : ∀ k, v.ownBlock = some k → k < W.heap.size → W'.heap[k]? = W.heap[k]?) : W'.ownsRow base T size v n xs := by
  refine ⟨h.1, ?_⟩
  rcases h.2 with hn | ⟨g, cap, cur, rfl, hbg, hgg, rest⟩
  · exact .inl hn
  · exact .inr ⟨g, cap, cur, rfl, hbg, (hk g rfl (Array.getElem?_eq_some_iff.1 hgg).1).trans hgg, rest⟩
theorem own_low {W : World} {base b0 size n : Nat} {T : TypeId} {v : Value} {xs : List Value} (h : W.ownsRow base T size v n xs) (hb : b0 ≤ base) : W.ownsRow b0 T size v n xs := by
  refine ⟨h.1, ?_⟩
  rcases h.2 with hn | ⟨g, cap, cur, rfl, hbg, rest⟩
  · exact .inl hn
  · exact .inr ⟨g, cap, cur, rfl, Nat.le_trans hb hbg, rest⟩
theorem own_type {W : World} {base size n k : Nat} {T : TypeId} {v : Value} {xs : List Value} (h : W.ownsRow base T size v n xs) (hk : v.ownBlock = some k) : base ≤ k ∧ ∃ c, W.heap[k]? = some (.cells c T (0, 0)) := by
  rcases h.2 with ⟨rfl, _⟩ | ⟨g, cap, cur, rfl, hbg, hgg, _⟩
  · simp [Value.ownBlock] at hk
  · obtain rfl : g = k := by simpa [Value.ownBlock] using hk
    exact ⟨hbg, cur, hgg⟩
theorem TabN.type {N : Option Nat} {W : World} {base k : Nat} {v : Value} {L : List (List Int)} (h : TabN N W base v L) (hk : v.ownBlock = some k) : base ≤ k ∧ k < W.heap.size ∧ ∃ c, W.heap[k]? = some (.cells c 33 (0, 0)) := by
  obtain ⟨vs, h1, _⟩ := h
  obtain ⟨h2, c, h3⟩ := own_type h1 hk
  exact ⟨h2, (Array.getElem?_eq_some_iff.1 h3).1, c, h3⟩
theorem TabN.low {N : Option Nat} {W : World} {base b0 : Nat} {v : Value} {L : List (List Int)} (h : TabN N W base v L) (hb : b0 ≤ base) : TabN N W b0 v L := by
  obtain ⟨vs, h1, h2⟩ := h
  exact ⟨vs, own_low h1 hb, h2⟩
theorem TabN.keep {N : Option Nat} {W W' : World} {base : Nat} {v : Value} {L : List (List Int)} (h : TabN N W base v L) (hk : KeepN N W W') (ho : ∀ k, v.ownBlock = some k → k < W.heap.size → W'.heap[k]? = W.heap[k]?) : TabN N W' base v L := by
  obtain ⟨vs, h1, h2⟩ := h
  refine ⟨vs, own_kept h1 ho, fun j hj => ?_⟩
  obtain ⟨u, hu, hr⟩ := h2 j hj
  exact ⟨u, hu, hr.keep hk⟩
theorem TabN.below {N : Option Nat} {W W' : World} {base : Nat} {v : Value} {L : List (List Int)} (h : TabN N W base v L) (hb : Below W.heap.size W W') : TabN N W' base v L :=
  h.keep (KeepN.below hb) fun k _ hk => hb.block k hk
theorem TabN.other {N N' : Option Nat} {W : World} {base : Nat} {v : Value} {L : List (List Int)} (h : TabN N W base v L) (hN : N' = N ∨ N' = some W.heap.size) : TabN N' W base v L := by
  obtain ⟨vs, h1, h2⟩ := h
  refine ⟨vs, h1, fun j hj => ?_⟩
  obtain ⟨u, hu, hr⟩ := h2 j hj
  refine ⟨u, hu, ?_⟩
  rcases hr with ⟨g, c, e, hs, hne⟩ | hr
  · refine .inl ⟨g, c, e, hs, ?_⟩
    rcases hN with rfl | rfl
    · exact hne
    · intro e
      have h1 : W.heap.size = g := by simpa using e
      have := hs.lt
      omega
  · exact .inr hr
theorem TabN.piv {W W' : World} {base b2 n : Nat} {v p p' : Value} {xs : List Value} {L : List (List Int)} (h : TabN p.ownBlock W base v L) (hg : W.grownBy W' p.ownBlock) (hat : p'.ownBlock = p.ownBlock ∨ p'.ownBlock = some W.heap.size)
    (hP : W.ownsRow b2 3 1 p n xs) : TabN p'.ownBlock W' base v L := by
  have h1 : TabN p.ownBlock W' base v L := by
    refine h.keep (fun k c hk hne => hg.block k (Array.getElem?_eq_some_iff.1 hk).1 (fun e => hne e.symm)) fun k hk hlt => hg.block k hlt fun e => ?_
    obtain ⟨_, _, c, hc⟩ := h.type hk
    obtain ⟨_, c2, hc2⟩ := own_type hP e.symm
    rw [hc] at hc2
    cases hc2
  have hlt : ∀ u l, RowN p.ownBlock W u l → RowN p'.ownBlock W' u l := by
    intro u l hr
    rcases hr with ⟨g, c, e, hs, hne⟩ | hr
    · refine .inl ⟨g, c, e, ?_, ?_⟩
      · obtain ⟨sp, hs'⟩ := id hs
        exact hs.keep (hg.block g hs.lt (fun e => hne e.symm))
      · rcases hat with hat | hat
        · rw [hat]; exact hne
        · rw [hat]; intro e
          have h1 : W.heap.size = g := by simpa using e
          have := hs.lt
          omega
    · exact .inr hr
  obtain ⟨vs, h2, h3⟩ := h
  obtain ⟨vs', h4, _⟩ := h1
  refine ⟨vs, own_kept h2 fun k hk hlt' => hg.block k hlt' fun e => ?_, fun j hj => ?_⟩
  · obtain ⟨_, c, hc⟩ := own_type h2 hk
    obtain ⟨_, c2, hc2⟩ := own_type hP e.symm
    rw [hc] at hc2
    cases hc2
  · obtain ⟨u, hu, hr⟩ := h3 j hj
    exact ⟨u, hu, hlt _ _ hr⟩
theorem TabN.beside {N : Option Nat} {W W' : World} {base : Nat} {v : Value} {L : List (List Int)} (h : TabN N W base v L) {g0 : Option Nat} (hk : ∀ k, k < W.heap.size → g0 ≠ some k → W'.heap[k]? = W.heap[k]?)
    (hg : ∀ k, g0 = some k → ∃ c, W.heap[k]? = some (.cells c 33 (0, 0))) (hne : ∀ k, g0 = some k → v.ownBlock ≠ some k) : TabN N W' base v L := by
  refine h.keep (fun k c hc hn => hk k (Array.getElem?_eq_some_iff.1 hc).1 fun e => ?_) fun k hv hlt => hk k hlt fun e => hne k e hv
  obtain ⟨c2, h2⟩ := hg k e
  rw [h2] at hc
  cases hc
theorem TabN.snoc {N : Option Nat} {w1 w3 : World} {base : Nat} {v v' u : Value} {L : List (List Int)} {r : List Int} {vs : List Value} (h1 : w1.ownsRow base 33 1 v L.length vs)
    (h2 : ∀ j (hj : j < L.length), ∃ u, vs[j]? = some u ∧ RowN N w1 u L[j]) (hr : RowN N w1 u r) (hg : w1.grownBy w3 v.ownBlock)
    (ho' : w3.ownsRow base 33 1 v' (L.length + 1) (vs ++ [u])) : TabN N w3 base v' (L ++ [r]) := by
  have hlen : vs.length = L.length := by have := h1.1; omega
  have hK : KeepN N w1 w3 := fun k c hc hn => hg.block k (Array.getElem?_eq_some_iff.1 hc).1 fun e => by
    obtain ⟨_, c2, h2⟩ := own_type h1 e.symm
    rw [h2] at hc
    cases hc
  refine ⟨vs ++ [u], by simpa using ho', fun j hj => ?_⟩
  simp only [List.length_append, List.length_cons, List.length_nil, Nat.zero_add] at hj
  by_cases hjl : j < L.length
  · obtain ⟨u', hu', hr'⟩ := h2 j hjl
    rw [List.getElem_append_left hjl]
    exact ⟨u', by rw [List.getElem?_append_left (by omega)]; exact hu', hr'.keep hK⟩
  · obtain rfl : j = L.length := by omega
    rw [List.getElem_append_right (Nat.le_refl _)]
    simp only [Nat.sub_self, List.getElem_cons_zero]
    exact ⟨u, by rw [List.getElem?_append_right (by omega), hlen]; simp, hr.keep hK⟩
theorem TabN.at {N : Option Nat} {W : World} {base n : Nat} {v : Value} {L : List (List Int)} (h : TabN N W base v L) (hl : L.length = n) {i : Nat} (hi : i < n) :
    ∃ g0 cap u, v = .slice (some ⟨g0, 0, none⟩) n cap ∧ base ≤ g0 ∧ g0 < W.heap.size ∧ (∃ c, W.heap[g0]? = some (.cells c 33 (0, 0))) ∧ W.cell? ⟨g0, i, none⟩ = some u ∧ RowN N W u (L[i]?.getD []) ∧ W.frozen? ⟨g0, i, none⟩ = false ∧
      ∀ u' r, RowN N W u' r → TabN N (W.setCell ⟨g0, i, none⟩ u') base v (L.set i r) ∧ ∀ k, k ≠ g0 → (W.setCell ⟨g0, i, none⟩ u').heap[k]? = W.heap[k]? := by
  subst hl
  obtain ⟨vs, h1, h2⟩ := h
  obtain ⟨u, hu, hr⟩ := h2 i hi
  rcases h1.2 with ⟨rfl, h0⟩ | ⟨g0, cap, cur, rfl, hbg, hgg, hnc, hcm, hsz, htk⟩
  · omega
  have hcell := World.ownsRow.cellAt (w := W) (base := base) (e := 33) (size := 1) (g := g0) (n := L.length) (cap := cap) (xs := vs) h1 i (by omega)
  have hvl : vs.length = L.length := by have := h1.1; omega
  refine ⟨g0, cap, u, rfl, hbg, (Array.getElem?_eq_some_iff.1 hgg).1, ⟨cur, hgg⟩, by rw [hcell]; exact hu, by rw [List.getElem?_eq_getElem hi]; exact hr, by simp [World.frozen?, hgg], ?_⟩
  intro u' r hr'
  have hkeep : ∀ k, k ≠ g0 → (W.setCell ⟨g0, i, none⟩ u').heap[k]? = W.heap[k]? := fun k hk => Below.heap_setCell _ _ _ _ hk
  have hK : KeepN N W (W.setCell ⟨g0, i, none⟩ u') := fun k c hc hn => hkeep k fun e => by
    subst e
    rw [hgg] at hc
    cases hc
  have hb2 : (W.setCell ⟨g0, i, none⟩ u').heap[g0]? = some (.cells (cur.setIfInBounds i u') 33 (0, 0)) := cells_set hgg i u'
  refine ⟨⟨vs.set i u', ⟨by simpa using h1.1, .inr ⟨g0, cap, cur.setIfInBounds i u', by simp, hbg, hb2, by simpa using hnc, hcm, by simpa using hsz, ?_⟩⟩, fun j hj => ?_⟩, hkeep⟩
  · rw [← htk]
    simp only [Array.toList_setIfInBounds, List.length_set, Nat.mul_one]
    rw [List.take_set]
  · have hj' : j < L.length := by simpa using hj
    by_cases e : i = j
    · subst e
      exact ⟨u', by simp [hvl, hj'], by simpa using hr'.keep hK⟩
    · obtain ⟨u2, hu2, hr2⟩ := h2 j hj'
      exact ⟨u2, by rw [List.getElem?_set_ne e]; exact hu2, by rw [List.getElem_set_ne e]; exact hr2.keep hK⟩
end

section
open Go.RowKit
set_option linter.unusedVariables false

def lastI {α : Type} (p : α → Bool) (l : List α) : Int := match lastIx p l with | none => -1 | some a => (a : Int)
theorem lastI_snoc {α : Type} (p : α → Bool) (l : List α) (y : α) : lastI p (l ++ [y]) = if p y = true then (l.length : Int) else lastI p l := by
  unfold lastI
  rw [lastIx_snoc]
  by_cases h : p y = true
  · rw [if_pos h, if_pos h]
  · rw [if_neg h, if_neg h]
theorem lastI_take {α : Type} (p : α → Bool) {l : List α} {k : Nat} (hk : k < l.length) : lastI p (l.take (k + 1)) = if p l[k] = true then (k : Int) else lastI p (l.take k) := by
  rw [List.take_succ_eq_append_getElem hk, lastI_snoc, List.length_take, Nat.min_eq_left (by omega)]

theorem rStep_nil {s : RS} (h : s.left = []) (j : Nat) : rStep s j = s := by unfold rStep; rw [h]; rfl
theorem rStep_none {s : RS} {j : Nat} (h : lastIx (nz j) s.left = none) : rStep s j = s := by unfold rStep; rw [h]
theorem rStep_some {s : RS} {j a : Nat} (h : lastIx (nz j) s.left = some a) : rStep s j = ⟨(s.left.eraseIdx a).map (withoutF (posF (s.left[a]?.getD []) j) j), s.done.map (withoutF (posF (s.left[a]?.getD []) j) j) ++ [posF (s.left[a]?.getD []) j], s.piv ++ [j]⟩ := by unfold rStep; rw [h]
theorem rRed_stop {L : List (List Int)} {j : Nat} (h : (rRed L j).left = []) : ∀ d, rRed L (j + d) = rRed L j
  | 0 => rfl
  | d + 1 => by rw [← Nat.add_assoc, rRed_succ, rRed_stop h d, rStep_nil h]

def restT (f : List Int → List Int) (l : List (List Int)) (a k : Nat) : List (List Int) := ((l.take k).eraseIdx a).map f
theorem restT_ne {f : List Int → List Int} {l : List (List Int)} {a k : Nat} (hk : k < l.length) (h : k ≠ a) : restT f l a (k + 1) = restT f l a k ++ [f l[k]] := by
  unfold restT
  rw [List.take_succ_eq_append_getElem hk]
  have hlk : (l.take k).length = k := by rw [List.length_take]; omega
  rcases Nat.lt_or_ge a k with h1 | h1
  · rw [List.eraseIdx_append_of_lt_length (by omega), List.map_append]; rfl
  · rw [List.eraseIdx_append_of_length_le (by omega), hlk, List.eraseIdx_of_length_le (l := l.take k) (by omega), List.map_append]
    have : a - k = (a - k - 1) + 1 := by omega
    rw [this]; rfl
theorem restT_eq {f : List Int → List Int} {l : List (List Int)} {a : Nat} (hk : a < l.length) : restT f l a (a + 1) = restT f l a a := by
  unfold restT
  rw [List.take_succ_eq_append_getElem hk]
  have hlk : (l.take a).length = a := by rw [List.length_take]; omega
  rw [List.eraseIdx_append_of_length_le (by omega), hlk, Nat.sub_self, List.eraseIdx_of_length_le (l := l.take a) (by omega)]
  simp
theorem restT_len (f : List Int → List Int) (l : List (List Int)) (a k : Nat) : (restT f l a k).length ≤ k := by
  unfold restT
  have h1 := List.length_eraseIdx_le (l.take k) a
  rw [List.length_map]
  have h2 := List.length_take_le k l
  omega
theorem restT_zero (f : List Int → List Int) (l : List (List Int)) (a : Nat) : restT f l a 0 = [] := by simp [restT]
theorem restT_all {f : List Int → List Int} {l : List (List Int)} {a k : Nat} (h : l.length = k) : restT f l a k = (l.eraseIdx a).map f := by
  unfold restT; rw [List.take_of_length_le (by omega)]
def doneT (f : List Int → List Int) (l : List (List Int)) (k : Nat) : List (List Int) := (l.take k).map f ++ l.drop k
theorem doneT_len (f : List Int → List Int) (l : List (List Int)) (k : Nat) : (doneT f l k).length = l.length := by
  unfold doneT; simp; omega
theorem doneT_at {f : List Int → List Int} {l : List (List Int)} {k : Nat} (hk : k < l.length) : (doneT f l k)[k]?.getD [] = l[k] := by
  unfold doneT
  rw [List.getElem?_append_right (by simp; omega)]
  simp [hk, Nat.min_eq_left (Nat.le_of_lt hk)]
theorem doneT_succ {f : List Int → List Int} {l : List (List Int)} {k : Nat} (hk : k < l.length) : doneT f l (k + 1) = (doneT f l k).set k (f l[k]) := by
  unfold doneT
  rw [List.set_append_right _ _ (by simp; omega), List.take_succ_eq_append_getElem hk, List.map_append]
  have : k - ((l.take k).map f).length = 0 := by simp; omega
  have e : l.drop k = l[k] :: l.drop (k + 1) := List.drop_eq_getElem_cons hk
  rw [this, e, List.set_cons_zero, List.append_assoc]
  rfl
theorem doneT_zero (f : List Int → List Int) (l : List (List Int)) : doneT f l 0 = l := by simp [doneT]
theorem doneT_all {f : List Int → List Int} {l : List (List Int)} {k : Nat} (h : l.length = k) : doneT f l k = l.map f := by
  unfold doneT; rw [List.take_of_length_le (by omega), List.drop_eq_nil_of_le (by omega), List.append_nil]

def castL (l : List Nat) : List Int := l.map (fun j : Nat => (j : Int))
def RedI (w wr : World) (L : List (List Int)) (j : Nat) (l d p : Value) : Prop :=
  TabN p.ownBlock wr w.heap.size l (rRed L j).left ∧ TabN p.ownBlock wr w.heap.size d (rRed L j).done ∧ wr.ownsRow w.heap.size 3 1 p (rRed L j).piv.length ((castL (rRed L j).piv).map (Value.int .i64)) ∧ Below w.heap.size w wr
structure RedS (w : World) (R0 : Nat) (wr : World) (l d r q p : Value) (left done rest : List (List Int)) (P : List Int) (J : List Nat) : Prop where
  hl : TabN p.ownBlock wr w.heap.size l left
  hd : TabN p.ownBlock wr w.heap.size d done
  hr : TabN p.ownBlock wr R0 r rest
  hq : RowN p.ownBlock wr q P
  hp : wr.ownsRow w.heap.size 3 1 p J.length ((castL J).map (Value.int .i64))
  hb : Below w.heap.size w wr
  hR : R0 ≤ wr.heap.size
  hw : w.heap.size ≤ R0
  lR : ∀ k, l.ownBlock = some k → k < R0
  dR : ∀ k, d.ownBlock = some k → k < R0
  pR : ∀ k, p.ownBlock = some k → k < R0
theorem RedS.below {w : World} {R0 : Nat} {A B : World} {l d r q p : Value} {left done rest : List (List Int)} {P : List Int} {J : List Nat} (h : RedS w R0 A l d r q p left done rest P J) (hb : Below A.heap.size A B) : RedS w R0 B l d r q p left done rest P J :=
  ⟨h.hl.below hb, h.hd.below hb, h.hr.below hb, h.hq.keep (KeepN.below hb), own_below h.hp hb, chain h.hb hb, Nat.le_trans h.hR hb.size, h.hw, h.lR, h.dR, h.pR⟩
theorem TabN.lt {N : Option Nat} {W : World} {base : Nat} {v : Value} {L : List (List Int)} (h : TabN N W base v L) {k : Nat} (hk : v.ownBlock = some k) : k < W.heap.size := (h.type hk).2.1
theorem RedS.start {w wr : World} {L : List (List Int)} {j : Nat} {l d p q : Value} {P : List Int} (h : RedI w wr L j l d p) (hq : RowN p.ownBlock wr q P) : RedS w wr.heap.size wr l d (.slice none 0 0) q p (rRed L j).left (rRed L j).done [] P (rRed L j).piv :=
  ⟨h.1, h.2.1, TabN.nil _ _ _, hq, h.2.2.1, h.2.2.2, Nat.le_refl _, h.2.2.2.size, fun k hk => h.1.lt hk, fun k hk => h.2.1.lt hk, fun k hk => by
    obtain ⟨_, c, hc⟩ := own_type h.2.2.1 hk
    exact (Array.getElem?_eq_some_iff.1 hc).1⟩
theorem RedS.push {w : World} {R0 : Nat} {A B : World} {l d r q p u r' : Value} {left done rest : List (List Int)} {P x : List Int} {J : List Nat} {vs : List Value} (h : RedS w R0 A l d r q p left done rest P J)
    (h1 : A.ownsRow R0 33 1 r rest.length vs) (h2 : ∀ j (hj : j < rest.length), ∃ u, vs[j]? = some u ∧ RowN p.ownBlock A u rest[j]) (hu : RowN p.ownBlock A u x) (hg : A.grownBy B r.ownBlock)
    (ho : B.ownsRow R0 33 1 r' (rest.length + 1) (vs ++ [u])) : RedS w R0 B l d r' q p left done (rest ++ [x]) P J := by
  have hge : ∀ k, r.ownBlock = some k → R0 ≤ k := fun k hk => (own_type h1 hk).1
  have hgt : ∀ k, r.ownBlock = some k → ∃ c, A.heap[k]? = some (.cells c 33 (0, 0)) := fun k hk => (own_type h1 hk).2
  have hk : ∀ k, k < A.heap.size → r.ownBlock ≠ some k → B.heap[k]? = A.heap[k]? := fun k hlt hne => hg.block k hlt fun e => hne e.symm
  have hK : KeepN p.ownBlock A B := fun k c hc _ => hk k (Array.getElem?_eq_some_iff.1 hc).1 fun e => by
    obtain ⟨c2, h2⟩ := hgt k e
    rw [h2] at hc; cases hc
  refine ⟨h.hl.beside hk hgt fun k e e2 => ?_, h.hd.beside hk hgt fun k e e2 => ?_, TabN.snoc h1 h2 hu hg ho, h.hq.keep hK, own_kept h.hp fun k e hlt => hk k hlt fun e2 => ?_, ?_, Nat.le_trans h.hR hg.size, h.hw, h.lR, h.dR, h.pR⟩
  · have := h.lR k e2; have := hge k e; omega
  · have := h.dR k e2; have := hge k e; omega
  · have := h.pR k e; have := hge k e2; omega
  · exact h.hb.grown hg (Nat.le_trans h.hw h.hR) fun k e => Nat.le_trans h.hw (hge k e)
theorem RedS.store {w : World} {R0 : Nat} {A : World} {l d r q p u : Value} {left done rest : List (List Int)} {P x : List Int} {J : List Nat} {i n : Nat} (h : RedS w R0 A l d r q p left done rest P J) (hn : done.length = n) (hi : i < n) (hu : RowN p.ownBlock A u x) :
    ∃ g0 cap v, d = .slice (some ⟨g0, 0, none⟩) n cap ∧ A.cell? ⟨g0, i, none⟩ = some v ∧ A.frozen? ⟨g0, i, none⟩ = false ∧ RedS w R0 (A.setCell ⟨g0, i, none⟩ u) (.slice none 0 0) d r q p [] (done.set i x) rest P J := by
  obtain ⟨g0, cap, v, rfl, hb0, hlt, hty, hc, hrow, hf, hset⟩ := h.hd.at hn hi
  refine ⟨g0, cap, v, rfl, hc, hf, ?_⟩
  obtain ⟨hT, hk⟩ := hset u x hu
  have hk' : ∀ k, k < A.heap.size → some g0 ≠ some k → (A.setCell ⟨g0, i, none⟩ u).heap[k]? = A.heap[k]? := fun k _ hne => hk k fun e => hne (by rw [e])
  have hgt : ∀ k, some g0 = some k → ∃ c, A.heap[k]? = some (.cells c 33 (0, 0)) := fun k e => by cases e; exact hty
  have hlt0 : g0 < R0 := h.dR g0 rfl
  refine ⟨TabN.nil _ _ _, hT, h.hr.beside hk' hgt fun k e e2 => ?_, h.hq.keep fun k c hc _ => hk' k (Array.getElem?_eq_some_iff.1 hc).1 fun e => ?_, own_kept h.hp fun k e hlt2 => hk' k hlt2 fun e2 => ?_, ?_, by simpa using h.hR, h.hw, fun k hk => by simp [Value.ownBlock] at hk, h.dR, h.pR⟩
  · cases e
    have := (h.hr.type e2).1
    omega
  · obtain ⟨c2, h2⟩ := hgt k e
    rw [h2] at hc; cases hc
  · cases e2
    obtain ⟨c, hc⟩ := hty
    obtain ⟨_, c2, h2⟩ := own_type h.hp e
    rw [h2] at hc; cases hc
  · exact (Keep.set A g0 i u).below h.hb (Nat.le_trans h.hw h.hR) fun k hk e => by omega
theorem RedS.onto {w : World} {R0 : Nat} {A B : World} {l d r q p d' : Value} {left done rest : List (List Int)} {P : List Int} {J : List Nat} {vs : List Value} (h : RedS w R0 A l d r q p left done rest P J)
    (h1 : A.ownsRow w.heap.size 33 1 d done.length vs) (h2 : ∀ j (hj : j < done.length), ∃ u, vs[j]? = some u ∧ RowN p.ownBlock A u done[j]) (hg : A.grownBy B d.ownBlock)
    (ho : B.ownsRow w.heap.size 33 1 d' (done.length + 1) (vs ++ [q])) : TabN p.ownBlock B w.heap.size r rest ∧ TabN p.ownBlock B w.heap.size d' (done ++ [P]) ∧ B.ownsRow w.heap.size 3 1 p J.length ((castL J).map (Value.int .i64)) ∧ Below w.heap.size w B := by
  have hge : ∀ k, d.ownBlock = some k → w.heap.size ≤ k := fun k hk => (own_type h1 hk).1
  have hgt : ∀ k, d.ownBlock = some k → ∃ c, A.heap[k]? = some (.cells c 33 (0, 0)) := fun k hk => (own_type h1 hk).2
  have hk : ∀ k, k < A.heap.size → d.ownBlock ≠ some k → B.heap[k]? = A.heap[k]? := fun k hlt hne => hg.block k hlt fun e => hne e.symm
  refine ⟨(h.hr.beside hk hgt fun k e e2 => ?_).low h.hw, TabN.snoc h1 h2 h.hq hg ho, own_kept h.hp fun k e hlt => hk k hlt fun e2 => ?_, h.hb.grown hg (Nat.le_trans h.hw h.hR) hge⟩
  · have := h.dR k e; have := (h.hr.type e2).1; omega
  · obtain ⟨c, hc⟩ := hgt k e2
    obtain ⟨_, c2, h2⟩ := own_type h.hp e
    rw [h2] at hc; cases hc
theorem red_end {w A B : World} {r d p p' : Value} {left done : List (List Int)} {J : List Nat} {j : Nat} (h1 : TabN p.ownBlock A w.heap.size r left) (h2 : TabN p.ownBlock A w.heap.size d done) (h3 : A.ownsRow w.heap.size 3 1 p J.length ((castL J).map (Value.int .i64)))
    (h4 : Below w.heap.size w A) (hg : A.grownBy B p.ownBlock) (hat : p'.ownBlock = p.ownBlock ∨ p'.ownBlock = some A.heap.size) (ho : B.ownsRow w.heap.size 3 1 p' (J.length + 1) ((castL J).map (Value.int .i64) ++ [.int .i64 j])) :
    TabN p'.ownBlock B w.heap.size r left ∧ TabN p'.ownBlock B w.heap.size d done ∧ B.ownsRow w.heap.size 3 1 p' (J ++ [j]).length ((castL (J ++ [j])).map (Value.int .i64)) ∧ Below w.heap.size w B := by
  refine ⟨h1.piv hg hat h3, h2.piv hg hat h3, ?_, h4.grown hg h4.size fun k hk => (own_type h3 hk).1⟩
  simpa [castL] using ho

theorem wpList_app_at {P : Program} (w : World) {ops : Array Oper} {rest : List Oper} {o : Oper} {a : Act} {Q : Exit → Act → World → Prop} (hgd : o.guard = none) (s x : Operand) (t : TypeId)
    (ho : o.op = .call { callee := .builtin .append, args := #[s, x], argTypes := #[t, t] })
    (base : Nat) (e : TypeId) (z : Value) (size bytes : Nat) (ht : P.underlying t = some (.slice e)) (hinfo : (P.info? e).map (fun i => (i.zero, i.size, i.bytes)) = some (some z, size, bytes))
    (hzs : z.cells.size = size) (hsz : 0 < size)
    (v : Value) (n : Nat) (xs : List Value) (hs : a.eval s = v) (hown : w.ownsRow base e size v n xs)
    (ad : Addr) (m c : Nat) (news : List Value) (hx : a.eval x = .slice (some ad) m c) (hl : news.length = m * size)
    (hnews : ∀ j u, news[j]? = some u → w.cell? (ad.add j) = some u) (h1 : ∀ u ∈ news, u.oneCell' = true)
    (h63 : n + m ≤ maxLen) (hbytes : (n + m) * bytes ≤ 140737488355328) (hbase : base ≤ w.heap.size)
    (h : ∀ a' c' w', w'.ownsRow base e size (.slice a' (n + m) c') (n + m) (xs ++ news) → w.grownBy w' v.ownBlock → ((Value.slice a' (n + m) c').ownBlock = v.ownBlock ∨ (Value.slice a' (n + m) c').ownBlock = some w.heap.size) → wpList P ops Q rest (a.put o.dst (.slice a' (n + m) c')) w') : wpList P ops Q (o :: rest) a w := by
  obtain ⟨i, hi, hz, h2, h3⟩ := info_parts hinfo
  refine wpList_append_own_at w hgd s x t ho base e i z size bytes ht hi hz h2 h3 hzs hsz v n xs hs hown ad m c news hx hl hnews h1 h63 hbytes hbase ?_
  intro v' w' ho' hg _ hat
  obtain ⟨a', c', rfl⟩ := ownsRow_slice ho'
  exact h a' c' w' ho' hg hat
end
end Go.Proofs.YtkmjeegnijohmaaGreat
