/- Walks of reference 03: divisor. -/
import Derived.Test.YtfipebkhomppmaaLwR
import Derived.Test.YtfipebkhomppmaaLwC
namespace Go.Proofs.Ytfipebkhomppmaa
open Go.RowKit
set_option linter.unusedVariables false

theorem gcd_tmod (p q : Int) : Int.gcd q (p.tmod q) = Int.gcd p q := by
  unfold Int.gcd
  rw [Int.natAbs_tmod]
  rcases Nat.eq_zero_or_pos q.natAbs with h | h
  · rw [h]; simp
  · exact gcd_mod _ _ h

theorem r3divisor_c (w : World) (a b : Int) (ha : -4611686018427387904 ≤ a ∧ a ≤ 4611686018427387904) (hb : -4611686018427387904 ≤ b ∧ b ≤ 4611686018427387904) :
    Calls Try.prog 122 #[.int .i64 a, .int .i64 b] w fun e w' => e = .returned (.int .i64 (Int.gcd a b : Nat)) ∧ ∃ k, w' = w.drewN k := by
  obtain ⟨G, hG⟩ : ∃ G : Nat, G = Int.gcd a b := ⟨_, rfl⟩
  rw [← hG]
  have HG := hid hG
  clear hG
  obtain ⟨ha1, ha2⟩ := ha
  obtain ⟨hb1, hb2⟩ := hb
  go_enter Try.func122, Try.ntmps122
  go_wp2
  go_loopw [0, 1] (fun u v wr => ∃ p q : Int, u = .int .i64 p ∧ v = .int .i64 q ∧ -4611686018427387904 ≤ p ∧ p ≤ 4611686018427387904 ∧ -4611686018427387904 ≤ q ∧ q ≤ 4611686018427387904 ∧ Int.gcd p q = G ∧ ∃ k, wr = w.drewN k) (fun _ v _ => (intOf v).natAbs)
  case atStart => exact ⟨a, b, rfl, rfl, ha1, ha2, hb1, hb2, HG.out.symm, 0, rfl⟩
  case round =>
    obtain ⟨p, q, rfl, rfl, hp1, hp2, hq1, hq2, hg, k, rfl⟩ := hrel
    have HGG := hid hg
    clear hg
    by_cases h0 : q = 0
    · subst h0
      have hn : IntKind.i64.wrap (-p) = -p := IntWalk.i64_in _ (by omega)
      have HGP := hid (show max p (-p) = ((G : Nat) : Int) by
        have := HGG.out
        rw [Int.gcd_zero_right] at this
        omega)
      go_wp2
      all_goals
        go_ret
        exact ⟨ret_int (by have := HGP.out; omega), _, rfl⟩
    · have hne : (q != 0) = true := by simpa using h0
      have hlt : (p.tmod q).natAbs < q.natAbs := by rw [Int.natAbs_tmod]; exact Nat.mod_lt _ (by omega)
      have hw : IntKind.i64.wrap (p.tmod q) = p.tmod q := IntWalk.i64_in _ (by omega)
      have HGM := hid ((gcd_tmod p q).trans HGG.out)
      have HLT := hid hlt
      clear hlt
      go_wp2
      go_quiet (fail)
      go_wp2
      have h1 := HLT.out
      exact ⟨⟨q, p.tmod q, rfl, rfl, hq1, hq2, by omega, by omega, HGM.out, _, drewN_add _ _ _⟩, by show (p.tmod q).natAbs < q.natAbs; exact h1⟩

set_option maxRecDepth 100000 in
set_option maxHeartbeats 1000000 in
theorem r3primitive_c (w : World) (a : Option Addr) (n cap : Nat) (l : List Int) (hn : l.length = n) (hm : n ≤ 1000) (H : IntsAt w a l) (hB : BndL 4611686018427387904 l) :
    Calls Try.prog 77 #[.slice a n cap] w fun e w' => ∃ v, e = .returned v ∧ w'.ownsRow w.heap.size 3 1 v n ((primF l).map (Value.int .i64)) ∧ Below w.heap.size w w' := by
  have HN := hid hn
  have HH := hid H
  have HBL := hid hB
  have HGT := hid (fun (k : Nat) (hk : k < l.length) => gcdL_take hk)
  have HG0 := hid (fun k => gcdL_nonneg (l.take k))
  have HGL := hid (fun (k : Nat) => gcdL_le (hB.take k))
  clear hn H hB
  go_enter Try.func77, Try.ntmps77
  go_wp2
  go_loopw [3, 11] (fun g i wr => ∃ k : Nat, k ≤ n ∧ i = .int .i64 k ∧ g = .int .i64 (gcdL (l.take k)) ∧ Below w.heap.size w wr) (fun _ i _ => n - (intOf i).toNat)
  case atStart => exact ⟨0, Nat.zero_le _, rfl, rfl, Below.refl _ _⟩
  case round =>
    obtain ⟨k, hk, rfl, rfl, hbk⟩ := hrel
    by_cases hlt : k < n
    · have hkl : k < l.length := by rw [HN.out]; exact hlt
      obtain ⟨b, off, rfl, hbs, hc⟩ := (HH.out.below hbk) k hkl
      have hbd := HBL.out.get hkl
      have hg := HGT.out k hkl
      have hg0 := HG0.out k
      have hgl := HGL.out k
      obtain ⟨x, hx⟩ : ∃ x, x = l[k]?.getD 0 := ⟨_, rfl⟩
      rw [← hx] at hc hbd hg
      obtain ⟨G, hG⟩ : ∃ G, G = gcdL (l.take k) := ⟨_, rfl⟩
      rw [← hG] at hg hg0 hgl ⊢
      have HD := hid (r3divisor_c wr G x (by omega) (by omega))
      rw [← hg] at HD
      have HB := hid hbk
      clear hg hG hx hkl hbk
      go_wp2_with (go_at_call 122; refine HD.out.mono ?_; rintro e w1 ⟨rfl, q, rfl⟩)
      exact ⟨⟨k + 1, by omega, by go_num, rfl, below_drewN HB.out _⟩, by simp [intOf]; omega⟩
    · obtain rfl : k = n := by omega
      have e : l.take k = l := List.take_of_length_le (by rw [HN.out]; exact Nat.le_refl _)
      have hg0 := HG0.out k
      have hgl := HGL.out k
      rw [e] at hg0 hgl ⊢
      obtain ⟨G, hG⟩ : ∃ G, G = gcdL l := ⟨_, rfl⟩
      rw [← hG] at hg0 hgl ⊢
      have HG := hid hG
      have HB := hid hbk
      have hpf : primF l = l.map (fun x => x.tdiv (max G 1)) := by unfold primF; rw [← HG.out]
      have HPF := hid hpf
      obtain ⟨d, hd⟩ : ∃ d, d = max G 1 := ⟨_, rfl⟩
      have HD := hid hd
      have hd1 : 1 ≤ d := by omega
      clear e hG hbk hpf hd
      obtain ⟨w1, hw1⟩ : ∃ w1, w1 = wr := ⟨_, rfl⟩
      subst hw1
      go_wp2
      go_loopw [6, 21] (fun v i wr => ∃ t : Nat, t ≤ k ∧ i = .int .i64 t ∧ wr.ownsRow w.heap.size 3 1 v t ((l.take t).map (fun x => Value.int .i64 (x.tdiv d))) ∧ Below w.heap.size w wr) (fun _ i _ => k - (intOf i).toNat)
      case atStart => exact ⟨0, Nat.zero_le _, rfl, World.ownsRow_nil _ _ _ _, HB.out⟩
      case round =>
        obtain ⟨t, ht, rfl, hown, hbt⟩ := hrel
        by_cases hlt : t < k
        · have htl : t < l.length := by rw [HN.out]; exact hlt
          obtain ⟨b, off, rfl, hbs, hc⟩ := (HH.out.below hbt) t htl
          have hbd := HBL.out.get htl
          have hsn : (l.take (t + 1)).map (fun x => Value.int .i64 (x.tdiv d)) = (l.take t).map (fun x => Value.int .i64 (x.tdiv d)) ++ [.int .i64 ((l[t]?.getD 0).tdiv d)] := by
            rw [List.take_succ_eq_append_getElem htl, List.map_append, List.getElem?_eq_getElem htl]; rfl
          obtain ⟨x, hx⟩ : ∃ x, x = l[t]?.getD 0 := ⟨_, rfl⟩
          rw [← hx] at hc hbd hsn
          obtain ⟨va, vc, rfl⟩ := ownsRow_slice hown
          have htd := tdiv_bnd hd1 (show -(4611686018427387904 : Int) ≤ x ∧ x ≤ 4611686018427387904 by omega)
          have hwq : IntKind.i64.wrap (x.tdiv d) = x.tdiv d := IntWalk.i64_in _ (by omega)
          have HSN := hid hsn
          have HO := hid hown
          have HBT := hid hbt
          have M1 := hid (show t + 1 ≤ maxLen by unfold maxLen; omega)
          have M2 := hid (show (t + 1) * 8 ≤ 140737488355328 by omega)
          have M3 := hid (Nat.le_trans hbt.size (le_alloc wr (.cells #[.int .i64 (x.tdiv d)] 3)))
          clear hown hbt hsn hx htl htd
          rcases Int.lt_or_le G 1 with hG1 | hG1
          · obtain rfl : d = 1 := by have := HD.out; omega
            have hGG : ¬ (1 ≤ G) := by omega
            rw [Int.tdiv_one] at HSN M3 hwq
            go_wp2_with (at_builtin; refine wpList_app _ rfl (.tmp 25) (.tmp 30) 31 rfl w.heap.size 3 (.int .i64 0) 1 8 Try.underlying31 li_int rfl Nat.one_pos (.slice va t vc) t _ rfl (HO.out.alloc _) (some ⟨wr.heap.size, 0, none⟩) 1 1 [.int .i64 x] rfl rfl no_none (one_news wr _ _) (li_one _) M1.out M2.out M3.out ?_; refine Stop.of ?_)
            refine Stop.go ?_
            intro a3 c3 w3 own3 g3
            have hB3 : Below w.heap.size w w3 := (HBT.out.alloc HBT.out.size _).grown g3 M3.out (fun k hk => (HO.out.lt k hk).1)
            go_wp2
            refine ⟨⟨t + 1, by omega, by go_num, ?_, hB3⟩, by simp [intOf]; omega⟩
            rw [HSN.out]
            simpa using own3
          · obtain rfl : d = G := by have := HD.out; omega
            have hgz : ¬ (d = 0) := by omega
            go_wp2_with (at_builtin; refine wpList_app _ rfl (.tmp 25) (.tmp 30) 31 rfl w.heap.size 3 (.int .i64 0) 1 8 Try.underlying31 li_int rfl Nat.one_pos (.slice va t vc) t _ rfl (HO.out.alloc _) (some ⟨wr.heap.size, 0, none⟩) 1 1 [.int .i64 (x.tdiv d)] rfl rfl no_none (one_news wr _ _) (li_one _) M1.out M2.out M3.out ?_; refine Stop.of ?_)
            refine Stop.go ?_
            intro a3 c3 w3 own3 g3
            have hB3 : Below w.heap.size w w3 := (HBT.out.alloc HBT.out.size _).grown g3 M3.out (fun k hk => (HO.out.lt k hk).1)
            go_wp2
            refine ⟨⟨t + 1, by omega, by go_num, ?_, hB3⟩, by simp [intOf]; omega⟩
            rw [HSN.out]
            simpa using own3
        · obtain rfl : t = k := by omega
          rw [List.take_of_length_le (by rw [HN.out]; exact Nat.le_refl _)] at hown
          go_wp2
          go_ret
          refine ⟨_, rfl, ?_, hbt⟩
          rw [HPF.out, ← HD.out, List.map_map]
          exact hown

set_option maxRecDepth 100000 in
set_option maxHeartbeats 1000000 in
/-- a row turned -/
theorem r3scaled_c (w : World) (a : Option Addr) (n cap : Nat) (l : List Int) (hn : l.length = n) (hm : n ≤ 1000) (H : IntsAt w a l) (hB : BndL 4611686018427387904 l) :
    Calls Try.prog 68 #[.slice a n cap, .int .i64 (-1)] w fun e w' => ∃ v, e = .returned v ∧ w'.ownsRow w.heap.size 3 1 v n ((negF l).map (Value.int .i64)) ∧ Below w.heap.size w w' := by
  have HN := hid hn
  have HH := hid H
  have HBL := hid hB
  have HPF := hid (show negF l = l.map (fun x => -x) from rfl)
  clear hn H hB
  go_enter Try.func68, Try.ntmps68
  go_wp2
  go_loopw [5, 10] (fun v i wr => ∃ t : Nat, t ≤ n ∧ i = .int .i64 t ∧ wr.ownsRow w.heap.size 3 1 v t ((l.take t).map (fun x => Value.int .i64 (-x))) ∧ Below w.heap.size w wr) (fun _ i _ => n - (intOf i).toNat)
  case atStart => exact ⟨0, Nat.zero_le _, rfl, World.ownsRow_nil _ _ _ _, Below.refl _ _⟩
  case round =>
    obtain ⟨t, ht, rfl, hown, hbt⟩ := hrel
    by_cases hlt : t < n
    · have htl : t < l.length := by rw [HN.out]; exact hlt
      obtain ⟨b, off, rfl, hbs, hc⟩ := (HH.out.below hbt) t htl
      have hbd := HBL.out.get htl
      have hsn : (l.take (t + 1)).map (fun x => Value.int .i64 (-x)) = (l.take t).map (fun x => Value.int .i64 (-x)) ++ [.int .i64 (-(l[t]?.getD 0))] := by
        rw [List.take_succ_eq_append_getElem htl, List.map_append, List.getElem?_eq_getElem htl]; rfl
      obtain ⟨x, hx⟩ : ∃ x, x = l[t]?.getD 0 := ⟨_, rfl⟩
      rw [← hx] at hc hbd hsn
      obtain ⟨y, hy⟩ : ∃ y, y = -x := ⟨_, rfl⟩
      obtain ⟨va, vc, rfl⟩ := ownsRow_slice hown
      have hwq : wrap64 (-x) = y := by unfold wrap64; omega
      rw [← hy] at hsn
      have HSN := hid hsn
      have HO := hid hown
      have HBT := hid hbt
      have M1 := hid (show t + 1 ≤ maxLen by unfold maxLen; omega)
      have M2 := hid (show (t + 1) * 8 ≤ 140737488355328 by omega)
      have M3 := hid (Nat.le_trans hbt.size (le_alloc wr (.cells #[.int .i64 y] 3)))
      clear hown hbt hsn hx htl hbd hy
      go_wp2_with (at_builtin; refine wpList_app _ rfl (.tmp 14) (.tmp 18) 31 rfl w.heap.size 3 (.int .i64 0) 1 8 Try.underlying31 li_int rfl Nat.one_pos (.slice va t vc) t _ rfl (HO.out.alloc _) (some ⟨wr.heap.size, 0, none⟩) 1 1 [.int .i64 y] rfl rfl no_none (one_news wr _ _) (li_one _) M1.out M2.out M3.out ?_; refine Stop.of ?_)
      refine Stop.go ?_
      intro a3 c3 w3 own3 g3
      have hB3 : Below w.heap.size w w3 := (HBT.out.alloc HBT.out.size _).grown g3 M3.out (fun k hk => (HO.out.lt k hk).1)
      go_wp2
      refine ⟨⟨t + 1, by omega, by go_num, ?_, hB3⟩, by simp [intOf]; omega⟩
      rw [HSN.out]
      simpa using own3
    · obtain rfl : t = n := by omega
      rw [List.take_of_length_le (by rw [HN.out]; exact Nat.le_refl _)] at hown
      go_wp2
      go_ret
      refine ⟨_, rfl, ?_, hbt⟩
      rw [HPF.out, List.map_map]
      exact hown
end Go.Proofs.Ytfipebkhomppmaa
