/- Walks: halve of both packages. -/
import Derived.Test.YtdcflpfaaeijoaaBitX
namespace Go.Proofs.Ytdcflpfaaeijoaa
open Go.RowKit Go.Maps
set_option linter.unusedVariables false

/-- the greater and the lesser part by a threshold -/
def grT (ss : List Int) (t : Int) : Nat := if ss.countP (lowB t) < ss.countP (highB t) then ss.countP (highB t) else ss.countP (lowB t)
def leT (ss : List Int) (t : Int) : Nat := if ss.countP (highB t) < ss.countP (lowB t) then ss.countP (highB t) else ss.countP (lowB t)
/-- the best threshold of the first k + 1 ones -/
def bestT (ss : List Int) : Nat → Int
  | 0 => -99
  | k + 1 => if grT ss (-99 + ((k + 1 : Nat) : Int)) < grT ss (bestT ss k) then -99 + ((k + 1 : Nat) : Int) else bestT ss k

theorem count_two (ss : List Int) (t : Int) : ss.countP (lowB t) + ss.countP (highB t) = ss.length := by
  induction ss with
  | nil => rfl
  | cons s ss ih =>
    rw [List.countP_cons, List.countP_cons, List.length_cons]
    by_cases hx : s < t
    · have e1 : lowB t s = true := by simp [lowB, hx]
      have e2 : highB t s = false := by simp [highB, hx]
      rw [if_pos e1, if_neg (by rw [e2]; simp)]; omega
    · have e1 : lowB t s = false := by simp [lowB, hx]
      have e2 : highB t s = true := by simp [highB, hx]
      rw [if_pos e2, if_neg (by rw [e1]; simp)]; omega
theorem grT_le (ss : List Int) (t : Int) : grT ss t ≤ ss.length := by
  have := count_two ss t
  unfold grT; split <;> omega
theorem leT_le (ss : List Int) (t : Int) : leT ss t ≤ ss.length := by
  have := count_two ss t
  unfold leT; split <;> omega
theorem bestT_least (ss : List Int) : ∀ k j, j ≤ k → grT ss (bestT ss k) ≤ grT ss (-99 + (j : Int))
  | 0, j, h => by obtain rfl : j = 0 := by omega
                  exact Nat.le_refl _
  | k + 1, j, h => by
    unfold bestT
    by_cases e : j = k + 1
    · subst e; split <;> omega
    · have := bestT_least ss k j (by omega)
      split <;> omega
theorem bestT_in (ss : List Int) : ∀ k, -99 ≤ bestT ss k ∧ bestT ss k ≤ -99 + (k : Int)
  | 0 => by simp [bestT]
  | k + 1 => by
    have := bestT_in ss k
    unfold bestT; split <;> omega

theorem map_below {P : Program} {k : TypeId} {R : Value → Option (DataW Unit × List MemPlace)} {W W' : World} {B n : Nat} {D : DataW Unit} (h : W.ownsMap P k R B n D) (hb : Below W.heap.size W W') : W'.ownsMap P k R B n D := by
  have hlt := h.lt
  obtain ⟨es, clock, hbk, F, hs, hD⟩ := h
  exact ⟨es, clock, (hb.block B hlt).trans hbk, F, hs, hD⟩

set_option maxRecDepth 100000 in
set_option maxHeartbeats 2000000 in
theorem halve_c (w : World) (a : Option Addr) (n cap : Nat) (F : List (List Int)) (hn : F.length = n) (hm : n ≤ 65536) (H : RowsAt w a F)
    (a2 : Option Addr) (n2 cap2 : Nat) (row : List Int) (hn2 : row.length = n2) (hm2 : n2 ≤ maxLen) (H2 : IntsAt w a2 row) (hle : ∀ x ∈ F, n2 ≤ x.length) :
    Calls Try.prog 85 #[.slice a n cap, .slice a2 n2 cap2] w fun e w' => e = .returned (.tuple #[.int .i64 (bestT (F.map (dotW row)) 199), .int .i64 (grT (F.map (dotW row)) (bestT (F.map (dotW row)) 199) : Nat), .int .i64 (leT (F.map (dotW row)) (bestT (F.map (dotW row)) 199) : Nat)]) ∧ Below w.heap.size w w' := by
  have HS := hid (sums_c w a n cap F hn hm H a2 n2 cap2 row hn2 hm2 H2 hle)
  obtain ⟨ss, hss⟩ : ∃ ss, ss = F.map (dotW row) := ⟨_, rfl⟩
  rw [← hss] at HS ⊢
  have hsl : ss.length = n := by rw [hss, List.length_map, hn]
  have HP := hid (fun (W : World) (h : W.ownsMap Try.prog 3 (plainElem (H := Unit) Try.prog 3) w.heap.size n (cntD ss n)) (t : Int) => parts_c W w.heap.size n ss hsl hm h t)
  have HG := hid (fun t => grT_le ss t)
  have HL := hid (fun t => leT_le ss t)
  have HT := hid (fun t => count_two ss t)
  have HI := hid (bestT_in ss)
  have HSL := hid hsl
  clear hss hsl hn H hn2 H2 hle
  go_enter Try.func85, Try.ntmps85
  go_wp2_with (go_at_call 68; refine HS.out.mono ?_; rintro e w1 ⟨rfl, hown, hb1⟩; refine Stop.of ?_)
  refine Stop.go ?_
  have HO := hid hown
  clear hown
  go_wp2
  go_loopw [4, 5, 6, 8] (fun x y z i wr => ∃ k : Nat, k ≤ 200 ∧ i = .int .i64 (-99 + (k : Int)) ∧ (k = 0 ∧ x = .int .i64 0 ∧ y = .int .i64 (-1) ∧ z = .int .i64 0 ∨ 0 < k ∧ x = .int .i64 (bestT ss (k - 1)) ∧ y = .int .i64 (grT ss (bestT ss (k - 1)) : Nat) ∧ z = .int .i64 (leT ss (bestT ss (k - 1)) : Nat)) ∧ Below w1.heap.size w1 wr)
    (fun _ _ _ i _ => (101 - intOf i).toNat)
  case atStart => exact ⟨0, Nat.zero_le _, rfl, .inl ⟨rfl, rfl, rfl, rfl⟩, Below.refl _ _⟩
  case round =>
    obtain ⟨k, hk, rfl, hst, hb⟩ := hrel
    by_cases hlt : k < 200
    · have HPT := hid (HP.out wr (map_below HO.out hb) (-99 + (k : Int)))
      have hg : grT ss (-99 + (k : Int)) = if ss.countP (lowB (-99 + (k : Int))) < ss.countP (highB (-99 + (k : Int))) then ss.countP (highB (-99 + (k : Int))) else ss.countP (lowB (-99 + (k : Int))) := rfl
      have hl : leT ss (-99 + (k : Int)) = if ss.countP (highB (-99 + (k : Int))) < ss.countP (lowB (-99 + (k : Int))) then ss.countP (highB (-99 + (k : Int))) else ss.countP (lowB (-99 + (k : Int))) := rfl
      have hc := HT.out (-99 + (k : Int))
      rw [HSL.out] at hc
      obtain ⟨A, hA⟩ : ∃ A, A = ss.countP (lowB (-99 + (k : Int))) := ⟨_, rfl⟩
      obtain ⟨C, hC⟩ : ∃ A, A = ss.countP (highB (-99 + (k : Int))) := ⟨_, rfl⟩
      rw [← hA, ← hC] at HPT hg hl hc
      obtain ⟨G, hG⟩ : ∃ G, G = grT ss (-99 + (k : Int)) := ⟨_, rfl⟩
      obtain ⟨M, hM⟩ : ∃ G, G = leT ss (-99 + (k : Int)) := ⟨_, rfl⟩
      have hgc : (A < C ∧ G = C ∧ M = A) ∨ (¬ A < C ∧ C < A ∧ G = A ∧ M = C) ∨ (¬ A < C ∧ ¬ C < A ∧ G = A ∧ M = A) := by
        rw [hG, hM, hg, hl]
        by_cases c1 : A < C <;> by_cases c2 : C < A <;> simp [c1, c2] <;> omega
      have HGM := hid (And.intro hG hM)
      clear hA hC hg hl hG hM
      have hbs : 0 < k → bestT ss k = if grT ss (-99 + (k : Int)) < grT ss (bestT ss (k - 1)) then -99 + (k : Int) else bestT ss (k - 1) := fun h0 => by
        obtain ⟨k', rfl⟩ : ∃ k', k = k' + 1 := ⟨k - 1, by omega⟩
        rfl
      have HBS := hid hbs
      clear hbs
      rcases hst with ⟨rfl, rfl, rfl, rfl⟩ | ⟨h0, rfl, rfl, rfl⟩
      · rcases hgc with ⟨g1, rfl, rfl⟩ | ⟨g1, g2, rfl, rfl⟩ | ⟨g1, g2, rfl, rfl⟩
        all_goals
          go_wp2_with (go_at_call 67; refine HPT.out.mono ?_; rintro e w2 ⟨rfl, hb2⟩)
          refine ⟨⟨1, by omega, rfl, .inr ⟨by omega, ?_, ?_, ?_⟩, chain hb hb2⟩, by simp [intOf]⟩
          · rfl
          · rw [show bestT ss (1 - 1) = -99 + ((0 : Nat) : Int) from rfl, ← HGM.out.1]
          · rw [show bestT ss (1 - 1) = -99 + ((0 : Nat) : Int) from rfl, ← HGM.out.2]
      · have hb0 := HBS.out h0
        have hgb := HG.out (bestT ss (k - 1))
        rw [HSL.out] at hgb
        rw [← HGM.out.1] at hb0
        obtain ⟨B, hB⟩ : ∃ B, B = bestT ss (k - 1) := ⟨_, rfl⟩
        rw [← hB] at hb0 hgb ⊢
        obtain ⟨GB, hGB⟩ : ∃ B', B' = grT ss B := ⟨_, rfl⟩
        obtain ⟨LB, hLB⟩ : ∃ B', B' = leT ss B := ⟨_, rfl⟩
        rw [← hGB] at hb0 hgb ⊢
        rw [← hLB]
        have HGB := hid hGB
        have HLB := hid hLB
        clear hB hGB hLB
        by_cases hlt2 : G < GB
        · rw [if_pos hlt2] at hb0
          have HBK := hid hb0
          clear hb0
          rcases hgc with ⟨g1, rfl, rfl⟩ | ⟨g1, g2, rfl, rfl⟩ | ⟨g1, g2, rfl, rfl⟩
          all_goals
            go_wp2_with (go_at_call 67; refine HPT.out.mono ?_; rintro e w2 ⟨rfl, hb2⟩)
            refine ⟨⟨k + 1, by omega, by go_num, .inr ⟨by omega, ?_, ?_, ?_⟩, chain hb hb2⟩, by simp [intOf]; omega⟩
            · rw [Nat.add_sub_cancel, HBK.out]
            · rw [Nat.add_sub_cancel, HBK.out, ← HGM.out.1]
            · rw [Nat.add_sub_cancel, HBK.out, ← HGM.out.2]
        · rw [if_neg hlt2] at hb0
          have HBK := hid hb0
          clear hb0
          rcases hgc with ⟨g1, rfl, rfl⟩ | ⟨g1, g2, rfl, rfl⟩ | ⟨g1, g2, rfl, rfl⟩
          all_goals
            go_wp2_with (go_at_call 67; refine HPT.out.mono ?_; rintro e w2 ⟨rfl, hb2⟩)
            refine ⟨⟨k + 1, by omega, by go_num, .inr ⟨by omega, ?_, ?_, ?_⟩, chain hb hb2⟩, by simp [intOf]; omega⟩
            · rw [Nat.add_sub_cancel, HBK.out]
            · rw [Nat.add_sub_cancel, HBK.out, ← HGB.out]
            · rw [Nat.add_sub_cancel, HBK.out, ← HLB.out]
    · obtain rfl : k = 200 := by omega
      rcases hst with ⟨h0, _⟩ | ⟨h0, rfl, rfl, rfl⟩
      · omega
      · go_wp2
        go_ret3
        exact ⟨rfl, chain hb1 hb⟩
end Go.Proofs.Ytdcflpfaaeijoaa
