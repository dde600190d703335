/- Walks: halve of the reference. -/
import Derived.Test.YtdcflpfaaeijoaaBitY
namespace Go.Proofs.Ytdcflpfaaeijoaa
open Go.RowKit Go.Maps
set_option linter.unusedVariables false

set_option maxRecDepth 100000 in
set_option maxHeartbeats 2000000 in
theorem refHalve_c (w : World) (a : Option Addr) (n cap : Nat) (F : List (List Int)) (hn : F.length = n) (hm : n ≤ 65536) (H : RowsAt w a F)
    (a2 : Option Addr) (n2 cap2 : Nat) (row : List Int) (hn2 : row.length = n2) (hm2 : n2 ≤ maxLen) (H2 : IntsAt w a2 row) (hle : ∀ x ∈ F, n2 ≤ x.length) :
    Calls Try.prog 86 #[.slice a n cap, .slice a2 n2 cap2] w fun e w' => e = .returned (.tuple #[.int .i64 (bestT (F.map (dotW row)) 199), .int .i64 (grT (F.map (dotW row)) (bestT (F.map (dotW row)) 199) : Nat)]) ∧ Below w.heap.size w w' := by
  have HP := hid (fun (W : World) (hb : Below w.heap.size w W) (t : Int) => refParts_c W a n cap F hn hm (H.below hb) a2 n2 cap2 row hn2 hm2 (H2.below hb) hle t)
  obtain ⟨ss, hss⟩ : ∃ ss, ss = F.map (dotW row) := ⟨_, rfl⟩
  rw [← hss] at HP ⊢
  have hsl : ss.length = n := by rw [hss, List.length_map, hn]
  have HG := hid (fun t => grT_le ss t)
  have HT := hid (fun t => count_two ss t)
  have HSL := hid hsl
  clear hss hsl hn H hn2 H2 hle
  go_enter Try.func86, Try.ntmps86
  go_wp2
  go_loopw [6, 7, 8] (fun x y i wr => ∃ k : Nat, k ≤ 200 ∧ i = .int .i64 (-99 + (k : Int)) ∧ (k = 0 ∧ x = .int .i64 0 ∧ y = .int .i64 ((n : Int) + 1) ∨ 0 < k ∧ x = .int .i64 (bestT ss (k - 1)) ∧ y = .int .i64 (grT ss (bestT ss (k - 1)) : Nat)) ∧ Below w.heap.size w wr)
    (fun _ _ i _ => (101 - intOf i).toNat)
  case atStart => exact ⟨0, Nat.zero_le _, rfl, .inl ⟨rfl, rfl, rfl⟩, Below.refl _ _⟩
  case round =>
    obtain ⟨k, hk, rfl, hst, hb⟩ := hrel
    by_cases hlt : k < 200
    · have HPT := hid (HP.out wr hb (-99 + (k : Int)))
      have hg : grT ss (-99 + (k : Int)) = if ss.countP (lowB (-99 + (k : Int))) < ss.countP (highB (-99 + (k : Int))) then ss.countP (highB (-99 + (k : Int))) else ss.countP (lowB (-99 + (k : Int))) := rfl
      have hc := HT.out (-99 + (k : Int))
      rw [HSL.out] at hc
      obtain ⟨A, hA⟩ : ∃ A, A = ss.countP (lowB (-99 + (k : Int))) := ⟨_, rfl⟩
      obtain ⟨C, hC⟩ : ∃ A, A = ss.countP (highB (-99 + (k : Int))) := ⟨_, rfl⟩
      rw [← hA, ← hC] at HPT hg hc
      obtain ⟨G, hG⟩ : ∃ G, G = grT ss (-99 + (k : Int)) := ⟨_, rfl⟩
      have hgc : (A < C ∧ G = C) ∨ (¬ A < C ∧ G = A) := by
        rw [hG, hg]
        by_cases c1 : A < C <;> simp [c1]
      have HGM := hid hG
      clear hA hC hg hG
      have hbs : 0 < k → bestT ss k = if grT ss (-99 + (k : Int)) < grT ss (bestT ss (k - 1)) then -99 + (k : Int) else bestT ss (k - 1) := fun h0 => by
        obtain ⟨k', rfl⟩ : ∃ k', k = k' + 1 := ⟨k - 1, by omega⟩
        rfl
      have HBS := hid hbs
      clear hbs
      rcases hst with ⟨rfl, rfl, rfl⟩ | ⟨h0, rfl, rfl⟩
      · rcases hgc with ⟨g1, rfl⟩ | ⟨g1, rfl⟩
        all_goals
          go_wp2_with (go_at_call 70; refine HPT.out.mono ?_; rintro e w2 ⟨rfl, hb2⟩)
          refine ⟨⟨1, by omega, rfl, .inr ⟨by omega, ?_, ?_⟩, chain hb hb2⟩, by simp [intOf]⟩
          · rfl
          · rw [show bestT ss (1 - 1) = -99 + ((0 : Nat) : Int) from rfl, ← HGM.out]
      · have hb0 := HBS.out h0
        have hgb := HG.out (bestT ss (k - 1))
        rw [HSL.out] at hgb
        rw [← HGM.out] at hb0
        obtain ⟨B, hB⟩ : ∃ B, B = bestT ss (k - 1) := ⟨_, rfl⟩
        rw [← hB] at hb0 hgb ⊢
        obtain ⟨GB, hGB⟩ : ∃ B', B' = grT ss B := ⟨_, rfl⟩
        rw [← hGB] at hb0 hgb ⊢
        have HGB := hid hGB
        clear hB hGB
        by_cases hlt2 : G < GB
        · rw [if_pos hlt2] at hb0
          have HBK := hid hb0
          clear hb0
          rcases hgc with ⟨g1, rfl⟩ | ⟨g1, rfl⟩
          all_goals
            go_wp2_with (go_at_call 70; refine HPT.out.mono ?_; rintro e w2 ⟨rfl, hb2⟩)
            refine ⟨⟨k + 1, by omega, by go_num, .inr ⟨by omega, ?_, ?_⟩, chain hb hb2⟩, by simp [intOf]; omega⟩
            · rw [Nat.add_sub_cancel, HBK.out]
            · rw [Nat.add_sub_cancel, HBK.out, ← HGM.out]
        · rw [if_neg hlt2] at hb0
          have HBK := hid hb0
          clear hb0
          rcases hgc with ⟨g1, rfl⟩ | ⟨g1, rfl⟩
          all_goals
            go_wp2_with (go_at_call 70; refine HPT.out.mono ?_; rintro e w2 ⟨rfl, hb2⟩)
            refine ⟨⟨k + 1, by omega, by go_num, .inr ⟨by omega, ?_, ?_⟩, chain hb hb2⟩, by simp [intOf]; omega⟩
            · rw [Nat.add_sub_cancel, HBK.out]
            · rw [Nat.add_sub_cancel, HBK.out, ← HGB.out]
    · obtain rfl : k = 200 := by omega
      rcases hst with ⟨h0, _⟩ | ⟨h0, rfl, rfl⟩
      · omega
      · go_wp2
        go_ret2
        exact ⟨rfl, hb⟩
end Go.Proofs.Ytdcflpfaaeijoaa
