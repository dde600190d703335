/- Walks: next of both packages. -/
import Derived.Test.YtdcflpfaaeijoaaBitAB
namespace Go.Proofs.Ytdcflpfaaeijoaa
open Go.RowKit Go.Maps
set_option linter.unusedVariables false

/-- the sums of some pictures times row number k of some rows; the best threshold, and its parts -/
def rsum (F rows : List (List Int)) (k : Nat) : List Int := F.map (dotW (rows[k]?.getD []))
def rT (F rows : List (List Int)) (k : Nat) : Int := bestT (rsum F rows k) 199
def rG (F rows : List (List Int)) (k : Nat) : Nat := grT (rsum F rows k) (rT F rows k)
def rL (F rows : List (List Int)) (k : Nat) : Nat := leT (rsum F rows k) (rT F rows k)
/-- the best of the first k + 1 rows -/
def bestR (F rows : List (List Int)) : Nat → Nat
  | 0 => 0
  | k + 1 => if rG F rows (k + 1) < rG F rows (bestR F rows k) then k + 1 else bestR F rows k
theorem bestR_le (F rows : List (List Int)) : ∀ k, bestR F rows k ≤ k
  | 0 => Nat.le_refl _
  | k + 1 => by
    have := bestR_le F rows k
    unfold bestR; split <;> omega
theorem rG_le (F rows : List (List Int)) (k : Nat) : rG F rows k ≤ F.length := by
  have := grT_le (rsum F rows k) (rT F rows k)
  unfold rsum at this; rw [List.length_map] at this
  exact this

set_option maxRecDepth 100000 in
set_option maxHeartbeats 2000000 in
theorem next_c (w : World) (a : Option Addr) (n cap : Nat) (F : List (List Int)) (hn : F.length = n) (hm : n ≤ 65536) (H : RowsAt w a F)
    (a2 : Option Addr) (n2 cap2 : Nat) (rows : List (List Int)) (hn2 : rows.length = n2) (h0 : 0 < n2) (hm2 : n2 ≤ maxLen) (H2 : RowsAt w a2 rows) (hle : ∀ x ∈ F, ∀ r ∈ rows, r.length ≤ x.length) :
    Calls Try.prog 88 #[.slice a n cap, .slice a2 n2 cap2] w fun e w' => e = .returned (.tuple #[.int .i64 (bestR F rows (n2 - 1) : Nat), .int .i64 (rT F rows (bestR F rows (n2 - 1))), .int .i64 (rL F rows (bestR F rows (n2 - 1)) : Nat)]) ∧ Below w.heap.size w w' := by
  have HH := hid (fun (W : World) (hb : Below w.heap.size w W) (k : Nat) (hk : k < rows.length) (ra : Option Addr) (xn xc : Nat) (hx : (rows[k]?.getD []).length = xn) (hxm : xn ≤ maxLen) (hi : IntsAt W ra (rows[k]?.getD [])) =>
    halve_c W a n cap F hn hm (H.below hb) ra xn xc (rows[k]?.getD []) hx hxm hi (fun x hxF => by rw [← hx]; exact hle x hxF _ (by rw [List.getElem?_eq_getElem hk]; exact List.getElem_mem _)))
  have HG := hid (rG_le F rows)
  have HRd := hid H2
  have HN2 := hid hn2
  have HBS := hid (fun (k : Nat) (hk : 0 < k) => show bestR F rows k = if rG F rows k < rG F rows (bestR F rows (k - 1)) then k else bestR F rows (k - 1) from by
    obtain ⟨k', rfl⟩ : ∃ k', k = k' + 1 := ⟨k - 1, by omega⟩
    rfl)
  have HBL := hid (bestR_le F rows)
  rw [hn] at HG
  unfold maxLen at hm2
  clear hn H hn2 H2 hle
  go_enter Try.func88, Try.ntmps88
  go_wp2
  go_loopw [4, 5, 6, 7, 15] (fun x y z b i wr => ∃ k : Nat, k ≤ n2 ∧ i = .int .i64 k ∧ (k = 0 ∧ x = .int .i64 0 ∧ y = .int .i64 0 ∧ z = .int .i64 0 ∧ b = .int .i64 (-1) ∨ 0 < k ∧ x = .int .i64 (bestR F rows (k - 1) : Nat) ∧ y = .int .i64 (rT F rows (bestR F rows (k - 1))) ∧ z = .int .i64 (rL F rows (bestR F rows (k - 1)) : Nat) ∧ b = .int .i64 (rG F rows (bestR F rows (k - 1)) : Nat)) ∧ Below w.heap.size w wr)
    (fun _ _ _ _ i _ => n2 - (intOf i).toNat)
  case atStart => exact ⟨0, Nat.zero_le _, rfl, .inl ⟨rfl, rfl, rfl, rfl, rfl⟩, Below.refl _ _⟩
  case round =>
    obtain ⟨k, hk, rfl, hst, hb⟩ := hrel
    by_cases hlt : k < n2
    · obtain ⟨b, off, ra, xn, xc, rfl, hbs, hcx0, hxn, hxm, hxi⟩ := rows_elem HRd.out (k := k) (by rw [HN2.out]; exact hlt)
      have hcx : wr.cell? ⟨b, off + k, none⟩ = some (.slice ra xn xc) := (hb.cell (p := ⟨b, off + k, none⟩) hbs).trans hcx0
      have HV := HH.out wr hb k (by rw [HN2.out]; exact hlt) ra xn xc hxn hxm (hxi.below hb)
      rw [show bestT (F.map (dotW (rows[k]?.getD []))) 199 = rT F rows k from rfl, show grT (F.map (dotW (rows[k]?.getD []))) (rT F rows k) = rG F rows k from rfl, show leT (F.map (dotW (rows[k]?.getD []))) (rT F rows k) = rL F rows k from rfl] at HV
      have hg := HG.out k
      obtain ⟨G, hG⟩ : ∃ G, G = rG F rows k := ⟨_, rfl⟩
      obtain ⟨TH, hTH⟩ : ∃ G, G = rT F rows k := ⟨_, rfl⟩
      obtain ⟨LE, hLE⟩ : ∃ G, G = rL F rows k := ⟨_, rfl⟩
      rw [← hG] at HV hg
      rw [← hTH, ← hLE] at HV
      have HVV := hid HV
      have HGG := hid hG
      have HTT := hid hTH
      have HLL := hid hLE
      clear hcx0 hxn hxi HV hG hTH hLE
      rcases hst with ⟨rfl, rfl, rfl, rfl, rfl⟩ | ⟨hk0, rfl, rfl, rfl, rfl⟩
      · rw [Nat.add_zero] at hcx
        go_wp2_with (go_at_call 85; refine HVV.out.mono ?_; rintro e w2 ⟨rfl, hb2⟩)
        refine ⟨⟨1, by omega, rfl, .inr ⟨by omega, ?_, ?_, ?_, ?_⟩, chain hb hb2⟩, by simp [intOf]; omega⟩
        · rfl
        · rw [HTT.out]; rfl
        · rw [HLL.out]; rfl
        · rw [HGG.out]; rfl
      · have hbs2 := HBS.out k hk0
        rw [← HGG.out] at hbs2
        have hgb := HG.out (bestR F rows (k - 1))
        have hbl := HBL.out (k - 1)
        obtain ⟨B, hB⟩ : ∃ B, B = bestR F rows (k - 1) := ⟨_, rfl⟩
        rw [← hB] at hbs2 hgb hbl ⊢
        obtain ⟨GB, hGB⟩ : ∃ B', B' = rG F rows B := ⟨_, rfl⟩
        obtain ⟨TB, hTB⟩ : ∃ B', B' = rT F rows B := ⟨_, rfl⟩
        obtain ⟨LB, hLB⟩ : ∃ B', B' = rL F rows B := ⟨_, rfl⟩
        rw [← hGB] at hbs2 hgb
        rw [← hGB, ← hTB, ← hLB]
        have H1 := hid hGB
        have H2 := hid hTB
        have H3 := hid hLB
        clear hB hGB hTB hLB
        by_cases hlt2 : G < GB
        · rw [if_pos hlt2] at hbs2
          have HBK := hid hbs2
          clear hbs2
          go_wp2_with (go_at_call 85; refine HVV.out.mono ?_; rintro e w2 ⟨rfl, hb2⟩)
          refine ⟨⟨k + 1, by omega, by go_num, .inr ⟨by omega, ?_, ?_, ?_, ?_⟩, chain hb hb2⟩, by simp [intOf]; omega⟩
          · rw [Nat.add_sub_cancel, HBK.out]
          · rw [Nat.add_sub_cancel, HBK.out, ← HTT.out]
          · rw [Nat.add_sub_cancel, HBK.out, ← HLL.out]
          · rw [Nat.add_sub_cancel, HBK.out, ← HGG.out]
        · rw [if_neg hlt2] at hbs2
          have HBK := hid hbs2
          clear hbs2
          go_wp2_with (go_at_call 85; refine HVV.out.mono ?_; rintro e w2 ⟨rfl, hb2⟩)
          refine ⟨⟨k + 1, by omega, by go_num, .inr ⟨by omega, ?_, ?_, ?_, ?_⟩, chain hb hb2⟩, by simp [intOf]; omega⟩
          · rw [Nat.add_sub_cancel, HBK.out]
          · rw [Nat.add_sub_cancel, HBK.out, ← H2.out]
          · rw [Nat.add_sub_cancel, HBK.out, ← H3.out]
          · rw [Nat.add_sub_cancel, HBK.out, ← H1.out]
    · obtain rfl : k = n2 := by omega
      rcases hst with ⟨hk0, _⟩ | ⟨hk0, rfl, rfl, rfl, rfl⟩
      · omega
      · go_wp2
        go_ret3
        exact ⟨rfl, hb⟩
end Go.Proofs.Ytdcflpfaaeijoaa
