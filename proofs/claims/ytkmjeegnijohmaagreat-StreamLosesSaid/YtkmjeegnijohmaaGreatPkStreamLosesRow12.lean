/- Walks and plain laws for StreamLosesRow, part 12. -/
import Derived.Deep.CutBlock
import Derived.Test.YtkmjeegnijohmaaGreatPkStreamLosesRow11
namespace Go.Proofs.YtkmjeegnijohmaaGreat
open Go.RowKit
set_option linter.unusedVariables false

theorem lose_at (F : List Frm) (i : Int) {t : Nat} (ht : t < F.length) : (loseF F i)[t]?.getD (false, []) = loseAt F i t := by
  unfold loseF; rw [List.getElem?_map, List.getElem?_range ht]; rfl
def sameTo (F : List Frm) (i : Nat) : Nat → Bool
  | 0 => true
  | t + 1 => if t = i then false else if i < t ∧ (F[t]?.getD (false, [])).1 = true ∧ 0 < (F[t]?.getD (false, [])).2.length then true else sameTo F i t
theorem lost_dec (M : Mask) (k : Int) (F : List Frm) (i : Nat) : ∀ t, t ≤ F.length → decAt M k (loseF F i) t = decAt M k F t ∨ decAt M k (loseF F i) t = none
  | 0, _ => .inl rfl
  | t + 1, h => by
    have ih := lost_dec M k F i t (by omega)
    show nextF M k (decAt M k (loseF F i) t) ((loseF F i)[t]?.getD (false, [])) = nextF M k (decAt M k F t) (F[t]?.getD (false, [])) ∨ nextF M k (decAt M k (loseF F i) t) ((loseF F i)[t]?.getD (false, [])) = none
    rw [lose_at F i (by omega)]
    unfold loseAt
    by_cases e : (t : Int) = (i : Int)
    · rw [if_pos e]; right; simp [nextF]
    · rw [if_neg e]
      rcases ih with h1 | h1
      · rw [h1]; exact .inl rfl
      · rw [h1]
        unfold nextF
        by_cases h2 : (F[t]?.getD (false, [])).2.length = 0
        · rw [if_pos h2]; exact .inr rfl
        · rw [if_neg h2, if_neg h2]
          by_cases h3 : (F[t]?.getD (false, [])).1 = true
          · rw [if_pos h3, if_pos h3]; exact .inl rfl
          · rw [if_neg h3]; exact .inr rfl
theorem same_dec (M : Mask) (k : Int) (F : List Frm) (i : Nat) : ∀ t, t ≤ F.length → sameTo F i t = true → decAt M k (loseF F i) t = decAt M k F t
  | 0, _, _ => rfl
  | t + 1, h, hs => by
    show nextF M k (decAt M k (loseF F i) t) ((loseF F i)[t]?.getD (false, [])) = nextF M k (decAt M k F t) (F[t]?.getD (false, []))
    rw [lose_at F i (by omega)]
    unfold sameTo at hs
    by_cases e : t = i
    · rw [if_pos e] at hs; cases hs
    · rw [if_neg e] at hs
      unfold loseAt
      rw [if_neg (by omega)]
      by_cases hk : i < t ∧ (F[t]?.getD (false, [])).1 = true ∧ 0 < (F[t]?.getD (false, [])).2.length
      · have hne : ¬ (F[t]?.getD (false, [])).2.length = 0 := by omega
        unfold nextF
        rw [if_neg hne, if_neg hne, if_pos hk.2.1, if_pos hk.2.1]
      · rw [if_neg hk] at hs
        rw [same_dec M k F i t (by omega) hs]
theorem miss_le (M : Mask) (k : Int) (F : List Frm) (i : Nat) : ∀ t, t ≤ F.length → (missTo M k F t).length ≤ (missTo M k (loseF F i) t).length
  | 0, _ => Nat.le_refl _
  | t + 1, h => by
    have ih := miss_le M k F i t (by omega)
    have hd := lost_dec M k F i (t + 1) h
    show (missTo M k F t ++ (if decAt M k F (t + 1) = none then [(t : Int)] else [])).length ≤ (missTo M k (loseF F i) t ++ (if decAt M k (loseF F i) (t + 1) = none then [(t : Int)] else [])).length
    rw [List.length_append, List.length_append]
    by_cases e : decAt M k F (t + 1) = none
    · have e2 : decAt M k (loseF F i) (t + 1) = none := by
        rcases hd with h | h
        · rw [h]; exact e
        · exact h
      rw [if_pos e, if_pos e2]; simp; omega
    · rw [if_neg e]; simp; omega
theorem harm_pos (M : Mask) (k : Int) (F : List Frm) (i : Nat) : 0 ≤ harmF M F i k := by
  have := miss_le M k F i F.length (Nat.le_refl _)
  unfold harmF missF
  rw [loseF_len]
  omega
theorem harmE_ok {M : Mask} {F : List Frm} {i k : Int} (h : harmE M F i k = 0) : askE M F k = 0 ∧ 0 ≤ i ∧ i < (F.length : Int) := by
  unfold harmE at h
  split at h
  · rename_i h0
    refine ⟨h0, ?_⟩
    split at h
    · rename_i h1; unfold inB at h1; simp at h1; omega
    · simp at h
  · rename_i h0; exact absurd h h0
theorem ask_lose {M : Mask} {F : List Frm} {k : Int} (i : Int) (h : askE M F k = 0) : askE M (loseF F i) k = 0 := by
  obtain ⟨h1, h2, h3⟩ := askE_ok h
  unfold askE
  rw [lose_valid i h1, if_pos rfl, if_pos]
  unfold inB; simp; exact ⟨h2, h3⟩
theorem loseL_ok {M : Mask} {F : List Frm} {i k : Int} (h : harmE M F i k = 0) : loseL M F i = loseF F i := by
  obtain ⟨h0, h1, h2⟩ := harmE_ok h
  have : loseE M F i = 0 := by
    unfold loseE
    rw [if_pos (askE_ok h0).1, if_pos]
    unfold inB; simp; omega
  unfold loseL; rw [if_pos this]

def worstTo (M : Mask) (F : List Frm) (k : Int) : Nat → Int × Int
  | 0 => (0, -1)
  | t + 1 => if (worstTo M F k t).2 < harmF M F t k then ((t : Int), harmF M F t k) else worstTo M F k t
def worstV (M : Mask) (F : List Frm) (k : Int) : Int := if askE M F k = 0 then (worstTo M F k F.length).1 else 0
end Go.Proofs.YtkmjeegnijohmaaGreat

namespace Go.Proofs.YtkmjeegnijohmaaGreat
open Go.RowKit
set_option linter.unusedVariables false

theorem sWorst_c (w : World) (a a2 : Option Addr) (n cap n2 cap2 : Nat) (M : Mask) (F : List Frm) (k : Int) (hn : M.length = n) (hm : n ≤ maxLen) (H : RowsAt w a M) (hn2 : F.length = n2) (hm2 : n2 ≤ maxLen) (H2 : FramesAt w a2 F) :
    Calls Tryz.prog 27 #[.slice a n cap, .slice a2 n2 cap2, .int .i64 k] w fun e w' => e = .returned (.tuple #[.int .i64 (worstV M F k), .int .i64 (askE M F k)]) ∧ Below w.heap.size w w' := by
  have HA := hid (asked_c w a a2 n cap n2 cap2 M F k hn hm H hn2 hm2 H2)
  by_cases h0 : askE M F k = 0
  · have hV := (askE_ok h0).1
    have hE : worstV M F k = (worstTo M F k n2).1 := by unfold worstV; rw [if_pos h0, hn2]
    have HH := hid (fun (X : World) (hX : Below w.heap.size w X) (t : Nat) (ht : t < n2) => harm_c X a a2 n cap n2 cap2 M F t k hn hm (H.below hX) hn2 (H2.below hX) hV ht)
    have HS := hid (show ∀ t : Nat, worstTo M F k (t + 1) = if (worstTo M F k t).2 < harmF M F t k then ((t : Int), harmF M F t k) else worstTo M F k t from fun t => rfl)
    have hn60 : n2 ≤ 60 := by have := (validB_ok hV).2.2.1; omega
    rw [h0] at HA
    rw [hE, h0]
    clear hn hm H hn2 hm2 H2 h0 hV hE
    go_enter Tryz.func27, Tryz.ntmps27
    go_wp2_with first
      | (go_at_call 39; refine HA.out.mono ?_; rintro e w1 ⟨rfl, hb1⟩; refine Stop.of ?_)
    refine Stop.go ?_
    have HB1 := hid hb1
    clear hb1 HA
    go_wp2
    go_loopw [9, 10, 22] (fun wv mv i wr => ∃ t : Nat, t ≤ n2 ∧ i = .int .i64 t ∧ wv = .int .i64 (worstTo M F k t).1 ∧ mv = .int .i64 (worstTo M F k t).2 ∧ Below w1.heap.size w1 wr) (fun _ _ i _ => n2 - (intOf i).toNat)
    case atStart => exact ⟨0, Nat.zero_le _, rfl, rfl, rfl, Below.refl _ _⟩
    case round =>
      obtain ⟨t, ht, rfl, rfl, rfl, hbk⟩ := hrel
      by_cases hlt : t < n2
      · have htk := HS.out t
        have HHT := hid (HH.out _ (chain HB1.out hbk) t hlt)
        obtain ⟨x, hx⟩ : ∃ x, x = harmF M F t k := ⟨_, rfl⟩
        obtain ⟨p, hp⟩ : ∃ p, p = worstTo M F k t := ⟨_, rfl⟩
        rw [← hx] at HHT htk
        rw [← hp] at htk ⊢
        have HBK := hid hbk
        have HP := hid hp
        clear hx hp hbk
        by_cases hc : p.2 < x
        · rw [if_pos hc] at htk
          have HTK := hid htk
          clear htk
          go_wp2_with (go_at_call 49; refine HHT.out.mono ?_; rintro e w2 ⟨rfl, hb2⟩; refine Stop.of ?_)
          refine Stop.go ?_
          have HB2 := hid (chain HBK.out hb2)
          clear hb2
          go_wp2
          exact ⟨⟨t + 1, by omega, by go_num, by rw [HTK.out], by rw [HTK.out], HB2.out⟩, by simp [intOf]; omega⟩
        · rw [if_neg hc] at htk
          have HTK := hid htk
          clear htk
          go_wp2_with (go_at_call 49; refine HHT.out.mono ?_; rintro e w2 ⟨rfl, hb2⟩; refine Stop.of ?_)
          refine Stop.go ?_
          have HB2 := hid (chain HBK.out hb2)
          clear hb2
          go_wp2
          exact ⟨⟨t + 1, by omega, by go_num, by rw [HTK.out], by rw [HTK.out], HB2.out⟩, by simp [intOf]; omega⟩
      · obtain rfl : n2 = t := by omega
        go_wp2
        go_ret2
        exact ⟨rfl, chain HB1.out hbk⟩
  · have hE : worstV M F k = 0 := by unfold worstV; rw [if_neg h0]
    have hne : (askE M F k != 0) = true := by simpa using h0
    rw [hE]
    obtain ⟨E, hE⟩ : ∃ E, E = askE M F k := ⟨_, rfl⟩
    rw [← hE] at HA hne ⊢
    clear hn hm H hn2 hm2 H2 h0 hE
    go_enter Tryz.func27, Tryz.ntmps27
    go_wp2_with first
      | (go_at_call 39; refine HA.out.mono ?_; rintro e w1 ⟨rfl, hb1⟩)
    go_ret2
    exact ⟨rfl, hb1⟩
theorem r8Worst_c (w : World) (a a2 : Option Addr) (n cap n2 cap2 : Nat) (M : Mask) (F : List Frm) (k : Int) (hn : M.length = n) (hm : n ≤ maxLen) (H : RowsAt w a M) (hn2 : F.length = n2) (hm2 : n2 ≤ maxLen) (H2 : FramesAt w a2 F) :
    Calls Tryz.prog 28 #[.slice a n cap, .slice a2 n2 cap2, .int .i64 k] w fun e w' => e = .returned (.tuple #[.int .i64 (worstV M F k), .int .i64 (askE M F k)]) ∧ Below w.heap.size w w' := by
  have HA := hid (r8asked_c w a a2 n cap n2 cap2 M F k hn hm H hn2 hm2 H2)
  by_cases h0 : askE M F k = 0
  · have hV := (askE_ok h0).1
    have hE : worstV M F k = (worstTo M F k n2).1 := by unfold worstV; rw [if_pos h0, hn2]
    have HH := hid (fun (X : World) (hX : Below w.heap.size w X) (t : Nat) (ht : t < n2) => r8harm_c X a a2 n cap n2 cap2 M F t k hn hm (H.below hX) hn2 (H2.below hX) hV ht)
    have HS := hid (show ∀ t : Nat, worstTo M F k (t + 1) = if (worstTo M F k t).2 < harmF M F t k then ((t : Int), harmF M F t k) else worstTo M F k t from fun t => rfl)
    have hn60 : n2 ≤ 60 := by have := (validB_ok hV).2.2.1; omega
    rw [h0] at HA
    rw [hE, h0]
    clear hn hm H hn2 hm2 H2 h0 hV hE
    go_enter Tryz.func28, Tryz.ntmps28
    go_wp2_with first
      | (go_at_call 41; refine HA.out.mono ?_; rintro e w1 ⟨rfl, hb1⟩; refine Stop.of ?_)
    refine Stop.go ?_
    have HB1 := hid hb1
    clear hb1 HA
    go_wp2
    go_loopw [9, 10, 22] (fun wv mv i wr => ∃ t : Nat, t ≤ n2 ∧ i = .int .i64 t ∧ wv = .int .i64 (worstTo M F k t).1 ∧ mv = .int .i64 (worstTo M F k t).2 ∧ Below w1.heap.size w1 wr) (fun _ _ i _ => n2 - (intOf i).toNat)
    case atStart => exact ⟨0, Nat.zero_le _, rfl, rfl, rfl, Below.refl _ _⟩
    case round =>
      obtain ⟨t, ht, rfl, rfl, rfl, hbk⟩ := hrel
      by_cases hlt : t < n2
      · have htk := HS.out t
        have HHT := hid (HH.out _ (chain HB1.out hbk) t hlt)
        obtain ⟨x, hx⟩ : ∃ x, x = harmF M F t k := ⟨_, rfl⟩
        obtain ⟨p, hp⟩ : ∃ p, p = worstTo M F k t := ⟨_, rfl⟩
        rw [← hx] at HHT htk
        rw [← hp] at htk ⊢
        have HBK := hid hbk
        have HP := hid hp
        clear hx hp hbk
        by_cases hc : p.2 < x
        · rw [if_pos hc] at htk
          have HTK := hid htk
          clear htk
          go_wp2_with (go_at_call 50; refine HHT.out.mono ?_; rintro e w2 ⟨rfl, hb2⟩; refine Stop.of ?_)
          refine Stop.go ?_
          have HB2 := hid (chain HBK.out hb2)
          clear hb2
          go_wp2
          exact ⟨⟨t + 1, by omega, by go_num, by rw [HTK.out], by rw [HTK.out], HB2.out⟩, by simp [intOf]; omega⟩
        · rw [if_neg hc] at htk
          have HTK := hid htk
          clear htk
          go_wp2_with (go_at_call 50; refine HHT.out.mono ?_; rintro e w2 ⟨rfl, hb2⟩; refine Stop.of ?_)
          refine Stop.go ?_
          have HB2 := hid (chain HBK.out hb2)
          clear hb2
          go_wp2
          exact ⟨⟨t + 1, by omega, by go_num, by rw [HTK.out], by rw [HTK.out], HB2.out⟩, by simp [intOf]; omega⟩
      · obtain rfl : n2 = t := by omega
        go_wp2
        go_ret2
        exact ⟨rfl, chain HB1.out hbk⟩
  · have hE : worstV M F k = 0 := by unfold worstV; rw [if_neg h0]
    have hne : (askE M F k != 0) = true := by simpa using h0
    rw [hE]
    obtain ⟨E, hE⟩ : ∃ E, E = askE M F k := ⟨_, rfl⟩
    rw [← hE] at HA hne ⊢
    clear hn hm H hn2 hm2 H2 h0 hE
    go_enter Tryz.func28, Tryz.ntmps28
    go_wp2_with first
      | (go_at_call 41; refine HA.out.mono ?_; rintro e w1 ⟨rfl, hb1⟩)
    go_ret2
    exact ⟨rfl, hb1⟩
end Go.Proofs.YtkmjeegnijohmaaGreat

namespace Go.Proofs.YtkmjeegnijohmaaGreat
open Go.RowKit
set_option linter.unusedVariables false

theorem loses_ok {M : Mask} {F : List Frm} {i k : Int} {n1 : Nat} (hn : F.length = n1) (h : harmE M F i k = 0) :
    ∃ q : Nat, i = (q : Int) ∧ q < n1 ∧ askE M F k = 0 ∧ askE M (loseL M F i) k = 0 ∧ 0 ≤ harmV M F i k ∧ (loseL M F i).length = n1 ∧ n1 ≤ 60 ∧
      decF M F k = decL M k F n1 ∧ decF M (loseL M F i) k = decL M k (loseL M F i) n1 ∧ (toldL M F k).length = n1 ∧ (toldL M (loseL M F i) k).length = n1 ∧
      (∀ t, (ht : t < (toldL M F k).length) → (toldL M F k)[t] = (decAt M k F (t + 1)).isSome) ∧
      (∀ t, (ht : t < (toldL M (loseL M F i) k).length) → (toldL M (loseL M F i) k)[t] = (decAt M k (loseL M F i) (t + 1)).isSome) ∧
      (∀ t, t ≤ n1 → (decAt M k (loseL M F i) t).isSome = true → (decAt M k F t).isSome = true) ∧
      (∀ t, t ≤ n1 → sameTo F q t = true → decAt M k (loseL M F i) t = decAt M k F t) := by
  obtain ⟨h0, h1, h2⟩ := harmE_ok h
  obtain ⟨q, rfl⟩ : ∃ q : Nat, i = (q : Int) := ⟨i.toNat, by omega⟩
  rw [loseL_ok h]
  have h3 := ask_lose (q : Int) h0
  obtain ⟨a1, a2, a3⟩ := told_get h0
  obtain ⟨b1, b2, b3⟩ := told_get h3
  have hl := loseF_len F (q : Int)
  have h60 := (validB_ok (askE_ok h0).1).2.2.1
  refine ⟨q, rfl, by omega, h0, h3, ?_, by omega, by omega, by rw [a1, hn], by rw [b1, hl, hn], by omega, by omega, a3, b3, fun t ht hs => ?_, fun t ht hs => same_dec M k F q t (by omega) hs⟩
  · unfold harmV; rw [if_pos h]; exact harm_pos M k F q
  · rcases lost_dec M k F q t (by omega) with e | e
    · rw [← e]; exact hs
    · rw [e] at hs; cases hs

set_option maxRecDepth 100000 in
set_option maxHeartbeats 4000000 in
theorem streamLoses_c (w : World) (a : Option Addr) (n cap : Nat) (M : Mask) (hn : M.length = n) (hm : n ≤ maxLen) (H : RowsAt w a M) (_w0 : ∀ y ∈ M, ∀ z ∈ y, Fits64 z)
    (a1 : Option Addr) (n1 c1 : Nat) (F : List Frm) (hn1 : F.length = n1) (hm1 : n1 ≤ maxLen) (H1 : FramesAt w a1 F) (_w1 : ∀ y ∈ F, ∀ z ∈ y.2, Fits64 z)
    (i : Int) (_w2 : Fits64 i) (k : Int) (_w3 : Fits64 k) :
    Calls Tryz.prog 5 #[.slice a n cap, .slice a1 n1 c1, .int .i64 i, .int .i64 k] w fun e w' => e = .returned (.bool true) ∧ Below w.heap.size w w' := by
  clear _w0 _w1 _w2 _w3
  have HFit := hid (l8fit_c w a n cap M hn hm H)
  have HF1 := hid (l8frames_c w a1 n1 c1 F hn1 hm1 H1 7)
  have HL1 := hid (fun (X : World) (hX : Below w.heap.size w X) => sLose_c X a a1 n cap n1 c1 M F i hn hm (H.below hX) hn1 hm1 (H1.below hX))
  have HL2 := hid (fun (X : World) (hX : Below w.heap.size w X) => r8Lose_c X a a1 n cap n1 c1 M F i hn hm (H.below hX) hn1 hm1 (H1.below hX))
  have HH1 := hid (fun (X : World) (hX : Below w.heap.size w X) => sHarm_c X a a1 n cap n1 c1 M F i k hn hm (H.below hX) hn1 hm1 (H1.below hX))
  have HH2 := hid (fun (X : World) (hX : Below w.heap.size w X) => r8Harm_c X a a1 n cap n1 c1 M F i k hn hm (H.below hX) hn1 hm1 (H1.below hX))
  have HW1 := hid (fun (X : World) (hX : Below w.heap.size w X) => sWorst_c X a a1 n cap n1 c1 M F k hn hm (H.below hX) hn1 hm1 (H1.below hX))
  have HW2 := hid (fun (X : World) (hX : Below w.heap.size w X) => r8Worst_c X a a1 n cap n1 c1 M F k hn hm (H.below hX) hn1 hm1 (H1.below hX))
  have HD1 := hid (fun (X : World) (hX : Below w.heap.size w X) => sDecode_c X a a1 n cap n1 c1 M F k hn hm (H.below hX) hn1 hm1 (H1.below hX))
  have HD2 := hid (fun (X : World) (hX : Below w.heap.size w X) (va : Option Addr) (vn vc : Nat) (G : List Frm) (hG : G.length = vn) (hmv : vn ≤ maxLen) (hv : FramesAt X va G) => sDecode_c X a va n cap vn vc M G k hn hm (H.below hX) hG hmv hv)
  have HOK := hid (fun (h : harmE M F i k = 0) => loses_ok hn1 h)
  have HFA := hid (fun (X : World) (hX : Below w.heap.size w X) => H1.below hX)
  have HN1 := hid hn1
  have HSM := hid (show ∀ (q t : Nat), sameTo F q (t + 1) = if t = q then false else if q < t ∧ (F[t]?.getD (false, [])).1 = true ∧ 0 < (F[t]?.getD (false, [])).2.length then true else sameTo F q t from fun q t => rfl)
  clear hn H hn1 H1
  unfold maxLen at hm hm1
  obtain ⟨LL, hLL⟩ : ∃ x, x = loseL M F i := ⟨_, rfl⟩
  obtain ⟨EL, hEL⟩ : ∃ x, x = loseE M F i := ⟨_, rfl⟩
  obtain ⟨HV, hHV⟩ : ∃ x, x = harmV M F i k := ⟨_, rfl⟩
  obtain ⟨HE, hHE⟩ : ∃ x, x = harmE M F i k := ⟨_, rfl⟩
  obtain ⟨WV, hWV⟩ : ∃ x, x = worstV M F k := ⟨_, rfl⟩
  obtain ⟨EA, hEA⟩ : ∃ x, x = askE M F k := ⟨_, rfl⟩
  rw [← hLL, ← hEL] at HL1 HL2
  rw [← hHV, ← hHE] at HH1 HH2
  rw [← hWV, ← hEA] at HW1 HW2
  rw [← hEA] at HD1
  rw [← hLL, ← hHV, ← hHE, ← hEA] at HOK
  obtain ⟨D, hD⟩ : ∃ x, x = decF M F k := ⟨_, rfl⟩
  obtain ⟨T, hT⟩ : ∃ x, x = toldL M F k := ⟨_, rfl⟩
  rw [← hD, ← hT] at HD1 HOK
  have q1 : (EL != EL) = false := by simp
  have q2 : (HV != HV) = false := by simp
  have q3 : (HE != HE) = false := by simp
  have q4 : (WV != WV) = false := by simp
  have q5 : (EA != EA) = false := by simp
  clear hLL hEL hHV hHE hWV hEA hD hT
  go_enter Tryz.func5, Tryz.ntmps5
  go_wp2_with first
    | (go_at_call 6; refine HFit.out.mono ?_; rintro e w1 ⟨⟨b1, rfl⟩, rfl⟩; cases b1)
    | (go_at_call 8; refine (awake8_c _).mono ?_; rintro e w2 ⟨rfl, hb2⟩)
    | (go_at_call 15; refine HF1.out.mono ?_; rintro e w1 ⟨⟨b3, rfl⟩, hb1⟩; cases b3 <;> refine Stop.of ?_)
  · go_ret
    exact ⟨rfl, hb2⟩
  · refine Stop.go ?_
    go_wp2_with first
      | (go_at_call 8; refine (awake8_c _).mono ?_; rintro e w2 ⟨rfl, hb2⟩)
    go_ret
    exact ⟨rfl, chain hb1 hb2⟩
  · refine Stop.go ?_
    have HB1 := hid hb1
    clear hb1 HFit HF1
    go_wp2_with (go_at_call 23; refine (HL1.out _ HB1.out).mono ?_; rintro e w2 ⟨fa, fc, rfl, hfl, hfr, hb2⟩; refine Stop.of ?_)
    refine Stop.go ?_
    have HB2 := hid (chain HB1.out hb2)
    have HFR2 := hid hfr
    have HFL := hid hfl
    clear hb2 HL1 HB1 hfr hfl
    go_wp2_with (go_at_call 24; refine (HL2.out _ HB2.out).mono ?_; rintro e w3 ⟨ga, gc, rfl, hgl, hgr, hb3⟩; refine Stop.of ?_)
    refine Stop.go ?_
    have HB3 := hid (chain HB2.out hb3)
    have HFR3 := hid (HFR2.out.below hb3)
    have HGR3 := hid hgr
    clear hb3 HL2 HB2 hgr hgl HFR2
    go_wp2_with (go_at_call 25; refine (HH1.out _ HB3.out).mono ?_; rintro e w4 ⟨rfl, hb4⟩; refine Stop.of ?_)
    refine Stop.go ?_
    have HB4 := hid (chain HB3.out hb4)
    have HK4 := hid hb4
    clear hb4 HH1 HB3
    go_wp2_with (go_at_call 26; refine (HH2.out _ HB4.out).mono ?_; rintro e w5 ⟨rfl, hb5⟩; refine Stop.of ?_)
    refine Stop.go ?_
    have HB5 := hid (chain HB4.out hb5)
    have HK5 := hid (chain HK4.out hb5)
    clear hb5 HH2 HB4 HK4
    go_wp2_with (go_at_call 27; refine (HW1.out _ HB5.out).mono ?_; rintro e w6 ⟨rfl, hb6⟩; refine Stop.of ?_)
    refine Stop.go ?_
    have HB6 := hid (chain HB5.out hb6)
    have HK6 := hid (chain HK5.out hb6)
    clear hb6 HW1 HB5 HK5
    go_wp2_with (go_at_call 28; refine (HW2.out _ HB6.out).mono ?_; rintro e w7 ⟨rfl, hb7⟩; refine Stop.of ?_)
    refine Stop.go ?_
    have HB7 := hid (chain HB6.out hb7)
    have hk7 := chain HK6.out hb7
    have HFR7 := hid (HFR3.out.below hk7)
    have HSF := hid (s8Frames_t w7 fa ga LL.length fc gc LL rfl HFL.out HFR7.out (HGR3.out.below hk7))
    clear hb7 HW2 HB6 HK6 hk7 HFR3 HGR3
    go_wp2_with (go_at_call 29; refine HSF.out.mono ?_; rintro e w8 ⟨rfl, hb8⟩; refine Stop.of ?_)
    refine Stop.go ?_
    have HB8 := hid (chain HB7.out hb8)
    have HFR8 := hid (HFR7.out.below hb8)
    clear hb8 HSF HFR7 HB7
    by_cases hE0 : HE = 0
    rotate_left
    · have hEn : (HE != 0) = true := by simp [hE0]
      clear hE0 HOK
      go_wp2_with first
        | (go_at_call 8; refine (awake8_c _).mono ?_; rintro e w12 ⟨rfl, hb12⟩)
      go_ret
      exact ⟨rfl, chain HB8.out hb12⟩
    · obtain ⟨q, rfl, hqn, e1, e2, e3, e4, e5, e6, e7, e8, e9, e10, e11, e12, e13⟩ := HOK.out hE0
      subst hE0 e1
      have HDG := HD2.out _ HB8.out fa LL.length fc LL rfl HFL.out HFR8.out
      rw [e2] at HDG
      obtain ⟨D2, hD2⟩ : ∃ x, x = decF M LL k := ⟨_, rfl⟩
      obtain ⟨T2, hT2⟩ : ∃ x, x = toldL M LL k := ⟨_, rfl⟩
      have hdl : D.length = n1 := by rw [e6, decL_len]
      have hdl2 : D2.length = n1 := by rw [hD2, e7, decL_len]
      rw [← hD2] at e7
      rw [← hT2] at e9 e11
      have HD2' := hid (fun (X : World) (hX : Below w.heap.size w X) (hf : FramesAt X fa LL) => (show Calls Tryz.prog 16 #[.slice a n cap, .slice fa n1 fc, .int .i64 k] X fun e w' => ∃ va vc ta tc, e = .returned (.tuple #[.slice va n1 vc, .slice ta n1 tc, .int .i64 0]) ∧ OptsAt w' va D2 ∧ BoolsAt w' ta T2 ∧ Below X.heap.size X w' from by
        have h := HD2.out X hX fa n1 fc LL e4 (by unfold maxLen; omega) hf
        rw [e2, ← hD2, ← hT2, hdl2, e9] at h
        exact h))
      have HD1' := hid (fun (X : World) (hX : Below w.heap.size w X) => (show Calls Tryz.prog 16 #[.slice a n cap, .slice a1 n1 c1, .int .i64 k] X fun e w' => ∃ va vc ta tc, e = .returned (.tuple #[.slice va n1 vc, .slice ta n1 tc, .int .i64 0]) ∧ OptsAt w' va D ∧ BoolsAt w' ta T ∧ Below X.heap.size X w' from by
        have h := HD1.out X hX
        rw [hdl, e8] at h
        exact h))
      have HE6 := hid e6
      have HE7 := hid e7
      have HE8 := hid e8
      have HE9 := hid e9
      have HE10 := hid e10
      have HE11 := hid e11
      have HE12 := hid e12
      have HE13 := hid e13
      have hv0 : ¬ HV < 0 := by omega
      obtain ⟨ln, hln⟩ : ∃ x, x = LL.length := ⟨_, rfl⟩
      obtain rfl : ln = n1 := by rw [hln]; exact e4
      rw [← hln]
      clear HDG HD1 HD2 e2 e3 e4 e6 e7 e8 e9 e10 e11 e12 e13 hD2 hT2 hdl hdl2 HOK hln
      go_wp2_with (go_at_call 16; refine (HD1'.out _ HB8.out).mono ?_; rintro e w9 ⟨pa, pc, ta, tc, rfl, hp, ht, hb9⟩; refine Stop.of ?_)
      refine Stop.go ?_
      have HB9 := hid (chain HB8.out hb9)
      have HFR9 := hid (HFR8.out.below hb9)
      have HP9 := hid hp
      have HT9 := hid ht
      clear hb9 HD1' HB8 HFR8 hp ht
      go_wp2_with (go_at_call 16; refine (HD2'.out _ HB9.out HFR9.out).mono ?_; rintro e w10 ⟨za, zc2, la, lc, rfl, hz, hl, hb10⟩; refine Stop.of ?_)
      refine Stop.go ?_
      have HB10 := hid (chain HB9.out hb10)
      have HP10 := hid (HP9.out.below hb10)
      have HT10 := hid (HT9.out.below hb10)
      have HZ10 := hid hz
      have HL10 := hid hl
      have HFA10 := hid (HFA.out _ HB10.out)
      clear hb10 HD2' HB9 HFR9 HP9 HT9 hz hl HFA
      go_wp2
      go_loopw [27, 156] (fun s i wr => ∃ t : Nat, t ≤ ln ∧ i = .int .i64 t ∧ s = .bool (sameTo F q t) ∧ Below w10.heap.size w10 wr) (fun _ i _ => ln - (intOf i).toNat)
      case atStart => exact ⟨0, Nat.zero_le _, rfl, rfl, Below.refl _ _⟩
      case round =>
        obtain ⟨t, ht, rfl, rfl, hbk⟩ := hrel
        by_cases hlt : t < ln
        · have htF : t < F.length := by rw [HN1.out]; exact hlt
          obtain ⟨fb, fo, xa, xn, xc, rfl, hfb, hf0, hf1, hxn, _, _⟩ := (HFA10.out.below hbk) t htF
          have hti : (t : Int) < (ln : Int) := by omega
          have hti0 : (0 : Int) ≤ (t : Int) := by omega
          have hsm := HSM.out q t
          rw [List.getElem?_eq_getElem htF, Option.getD_some] at hsm
          obtain ⟨⟨kf, l⟩, hl⟩ : ∃ f, f = F[t]'htF := ⟨_, rfl⟩
          rw [← hl] at hf0 hxn hsm
          simp only [] at hf0 hxn hsm
          rw [hxn] at hsm
          have h12 := HE12.out (t + 1) hlt
          have h13 := HE13.out (t + 1) hlt
          obtain ⟨tb, tq, rfl, htb, hct⟩ := (HT10.out.below hbk) t (by rw [HE8.out]; exact hlt)
          rw [HE10.out t (by rw [HE8.out]; exact hlt)] at hct
          obtain ⟨lb, lo, rfl, hlb, hcl⟩ := (HL10.out.below hbk) t (by rw [HE9.out]; exact hlt)
          rw [HE11.out t (by rw [HE9.out]; exact hlt)] at hcl
          have hpo := HP10.out.below hbk
          rw [HE6.out] at hpo
          obtain ⟨pb, po, ra, rn, rc, rfl, hpb, hcp, hrn, hrm, hri, _⟩ := hpo t (by rw [decL_len]; exact hlt)
          rw [decL_get] at hrn hri
          have hzo := HZ10.out.below hbk
          rw [HE7.out] at hzo
          obtain ⟨zb, zo, za, zn, zc, rfl, hzb, hcz, hzn, hzm, hzi, _⟩ := hzo t (by rw [decL_len]; exact hlt)
          rw [decL_get] at hzn hzi
          obtain ⟨A, hA⟩ : ∃ x, x = decAt M k F (t + 1) := ⟨_, rfl⟩
          obtain ⟨B, hB⟩ : ∃ x, x = decAt M k LL (t + 1) := ⟨_, rfl⟩
          rw [← hA] at h12 h13 hct hrn hri
          rw [← hB] at h12 h13 hcl hzn hzi
          obtain ⟨S, hS⟩ : ∃ x, x = sameTo F q t := ⟨_, rfl⟩
          obtain ⟨S1, hS1⟩ : ∃ x, x = sameTo F q (t + 1) := ⟨_, rfl⟩
          rw [← hS1] at hsm h13
          rw [← hS] at hsm ⊢
          have HS1 := hid hS1.symm
          have HBK := hid hbk
          have HSX := hid (show ∀ X : World, Below wr.heap.size wr X → X.cell? ⟨tb, tq + t, none⟩ = some (.bool A.isSome) ∧ X.cell? ⟨lb, lo + t, none⟩ = some (.bool B.isSome) ∧ X.cell? ⟨pb, po + t, none⟩ = some (.slice ra rn rc) ∧ X.cell? ⟨zb, zo + t, none⟩ = some (.slice za zn zc) from fun X hX => ⟨(hX.cell (p := ⟨tb, tq + t, none⟩) htb).trans hct, (hX.cell (p := ⟨lb, lo + t, none⟩) hlb).trans hcl, (hX.cell (p := ⟨pb, po + t, none⟩) hpb).trans hcp, (hX.cell (p := ⟨zb, zo + t, none⟩) hzb).trans hcz⟩)
          have H12 := hid h12
          have H13 := hid h13
          have HRI := hid hri
          have HZI := hid hzi
          have HRN := hid hrn
          have HZN := hid hzn
          have HRM := hid hrm
          clear h12 h13 hri hzi hrn hzn hrm hzm hct hcl hcp hcz hpo hzo hA hB hS hS1 hbk htb hlb hpb hzb hfb hxn hl
          go_upto_block 2 with fail
          go_cut [27, 156] from 156 to 220 (fun s j wx => s = .bool S1 ∧ j = .int .i64 t ∧ wr = wx)
          case first =>
            by_cases htq : t = q
            · rw [if_pos htq] at hsm
              subst htq hsm
              go_wp2
              go_meet
              case rel => exact ⟨rfl, rfl, rfl⟩
            · rw [if_neg htq] at hsm
              have z1 : ((t : Int) == (q : Int)) = false := by simp; omega
              have z2 : ¬ (t : Int) = (q : Int) := by omega
              by_cases hlt2 : q < t
              · cases kf
                · rw [if_neg (by simp)] at hsm
                  subst hsm
                  go_wp2
                  go_meet
                  case rel => exact ⟨rfl, rfl, rfl⟩
                · by_cases hx0 : 0 < xn
                  · rw [if_pos ⟨hlt2, rfl, hx0⟩] at hsm
                    subst hsm
                    go_wp2
                    go_meet
                    case rel => exact ⟨rfl, rfl, rfl⟩
                  · rw [if_neg (fun h => hx0 h.2.2)] at hsm
                    obtain rfl : xn = 0 := by omega
                    subst hsm
                    go_wp2
                    go_meet
                    case rel => exact ⟨rfl, rfl, rfl⟩
              · rw [if_neg (fun h => hlt2 h.1)] at hsm
                subst hsm
                go_wp2
                go_meet
                case rel => exact ⟨rfl, rfl, rfl⟩
          case rest =>
            obtain ⟨rfl, rfl, rfl⟩ := hcut
            clear hsm hf0 hf1
            go_wp2
            refine plain_region (fun j w' => decide (j < 37) = true → w'.cell? ⟨tb, tq + t, none⟩ = some (.bool A.isSome) ∧ w'.cell? ⟨lb, lo + t, none⟩ = some (.bool B.isSome) ∧ w'.cell? ⟨pb, po + t, none⟩ = some (.slice ra rn rc) ∧ w'.cell? ⟨zb, zo + t, none⟩ = some (.slice za zn zc)) (by kernel_rfl) ?_
            have hbd : Below wr.heap.size wr wr.drew := (Below.refl _ _).drew
            have hS := HSX.out _ hbd
            generalize wr.drew = wd at hS hbd ⊢
            have HBD := hid hbd
            clear hbd
            cases S1
            · cases hBs : B.isSome
              · rw [hBs] at hS HSX
                obtain ⟨Q, hQ⟩ : ∃ x, x = A.isSome := ⟨_, rfl⟩
                rw [← hQ] at hS HSX ⊢
                clear hQ hBs H12
                refine AnyT.takeD (i := 0) (v := .slice (some ⟨lb, lo, none⟩) ln lc) rfl rfl (by kernel_rfl) (by kernel_rfl) (by kernel_rfl) (by first | exact (fun _ _ _ h => h) | exact (fun _ _ _ h => absurd h.1 (by simp))) (by kernel_rfl) (by rfl) (by rintro w' ⟨q1, q2, q3, q4⟩; go_simp) hS ?_; go_frame
                refine AnyT.takeD (i := 1) (v := .int .i64 t) rfl rfl (by kernel_rfl) (by kernel_rfl) (by kernel_rfl) (by first | exact (fun _ _ _ h => h) | exact (fun _ _ _ h => absurd h.1 (by simp))) (by kernel_rfl) (by rfl) (by rintro w' ⟨q1, q2, q3, q4⟩; go_simp) hS ?_; go_frame
                refine AnyT.takeD (i := 2) (v := .pointer (some ⟨lb, lo + t, none⟩)) rfl rfl (by kernel_rfl) (by kernel_rfl) (by kernel_rfl) (by first | exact (fun _ _ _ h => h) | exact (fun _ _ _ h => absurd h.1 (by simp))) (by kernel_rfl) (by rfl) (by rintro w' ⟨q1, q2, q3, q4⟩; go_simp) hS ?_; go_frame
                refine AnyT.takeD (i := 3) (v := .bool false) rfl rfl (by kernel_rfl) (by kernel_rfl) (by kernel_rfl) (by first | exact (fun _ _ _ h => h) | exact (fun _ _ _ h => absurd h.1 (by simp))) (by kernel_rfl) (by rfl) (by rintro w' ⟨q1, q2, q3, q4⟩; go_simp) hS ?_; go_frame
                refine AnyT.takeD (i := 4) (v := .bool false) rfl rfl (by kernel_rfl) (by kernel_rfl) (by kernel_rfl) (by first | exact (fun _ _ _ h => h) | exact (fun _ _ _ h => absurd h.1 (by simp))) (by kernel_rfl) (by rfl) (by rintro w' ⟨q1, q2, q3, q4⟩; go_simp) hS ?_; go_frame
                refine AnyT.takeDN (i := 5) rfl rfl (by kernel_rfl) (by kernel_rfl) (by kernel_rfl) (by first | exact (fun _ _ _ h => h) | exact (fun _ _ _ h => absurd h.1 (by simp))) (by kernel_rfl) (by rfl) hS ?_; go_frame
                refine AnyT.takeDN (i := 6) rfl rfl (by kernel_rfl) (by kernel_rfl) (by kernel_rfl) (by first | exact (fun _ _ _ h => h) | exact (fun _ _ _ h => absurd h.1 (by simp))) (by kernel_rfl) (by rfl) hS ?_; go_frame
                refine AnyT.takeDN (i := 7) rfl rfl (by kernel_rfl) (by kernel_rfl) (by kernel_rfl) (by first | exact (fun _ _ _ h => h) | exact (fun _ _ _ h => absurd h.1 (by simp))) (by kernel_rfl) (by rfl) hS ?_; go_frame
                refine AnyT.takeDN (i := 8) rfl rfl (by kernel_rfl) (by kernel_rfl) (by kernel_rfl) (by first | exact (fun _ _ _ h => h) | exact (fun _ _ _ h => absurd h.1 (by simp))) (by kernel_rfl) (by rfl) hS ?_; go_frame
                refine AnyT.takeDN (i := 9) rfl rfl (by kernel_rfl) (by kernel_rfl) (by kernel_rfl) (by first | exact (fun _ _ _ h => h) | exact (fun _ _ _ h => absurd h.1 (by simp))) (by kernel_rfl) (by rfl) hS ?_; go_frame
                refine AnyT.takeD (i := 10) (v := .bool false) rfl rfl (by kernel_rfl) (by kernel_rfl) (by kernel_rfl) (by first | exact (fun _ _ _ h => h) | exact (fun _ _ _ h => absurd h.1 (by simp))) (by kernel_rfl) (by rfl) (by rintro w' ⟨q1, q2, q3, q4⟩; go_simp) hS ?_; go_frame
                refine AnyT.takeD (i := 11) (v := .bool false) rfl rfl (by kernel_rfl) (by kernel_rfl) (by kernel_rfl) (by first | exact (fun _ _ _ h => h) | exact (fun _ _ _ h => absurd h.1 (by simp))) (by kernel_rfl) (by rfl) (by rintro w' ⟨q1, q2, q3, q4⟩; go_simp) hS ?_; go_frame
                refine AnyT.takeD (i := 12) (v := .bool false) rfl rfl (by kernel_rfl) (by kernel_rfl) (by kernel_rfl) (by first | exact (fun _ _ _ h => h) | exact (fun _ _ _ h => absurd h.1 (by simp))) (by kernel_rfl) (by rfl) (by rintro w' ⟨q1, q2, q3, q4⟩; go_simp) hS ?_; go_frame
                refine AnyT.takeD (i := 13) (v := .bool false) rfl rfl (by kernel_rfl) (by kernel_rfl) (by kernel_rfl) (by first | exact (fun _ _ _ h => h) | exact (fun _ _ _ h => absurd h.1 (by simp))) (by kernel_rfl) (by rfl) (by rintro w' ⟨q1, q2, q3, q4⟩; go_simp) hS ?_; go_frame
                refine AnyT.takeDN (i := 14) rfl rfl (by kernel_rfl) (by kernel_rfl) (by kernel_rfl) (by first | exact (fun _ _ _ h => h) | exact (fun _ _ _ h => absurd h.1 (by simp))) (by kernel_rfl) (by rfl) hS ?_; go_frame
                refine AnyT.takeDN (i := 15) rfl rfl (by kernel_rfl) (by kernel_rfl) (by kernel_rfl) (by first | exact (fun _ _ _ h => h) | exact (fun _ _ _ h => absurd h.1 (by simp))) (by kernel_rfl) (by rfl) hS ?_; go_frame
                refine AnyT.takeDN (i := 16) rfl rfl (by kernel_rfl) (by kernel_rfl) (by kernel_rfl) (by first | exact (fun _ _ _ h => h) | exact (fun _ _ _ h => absurd h.1 (by simp))) (by kernel_rfl) (by rfl) hS ?_; go_frame
                refine AnyT.takeDN (i := 17) rfl rfl (by kernel_rfl) (by kernel_rfl) (by kernel_rfl) (by first | exact (fun _ _ _ h => h) | exact (fun _ _ _ h => absurd h.1 (by simp))) (by kernel_rfl) (by rfl) hS ?_; go_frame
                refine AnyT.takeDN (i := 18) rfl rfl (by kernel_rfl) (by kernel_rfl) (by kernel_rfl) (by first | exact (fun _ _ _ h => h) | exact (fun _ _ _ h => absurd h.1 (by simp))) (by kernel_rfl) (by rfl) hS ?_; go_frame
                refine AnyT.takeDN (i := 19) rfl rfl (by kernel_rfl) (by kernel_rfl) (by kernel_rfl) (by first | exact (fun _ _ _ h => h) | exact (fun _ _ _ h => absurd h.1 (by simp))) (by kernel_rfl) (by rfl) hS ?_; go_frame
                refine AnyT.takeDN (i := 20) rfl rfl (by kernel_rfl) (by kernel_rfl) (by kernel_rfl) (by first | exact (fun _ _ _ h => h) | exact (fun _ _ _ h => absurd h.1 (by simp))) (by kernel_rfl) (by rfl) hS ?_; go_frame
                refine AnyT.takeDN (i := 21) rfl rfl (by kernel_rfl) (by kernel_rfl) (by kernel_rfl) (by first | exact (fun _ _ _ h => h) | exact (fun _ _ _ h => absurd h.1 (by simp))) (by kernel_rfl) (by rfl) hS ?_; go_frame
                refine AnyT.takeDN (i := 22) rfl rfl (by kernel_rfl) (by kernel_rfl) (by kernel_rfl) (by first | exact (fun _ _ _ h => h) | exact (fun _ _ _ h => absurd h.1 (by simp))) (by kernel_rfl) (by rfl) hS ?_; go_frame
                refine AnyT.takeDN (i := 23) rfl rfl (by kernel_rfl) (by kernel_rfl) (by kernel_rfl) (by first | exact (fun _ _ _ h => h) | exact (fun _ _ _ h => absurd h.1 (by simp))) (by kernel_rfl) (by rfl) hS ?_; go_frame
                refine AnyT.takeDN (i := 24) rfl rfl (by kernel_rfl) (by kernel_rfl) (by kernel_rfl) (by first | exact (fun _ _ _ h => h) | exact (fun _ _ _ h => absurd h.1 (by simp))) (by kernel_rfl) (by rfl) hS ?_; go_frame
                refine AnyT.takeDN (i := 25) rfl rfl (by kernel_rfl) (by kernel_rfl) (by kernel_rfl) (by first | exact (fun _ _ _ h => h) | exact (fun _ _ _ h => absurd h.1 (by simp))) (by kernel_rfl) (by rfl) hS ?_; go_frame
                refine AnyT.takeDN (i := 26) rfl rfl (by kernel_rfl) (by kernel_rfl) (by kernel_rfl) (by first | exact (fun _ _ _ h => h) | exact (fun _ _ _ h => absurd h.1 (by simp))) (by kernel_rfl) (by rfl) hS ?_; go_frame
                refine AnyT.takeDN (i := 27) rfl rfl (by kernel_rfl) (by kernel_rfl) (by kernel_rfl) (by first | exact (fun _ _ _ h => h) | exact (fun _ _ _ h => absurd h.1 (by simp))) (by kernel_rfl) (by rfl) hS ?_; go_frame
                refine AnyT.takeDN (i := 28) rfl rfl (by kernel_rfl) (by kernel_rfl) (by kernel_rfl) (by first | exact (fun _ _ _ h => h) | exact (fun _ _ _ h => absurd h.1 (by simp))) (by kernel_rfl) (by rfl) hS ?_; go_frame
                refine AnyT.takeDN (i := 29) rfl rfl (by kernel_rfl) (by kernel_rfl) (by kernel_rfl) (by first | exact (fun _ _ _ h => h) | exact (fun _ _ _ h => absurd h.1 (by simp))) (by kernel_rfl) (by rfl) hS ?_; go_frame
                refine AnyT.takeDN (i := 30) rfl rfl (by kernel_rfl) (by kernel_rfl) (by kernel_rfl) (by first | exact (fun _ _ _ h => h) | exact (fun _ _ _ h => absurd h.1 (by simp))) (by kernel_rfl) (by rfl) hS ?_; go_frame
                refine AnyT.takeDN (i := 31) rfl rfl (by kernel_rfl) (by kernel_rfl) (by kernel_rfl) (by first | exact (fun _ _ _ h => h) | exact (fun _ _ _ h => absurd h.1 (by simp))) (by kernel_rfl) (by rfl) hS ?_; go_frame
                refine AnyT.takeDN (i := 32) rfl rfl (by kernel_rfl) (by kernel_rfl) (by kernel_rfl) (by first | exact (fun _ _ _ h => h) | exact (fun _ _ _ h => absurd h.1 (by simp))) (by kernel_rfl) (by rfl) hS ?_; go_frame
                refine AnyT.takeDN (i := 33) rfl rfl (by kernel_rfl) (by kernel_rfl) (by kernel_rfl) (by first | exact (fun _ _ _ h => h) | exact (fun _ _ _ h => absurd h.1 (by simp))) (by kernel_rfl) (by rfl) hS ?_; go_frame
                refine AnyT.takeDN (i := 34) rfl rfl (by kernel_rfl) (by kernel_rfl) (by kernel_rfl) (by first | exact (fun _ _ _ h => h) | exact (fun _ _ _ h => absurd h.1 (by simp))) (by kernel_rfl) (by rfl) hS ?_; go_frame
                refine AnyT.takeD (i := 35) (v := .bool false) rfl rfl (by kernel_rfl) (by kernel_rfl) (by kernel_rfl) (by first | exact (fun _ _ _ h => h) | exact (fun _ _ _ h => absurd h.1 (by simp))) (by kernel_rfl) (by rfl) (by rintro w' ⟨q1, q2, q3, q4⟩; go_simp) hS ?_; go_frame
                refine AnyT.takeD (i := 36) (v := .bool false) rfl rfl (by kernel_rfl) (by kernel_rfl) (by kernel_rfl) (by first | exact (fun _ _ _ h => h) | exact (fun _ _ _ h => absurd h.1 (by simp))) (by kernel_rfl) (by rfl) (by rintro w' ⟨q1, q2, q3, q4⟩; go_simp) hS ?_; go_frame
                refine ⟨by kernel_rfl, ?_⟩
                have HB9 := HBD
                go_wp2
                first
                  | exact ⟨⟨t + 1, by omega, by go_num, by rw [HS1.out], chain HBK.out HB9.out⟩, by simp [intOf]; omega⟩
                  | ((repeat apply Exists.intro); exact ⟨⟨t + 1, by omega, by go_num, by rw [HS1.out], chain HBK.out HB9.out⟩, rfl⟩)
              · have hAs := H12.out hBs
                rw [hBs, hAs] at hS HSX; rw [hAs]
                clear hBs hAs H12
                refine AnyT.takeD (i := 0) (v := .slice (some ⟨lb, lo, none⟩) ln lc) rfl rfl (by kernel_rfl) (by kernel_rfl) (by kernel_rfl) (by first | exact (fun _ _ _ h => h) | exact (fun _ _ _ h => absurd h.1 (by simp))) (by kernel_rfl) (by rfl) (by rintro w' ⟨q1, q2, q3, q4⟩; go_simp) hS ?_; go_frame
                refine AnyT.takeD (i := 1) (v := .int .i64 t) rfl rfl (by kernel_rfl) (by kernel_rfl) (by kernel_rfl) (by first | exact (fun _ _ _ h => h) | exact (fun _ _ _ h => absurd h.1 (by simp))) (by kernel_rfl) (by rfl) (by rintro w' ⟨q1, q2, q3, q4⟩; go_simp) hS ?_; go_frame
                refine AnyT.takeD (i := 2) (v := .pointer (some ⟨lb, lo + t, none⟩)) rfl rfl (by kernel_rfl) (by kernel_rfl) (by kernel_rfl) (by first | exact (fun _ _ _ h => h) | exact (fun _ _ _ h => absurd h.1 (by simp))) (by kernel_rfl) (by rfl) (by rintro w' ⟨q1, q2, q3, q4⟩; go_simp) hS ?_; go_frame
                refine AnyT.takeD (i := 3) (v := .bool true) rfl rfl (by kernel_rfl) (by kernel_rfl) (by kernel_rfl) (by first | exact (fun _ _ _ h => h) | exact (fun _ _ _ h => absurd h.1 (by simp))) (by kernel_rfl) (by rfl) (by rintro w' ⟨q1, q2, q3, q4⟩; go_simp) hS ?_; go_frame
                refine AnyT.takeD (i := 4) (v := .bool true) rfl rfl (by kernel_rfl) (by kernel_rfl) (by kernel_rfl) (by first | exact (fun _ _ _ h => h) | exact (fun _ _ _ h => absurd h.1 (by simp))) (by kernel_rfl) (by rfl) (by rintro w' ⟨q1, q2, q3, q4⟩; go_simp) hS ?_; go_frame
                refine AnyT.takeD (i := 5) (v := .slice (some ⟨tb, tq, none⟩) ln tc) rfl rfl (by kernel_rfl) (by kernel_rfl) (by kernel_rfl) (by first | exact (fun _ _ _ h => h) | exact (fun _ _ _ h => absurd h.1 (by simp))) (by kernel_rfl) (by rfl) (by rintro w' ⟨q1, q2, q3, q4⟩; go_simp) hS ?_; go_frame
                refine AnyT.takeD (i := 6) (v := .int .i64 t) rfl rfl (by kernel_rfl) (by kernel_rfl) (by kernel_rfl) (by first | exact (fun _ _ _ h => h) | exact (fun _ _ _ h => absurd h.1 (by simp))) (by kernel_rfl) (by rfl) (by rintro w' ⟨q1, q2, q3, q4⟩; go_simp) hS ?_; go_frame
                refine AnyT.takeD (i := 7) (v := .pointer (some ⟨tb, tq + t, none⟩)) rfl rfl (by kernel_rfl) (by kernel_rfl) (by kernel_rfl) (by first | exact (fun _ _ _ h => h) | exact (fun _ _ _ h => absurd h.1 (by simp))) (by kernel_rfl) (by rfl) (by rintro w' ⟨q1, q2, q3, q4⟩; go_simp) hS ?_; go_frame
                refine AnyT.takeD (i := 8) (v := .bool true) rfl rfl (by kernel_rfl) (by kernel_rfl) (by kernel_rfl) (by first | exact (fun _ _ _ h => h) | exact (fun _ _ _ h => absurd h.1 (by simp))) (by kernel_rfl) (by rfl) (by rintro w' ⟨q1, q2, q3, q4⟩; go_simp) hS ?_; go_frame
                refine AnyT.takeD (i := 9) (v := .bool false) rfl rfl (by kernel_rfl) (by kernel_rfl) (by kernel_rfl) (by first | exact (fun _ _ _ h => h) | exact (fun _ _ _ h => absurd h.1 (by simp))) (by kernel_rfl) (by rfl) (by rintro w' ⟨q1, q2, q3, q4⟩; go_simp) hS ?_; go_frame
                refine AnyT.takeD (i := 10) (v := .bool false) rfl rfl (by kernel_rfl) (by kernel_rfl) (by kernel_rfl) (by first | exact (fun _ _ _ h => h) | exact (fun _ _ _ h => absurd h.1 (by simp))) (by kernel_rfl) (by rfl) (by rintro w' ⟨q1, q2, q3, q4⟩; go_simp) hS ?_; go_frame
                refine AnyT.takeD (i := 11) (v := .bool false) rfl rfl (by kernel_rfl) (by kernel_rfl) (by kernel_rfl) (by first | exact (fun _ _ _ h => h) | exact (fun _ _ _ h => absurd h.1 (by simp))) (by kernel_rfl) (by rfl) (by rintro w' ⟨q1, q2, q3, q4⟩; go_simp) hS ?_; go_frame
                refine AnyT.takeD (i := 12) (v := .bool false) rfl rfl (by kernel_rfl) (by kernel_rfl) (by kernel_rfl) (by first | exact (fun _ _ _ h => h) | exact (fun _ _ _ h => absurd h.1 (by simp))) (by kernel_rfl) (by rfl) (by rintro w' ⟨q1, q2, q3, q4⟩; go_simp) hS ?_; go_frame
                refine AnyT.takeD (i := 13) (v := .bool false) rfl rfl (by kernel_rfl) (by kernel_rfl) (by kernel_rfl) (by first | exact (fun _ _ _ h => h) | exact (fun _ _ _ h => absurd h.1 (by simp))) (by kernel_rfl) (by rfl) (by rintro w' ⟨q1, q2, q3, q4⟩; go_simp) hS ?_; go_frame
                refine AnyT.takeDN (i := 14) rfl rfl (by kernel_rfl) (by kernel_rfl) (by kernel_rfl) (by first | exact (fun _ _ _ h => h) | exact (fun _ _ _ h => absurd h.1 (by simp))) (by kernel_rfl) (by rfl) hS ?_; go_frame
                refine AnyT.takeDN (i := 15) rfl rfl (by kernel_rfl) (by kernel_rfl) (by kernel_rfl) (by first | exact (fun _ _ _ h => h) | exact (fun _ _ _ h => absurd h.1 (by simp))) (by kernel_rfl) (by rfl) hS ?_; go_frame
                refine AnyT.takeDN (i := 16) rfl rfl (by kernel_rfl) (by kernel_rfl) (by kernel_rfl) (by first | exact (fun _ _ _ h => h) | exact (fun _ _ _ h => absurd h.1 (by simp))) (by kernel_rfl) (by rfl) hS ?_; go_frame
                refine AnyT.takeDN (i := 17) rfl rfl (by kernel_rfl) (by kernel_rfl) (by kernel_rfl) (by first | exact (fun _ _ _ h => h) | exact (fun _ _ _ h => absurd h.1 (by simp))) (by kernel_rfl) (by rfl) hS ?_; go_frame
                refine AnyT.takeDN (i := 18) rfl rfl (by kernel_rfl) (by kernel_rfl) (by kernel_rfl) (by first | exact (fun _ _ _ h => h) | exact (fun _ _ _ h => absurd h.1 (by simp))) (by kernel_rfl) (by rfl) hS ?_; go_frame
                refine AnyT.takeDN (i := 19) rfl rfl (by kernel_rfl) (by kernel_rfl) (by kernel_rfl) (by first | exact (fun _ _ _ h => h) | exact (fun _ _ _ h => absurd h.1 (by simp))) (by kernel_rfl) (by rfl) hS ?_; go_frame
                refine AnyT.takeDN (i := 20) rfl rfl (by kernel_rfl) (by kernel_rfl) (by kernel_rfl) (by first | exact (fun _ _ _ h => h) | exact (fun _ _ _ h => absurd h.1 (by simp))) (by kernel_rfl) (by rfl) hS ?_; go_frame
                refine AnyT.takeDN (i := 21) rfl rfl (by kernel_rfl) (by kernel_rfl) (by kernel_rfl) (by first | exact (fun _ _ _ h => h) | exact (fun _ _ _ h => absurd h.1 (by simp))) (by kernel_rfl) (by rfl) hS ?_; go_frame
                refine AnyT.takeDN (i := 22) rfl rfl (by kernel_rfl) (by kernel_rfl) (by kernel_rfl) (by first | exact (fun _ _ _ h => h) | exact (fun _ _ _ h => absurd h.1 (by simp))) (by kernel_rfl) (by rfl) hS ?_; go_frame
                refine AnyT.takeDN (i := 23) rfl rfl (by kernel_rfl) (by kernel_rfl) (by kernel_rfl) (by first | exact (fun _ _ _ h => h) | exact (fun _ _ _ h => absurd h.1 (by simp))) (by kernel_rfl) (by rfl) hS ?_; go_frame
                refine AnyT.takeDN (i := 24) rfl rfl (by kernel_rfl) (by kernel_rfl) (by kernel_rfl) (by first | exact (fun _ _ _ h => h) | exact (fun _ _ _ h => absurd h.1 (by simp))) (by kernel_rfl) (by rfl) hS ?_; go_frame
                refine AnyT.takeDN (i := 25) rfl rfl (by kernel_rfl) (by kernel_rfl) (by kernel_rfl) (by first | exact (fun _ _ _ h => h) | exact (fun _ _ _ h => absurd h.1 (by simp))) (by kernel_rfl) (by rfl) hS ?_; go_frame
                refine AnyT.takeDN (i := 26) rfl rfl (by kernel_rfl) (by kernel_rfl) (by kernel_rfl) (by first | exact (fun _ _ _ h => h) | exact (fun _ _ _ h => absurd h.1 (by simp))) (by kernel_rfl) (by rfl) hS ?_; go_frame
                refine AnyT.takeDN (i := 27) rfl rfl (by kernel_rfl) (by kernel_rfl) (by kernel_rfl) (by first | exact (fun _ _ _ h => h) | exact (fun _ _ _ h => absurd h.1 (by simp))) (by kernel_rfl) (by rfl) hS ?_; go_frame
                refine AnyT.takeDN (i := 28) rfl rfl (by kernel_rfl) (by kernel_rfl) (by kernel_rfl) (by first | exact (fun _ _ _ h => h) | exact (fun _ _ _ h => absurd h.1 (by simp))) (by kernel_rfl) (by rfl) hS ?_; go_frame
                refine AnyT.takeDN (i := 29) rfl rfl (by kernel_rfl) (by kernel_rfl) (by kernel_rfl) (by first | exact (fun _ _ _ h => h) | exact (fun _ _ _ h => absurd h.1 (by simp))) (by kernel_rfl) (by rfl) hS ?_; go_frame
                refine AnyT.takeDN (i := 30) rfl rfl (by kernel_rfl) (by kernel_rfl) (by kernel_rfl) (by first | exact (fun _ _ _ h => h) | exact (fun _ _ _ h => absurd h.1 (by simp))) (by kernel_rfl) (by rfl) hS ?_; go_frame
                refine AnyT.takeDN (i := 31) rfl rfl (by kernel_rfl) (by kernel_rfl) (by kernel_rfl) (by first | exact (fun _ _ _ h => h) | exact (fun _ _ _ h => absurd h.1 (by simp))) (by kernel_rfl) (by rfl) hS ?_; go_frame
                refine AnyT.takeDN (i := 32) rfl rfl (by kernel_rfl) (by kernel_rfl) (by kernel_rfl) (by first | exact (fun _ _ _ h => h) | exact (fun _ _ _ h => absurd h.1 (by simp))) (by kernel_rfl) (by rfl) hS ?_; go_frame
                refine AnyT.takeDN (i := 33) rfl rfl (by kernel_rfl) (by kernel_rfl) (by kernel_rfl) (by first | exact (fun _ _ _ h => h) | exact (fun _ _ _ h => absurd h.1 (by simp))) (by kernel_rfl) (by rfl) hS ?_; go_frame
                refine AnyT.takeDN (i := 34) rfl rfl (by kernel_rfl) (by kernel_rfl) (by kernel_rfl) (by first | exact (fun _ _ _ h => h) | exact (fun _ _ _ h => absurd h.1 (by simp))) (by kernel_rfl) (by rfl) hS ?_; go_frame
                refine AnyT.takeD (i := 35) (v := .bool false) rfl rfl (by kernel_rfl) (by kernel_rfl) (by kernel_rfl) (by first | exact (fun _ _ _ h => h) | exact (fun _ _ _ h => absurd h.1 (by simp))) (by kernel_rfl) (by rfl) (by rintro w' ⟨q1, q2, q3, q4⟩; go_simp) hS ?_; go_frame
                refine AnyT.takeD (i := 36) (v := .bool false) rfl rfl (by kernel_rfl) (by kernel_rfl) (by kernel_rfl) (by first | exact (fun _ _ _ h => h) | exact (fun _ _ _ h => absurd h.1 (by simp))) (by kernel_rfl) (by rfl) (by rintro w' ⟨q1, q2, q3, q4⟩; go_simp) hS ?_; go_frame
                refine ⟨by kernel_rfl, ?_⟩
                have HB9 := HBD
                go_wp2
                first
                  | exact ⟨⟨t + 1, by omega, by go_num, by rw [HS1.out], chain HBK.out HB9.out⟩, by simp [intOf]; omega⟩
                  | ((repeat apply Exists.intro); exact ⟨⟨t + 1, by omega, by go_num, by rw [HS1.out], chain HBK.out HB9.out⟩, rfl⟩)
            · have hBA := H13.out rfl
              subst hBA
              obtain rfl : zn = rn := by rw [← HZN.out, ← HRN.out]
              have HSI := hid (fun (X : World) (hX : Below wr.heap.size wr X) => s8Ints_t X ra za zn rc zc (B.getD []) HRN.out HRM.out (HRI.out.below hX) (HZI.out.below hX))
              cases hBs : B.isSome
              · rw [hBs] at hS HSX
                clear hBs H12
                refine AnyT.takeD (i := 0) (v := .slice (some ⟨lb, lo, none⟩) ln lc) rfl rfl (by kernel_rfl) (by kernel_rfl) (by kernel_rfl) (by first | exact (fun _ _ _ h => h) | exact (fun _ _ _ h => absurd h.1 (by simp))) (by kernel_rfl) (by rfl) (by rintro w' ⟨q1, q2, q3, q4⟩; go_simp) hS ?_; go_frame
                refine AnyT.takeD (i := 1) (v := .int .i64 t) rfl rfl (by kernel_rfl) (by kernel_rfl) (by kernel_rfl) (by first | exact (fun _ _ _ h => h) | exact (fun _ _ _ h => absurd h.1 (by simp))) (by kernel_rfl) (by rfl) (by rintro w' ⟨q1, q2, q3, q4⟩; go_simp) hS ?_; go_frame
                refine AnyT.takeD (i := 2) (v := .pointer (some ⟨lb, lo + t, none⟩)) rfl rfl (by kernel_rfl) (by kernel_rfl) (by kernel_rfl) (by first | exact (fun _ _ _ h => h) | exact (fun _ _ _ h => absurd h.1 (by simp))) (by kernel_rfl) (by rfl) (by rintro w' ⟨q1, q2, q3, q4⟩; go_simp) hS ?_; go_frame
                refine AnyT.takeD (i := 3) (v := .bool false) rfl rfl (by kernel_rfl) (by kernel_rfl) (by kernel_rfl) (by first | exact (fun _ _ _ h => h) | exact (fun _ _ _ h => absurd h.1 (by simp))) (by kernel_rfl) (by rfl) (by rintro w' ⟨q1, q2, q3, q4⟩; go_simp) hS ?_; go_frame
                refine AnyT.takeD (i := 4) (v := .bool false) rfl rfl (by kernel_rfl) (by kernel_rfl) (by kernel_rfl) (by first | exact (fun _ _ _ h => h) | exact (fun _ _ _ h => absurd h.1 (by simp))) (by kernel_rfl) (by rfl) (by rintro w' ⟨q1, q2, q3, q4⟩; go_simp) hS ?_; go_frame
                refine AnyT.takeDN (i := 5) rfl rfl (by kernel_rfl) (by kernel_rfl) (by kernel_rfl) (by first | exact (fun _ _ _ h => h) | exact (fun _ _ _ h => absurd h.1 (by simp))) (by kernel_rfl) (by rfl) hS ?_; go_frame
                refine AnyT.takeDN (i := 6) rfl rfl (by kernel_rfl) (by kernel_rfl) (by kernel_rfl) (by first | exact (fun _ _ _ h => h) | exact (fun _ _ _ h => absurd h.1 (by simp))) (by kernel_rfl) (by rfl) hS ?_; go_frame
                refine AnyT.takeDN (i := 7) rfl rfl (by kernel_rfl) (by kernel_rfl) (by kernel_rfl) (by first | exact (fun _ _ _ h => h) | exact (fun _ _ _ h => absurd h.1 (by simp))) (by kernel_rfl) (by rfl) hS ?_; go_frame
                refine AnyT.takeDN (i := 8) rfl rfl (by kernel_rfl) (by kernel_rfl) (by kernel_rfl) (by first | exact (fun _ _ _ h => h) | exact (fun _ _ _ h => absurd h.1 (by simp))) (by kernel_rfl) (by rfl) hS ?_; go_frame
                refine AnyT.takeDN (i := 9) rfl rfl (by kernel_rfl) (by kernel_rfl) (by kernel_rfl) (by first | exact (fun _ _ _ h => h) | exact (fun _ _ _ h => absurd h.1 (by simp))) (by kernel_rfl) (by rfl) hS ?_; go_frame
                refine AnyT.takeD (i := 10) (v := .bool false) rfl rfl (by kernel_rfl) (by kernel_rfl) (by kernel_rfl) (by first | exact (fun _ _ _ h => h) | exact (fun _ _ _ h => absurd h.1 (by simp))) (by kernel_rfl) (by rfl) (by rintro w' ⟨q1, q2, q3, q4⟩; go_simp) hS ?_; go_frame
                refine AnyT.takeD (i := 11) (v := .bool false) rfl rfl (by kernel_rfl) (by kernel_rfl) (by kernel_rfl) (by first | exact (fun _ _ _ h => h) | exact (fun _ _ _ h => absurd h.1 (by simp))) (by kernel_rfl) (by rfl) (by rintro w' ⟨q1, q2, q3, q4⟩; go_simp) hS ?_; go_frame
                refine AnyT.takeD (i := 12) (v := .bool true) rfl rfl (by kernel_rfl) (by kernel_rfl) (by kernel_rfl) (by first | exact (fun _ _ _ h => h) | exact (fun _ _ _ h => absurd h.1 (by simp))) (by kernel_rfl) (by rfl) (by rintro w' ⟨q1, q2, q3, q4⟩; go_simp) hS ?_; go_frame
                refine AnyT.takeD (i := 13) (v := .bool true) rfl rfl (by kernel_rfl) (by kernel_rfl) (by kernel_rfl) (by first | exact (fun _ _ _ h => h) | exact (fun _ _ _ h => absurd h.1 (by simp))) (by kernel_rfl) (by rfl) (by rintro w' ⟨q1, q2, q3, q4⟩; go_simp) hS ?_; go_frame
                refine AnyT.takeD (i := 14) (v := .slice (some ⟨lb, lo, none⟩) ln lc) rfl rfl (by kernel_rfl) (by kernel_rfl) (by kernel_rfl) (by first | exact (fun _ _ _ h => h) | exact (fun _ _ _ h => absurd h.1 (by simp))) (by kernel_rfl) (by rfl) (by rintro w' ⟨q1, q2, q3, q4⟩; go_simp) hS ?_; go_frame
                refine AnyT.takeD (i := 15) (v := .int .i64 t) rfl rfl (by kernel_rfl) (by kernel_rfl) (by kernel_rfl) (by first | exact (fun _ _ _ h => h) | exact (fun _ _ _ h => absurd h.1 (by simp))) (by kernel_rfl) (by rfl) (by rintro w' ⟨q1, q2, q3, q4⟩; go_simp) hS ?_; go_frame
                refine AnyT.takeD (i := 16) (v := .pointer (some ⟨lb, lo + t, none⟩)) rfl rfl (by kernel_rfl) (by kernel_rfl) (by kernel_rfl) (by first | exact (fun _ _ _ h => h) | exact (fun _ _ _ h => absurd h.1 (by simp))) (by kernel_rfl) (by rfl) (by rintro w' ⟨q1, q2, q3, q4⟩; go_simp) hS ?_; go_frame
                refine AnyT.takeD (i := 17) (v := .bool false) rfl rfl (by kernel_rfl) (by kernel_rfl) (by kernel_rfl) (by first | exact (fun _ _ _ h => h) | exact (fun _ _ _ h => absurd h.1 (by simp))) (by kernel_rfl) (by rfl) (by rintro w' ⟨q1, q2, q3, q4⟩; go_simp) hS ?_; go_frame
                refine AnyT.takeD (i := 18) (v := .slice (some ⟨tb, tq, none⟩) ln tc) rfl rfl (by kernel_rfl) (by kernel_rfl) (by kernel_rfl) (by first | exact (fun _ _ _ h => h) | exact (fun _ _ _ h => absurd h.1 (by simp))) (by kernel_rfl) (by rfl) (by rintro w' ⟨q1, q2, q3, q4⟩; go_simp) hS ?_; go_frame
                refine AnyT.takeD (i := 19) (v := .int .i64 t) rfl rfl (by kernel_rfl) (by kernel_rfl) (by kernel_rfl) (by first | exact (fun _ _ _ h => h) | exact (fun _ _ _ h => absurd h.1 (by simp))) (by kernel_rfl) (by rfl) (by rintro w' ⟨q1, q2, q3, q4⟩; go_simp) hS ?_; go_frame
                refine AnyT.takeD (i := 20) (v := .pointer (some ⟨tb, tq + t, none⟩)) rfl rfl (by kernel_rfl) (by kernel_rfl) (by kernel_rfl) (by first | exact (fun _ _ _ h => h) | exact (fun _ _ _ h => absurd h.1 (by simp))) (by kernel_rfl) (by rfl) (by rintro w' ⟨q1, q2, q3, q4⟩; go_simp) hS ?_; go_frame
                refine AnyT.takeD (i := 21) (v := .bool false) rfl rfl (by kernel_rfl) (by kernel_rfl) (by kernel_rfl) (by first | exact (fun _ _ _ h => h) | exact (fun _ _ _ h => absurd h.1 (by simp))) (by kernel_rfl) (by rfl) (by rintro w' ⟨q1, q2, q3, q4⟩; go_simp) hS ?_; go_frame
                refine AnyT.takeD (i := 22) (v := .bool false) rfl rfl (by kernel_rfl) (by kernel_rfl) (by kernel_rfl) (by first | exact (fun _ _ _ h => h) | exact (fun _ _ _ h => absurd h.1 (by simp))) (by kernel_rfl) (by rfl) (by rintro w' ⟨q1, q2, q3, q4⟩; go_simp) hS ?_; go_frame
                refine AnyT.takeD (i := 23) (v := .bool false) rfl rfl (by kernel_rfl) (by kernel_rfl) (by kernel_rfl) (by first | exact (fun _ _ _ h => h) | exact (fun _ _ _ h => absurd h.1 (by simp))) (by kernel_rfl) (by rfl) (by rintro w' ⟨q1, q2, q3, q4⟩; go_simp) hS ?_; go_frame
                refine AnyT.takeD (i := 24) (v := .slice (some ⟨pb, po, none⟩) ln pc) rfl rfl (by kernel_rfl) (by kernel_rfl) (by kernel_rfl) (by first | exact (fun _ _ _ h => h) | exact (fun _ _ _ h => absurd h.1 (by simp))) (by kernel_rfl) (by rfl) (by rintro w' ⟨q1, q2, q3, q4⟩; go_simp) hS ?_; go_frame
                refine AnyT.takeD (i := 25) (v := .int .i64 t) rfl rfl (by kernel_rfl) (by kernel_rfl) (by kernel_rfl) (by first | exact (fun _ _ _ h => h) | exact (fun _ _ _ h => absurd h.1 (by simp))) (by kernel_rfl) (by rfl) (by rintro w' ⟨q1, q2, q3, q4⟩; go_simp) hS ?_; go_frame
                refine AnyT.takeD (i := 26) (v := .pointer (some ⟨pb, po + t, none⟩)) rfl rfl (by kernel_rfl) (by kernel_rfl) (by kernel_rfl) (by first | exact (fun _ _ _ h => h) | exact (fun _ _ _ h => absurd h.1 (by simp))) (by kernel_rfl) (by rfl) (by rintro w' ⟨q1, q2, q3, q4⟩; go_simp) hS ?_; go_frame
                refine AnyT.takeD (i := 27) (v := .slice ra zn rc) rfl rfl (by kernel_rfl) (by kernel_rfl) (by kernel_rfl) (by first | exact (fun _ _ _ h => h) | exact (fun _ _ _ h => absurd h.1 (by simp))) (by kernel_rfl) (by rfl) (by rintro w' ⟨q1, q2, q3, q4⟩; go_simp) hS ?_; go_frame
                refine AnyT.takeD (i := 28) (v := .slice (some ⟨zb, zo, none⟩) ln zc2) rfl rfl (by kernel_rfl) (by kernel_rfl) (by kernel_rfl) (by first | exact (fun _ _ _ h => h) | exact (fun _ _ _ h => absurd h.1 (by simp))) (by kernel_rfl) (by rfl) (by rintro w' ⟨q1, q2, q3, q4⟩; go_simp) hS ?_; go_frame
                refine AnyT.takeD (i := 29) (v := .int .i64 t) rfl rfl (by kernel_rfl) (by kernel_rfl) (by kernel_rfl) (by first | exact (fun _ _ _ h => h) | exact (fun _ _ _ h => absurd h.1 (by simp))) (by kernel_rfl) (by rfl) (by rintro w' ⟨q1, q2, q3, q4⟩; go_simp) hS ?_; go_frame
                refine AnyT.takeD (i := 30) (v := .pointer (some ⟨zb, zo + t, none⟩)) rfl rfl (by kernel_rfl) (by kernel_rfl) (by kernel_rfl) (by first | exact (fun _ _ _ h => h) | exact (fun _ _ _ h => absurd h.1 (by simp))) (by kernel_rfl) (by rfl) (by rintro w' ⟨q1, q2, q3, q4⟩; go_simp) hS ?_; go_frame
                refine AnyT.takeD (i := 31) (v := .slice za zn zc) rfl rfl (by kernel_rfl) (by kernel_rfl) (by kernel_rfl) (by first | exact (fun _ _ _ h => h) | exact (fun _ _ _ h => absurd h.1 (by simp))) (by kernel_rfl) (by rfl) (by rintro w' ⟨q1, q2, q3, q4⟩; go_simp) hS ?_; go_frame
                refine AnyT.next (i := 32) (by kernel_rfl) rfl (wpOp_of_list rfl ?_)
                go_wp2_with (go_at_call 22; refine (HSI.out _ HBD.out).mono ?_; rintro e w9 ⟨rfl, hb9⟩; refine Stop.of ?_)
                refine Stop.go ?_
                have hS9 := HSX.out _ (chain HBD.out hb9)
                go_wp2
                refine ⟨fun _ => hS9, ?_⟩
                clear hS; have hS := hS9; clear hS9
                refine AnyT.takeD (i := 33) (v := .bool false) rfl rfl (by kernel_rfl) (by kernel_rfl) (by kernel_rfl) (by first | exact (fun _ _ _ h => h) | exact (fun _ _ _ h => absurd h.1 (by simp))) (by kernel_rfl) (by rfl) (by rintro w' ⟨q1, q2, q3, q4⟩; go_simp) hS ?_; go_frame
                refine AnyT.takeD (i := 34) (v := .bool false) rfl rfl (by kernel_rfl) (by kernel_rfl) (by kernel_rfl) (by first | exact (fun _ _ _ h => h) | exact (fun _ _ _ h => absurd h.1 (by simp))) (by kernel_rfl) (by rfl) (by rintro w' ⟨q1, q2, q3, q4⟩; go_simp) hS ?_; go_frame
                refine AnyT.takeD (i := 35) (v := .bool false) rfl rfl (by kernel_rfl) (by kernel_rfl) (by kernel_rfl) (by first | exact (fun _ _ _ h => h) | exact (fun _ _ _ h => absurd h.1 (by simp))) (by kernel_rfl) (by rfl) (by rintro w' ⟨q1, q2, q3, q4⟩; go_simp) hS ?_; go_frame
                refine AnyT.takeD (i := 36) (v := .bool false) rfl rfl (by kernel_rfl) (by kernel_rfl) (by kernel_rfl) (by first | exact (fun _ _ _ h => h) | exact (fun _ _ _ h => absurd h.1 (by simp))) (by kernel_rfl) (by rfl) (by rintro w' ⟨q1, q2, q3, q4⟩; go_simp) hS ?_; go_frame
                refine ⟨by kernel_rfl, ?_⟩
                have HB9 := hid (chain HBD.out hb9)
                clear hb9 hS
                go_wp2
                first
                  | exact ⟨⟨t + 1, by omega, by go_num, by rw [HS1.out], chain HBK.out HB9.out⟩, by simp [intOf]; omega⟩
                  | ((repeat apply Exists.intro); exact ⟨⟨t + 1, by omega, by go_num, by rw [HS1.out], chain HBK.out HB9.out⟩, rfl⟩)
              · rw [hBs] at hS HSX
                clear hBs H12
                refine AnyT.takeD (i := 0) (v := .slice (some ⟨lb, lo, none⟩) ln lc) rfl rfl (by kernel_rfl) (by kernel_rfl) (by kernel_rfl) (by first | exact (fun _ _ _ h => h) | exact (fun _ _ _ h => absurd h.1 (by simp))) (by kernel_rfl) (by rfl) (by rintro w' ⟨q1, q2, q3, q4⟩; go_simp) hS ?_; go_frame
                refine AnyT.takeD (i := 1) (v := .int .i64 t) rfl rfl (by kernel_rfl) (by kernel_rfl) (by kernel_rfl) (by first | exact (fun _ _ _ h => h) | exact (fun _ _ _ h => absurd h.1 (by simp))) (by kernel_rfl) (by rfl) (by rintro w' ⟨q1, q2, q3, q4⟩; go_simp) hS ?_; go_frame
                refine AnyT.takeD (i := 2) (v := .pointer (some ⟨lb, lo + t, none⟩)) rfl rfl (by kernel_rfl) (by kernel_rfl) (by kernel_rfl) (by first | exact (fun _ _ _ h => h) | exact (fun _ _ _ h => absurd h.1 (by simp))) (by kernel_rfl) (by rfl) (by rintro w' ⟨q1, q2, q3, q4⟩; go_simp) hS ?_; go_frame
                refine AnyT.takeD (i := 3) (v := .bool true) rfl rfl (by kernel_rfl) (by kernel_rfl) (by kernel_rfl) (by first | exact (fun _ _ _ h => h) | exact (fun _ _ _ h => absurd h.1 (by simp))) (by kernel_rfl) (by rfl) (by rintro w' ⟨q1, q2, q3, q4⟩; go_simp) hS ?_; go_frame
                refine AnyT.takeD (i := 4) (v := .bool true) rfl rfl (by kernel_rfl) (by kernel_rfl) (by kernel_rfl) (by first | exact (fun _ _ _ h => h) | exact (fun _ _ _ h => absurd h.1 (by simp))) (by kernel_rfl) (by rfl) (by rintro w' ⟨q1, q2, q3, q4⟩; go_simp) hS ?_; go_frame
                refine AnyT.takeD (i := 5) (v := .slice (some ⟨tb, tq, none⟩) ln tc) rfl rfl (by kernel_rfl) (by kernel_rfl) (by kernel_rfl) (by first | exact (fun _ _ _ h => h) | exact (fun _ _ _ h => absurd h.1 (by simp))) (by kernel_rfl) (by rfl) (by rintro w' ⟨q1, q2, q3, q4⟩; go_simp) hS ?_; go_frame
                refine AnyT.takeD (i := 6) (v := .int .i64 t) rfl rfl (by kernel_rfl) (by kernel_rfl) (by kernel_rfl) (by first | exact (fun _ _ _ h => h) | exact (fun _ _ _ h => absurd h.1 (by simp))) (by kernel_rfl) (by rfl) (by rintro w' ⟨q1, q2, q3, q4⟩; go_simp) hS ?_; go_frame
                refine AnyT.takeD (i := 7) (v := .pointer (some ⟨tb, tq + t, none⟩)) rfl rfl (by kernel_rfl) (by kernel_rfl) (by kernel_rfl) (by first | exact (fun _ _ _ h => h) | exact (fun _ _ _ h => absurd h.1 (by simp))) (by kernel_rfl) (by rfl) (by rintro w' ⟨q1, q2, q3, q4⟩; go_simp) hS ?_; go_frame
                refine AnyT.takeD (i := 8) (v := .bool true) rfl rfl (by kernel_rfl) (by kernel_rfl) (by kernel_rfl) (by first | exact (fun _ _ _ h => h) | exact (fun _ _ _ h => absurd h.1 (by simp))) (by kernel_rfl) (by rfl) (by rintro w' ⟨q1, q2, q3, q4⟩; go_simp) hS ?_; go_frame
                refine AnyT.takeD (i := 9) (v := .bool false) rfl rfl (by kernel_rfl) (by kernel_rfl) (by kernel_rfl) (by first | exact (fun _ _ _ h => h) | exact (fun _ _ _ h => absurd h.1 (by simp))) (by kernel_rfl) (by rfl) (by rintro w' ⟨q1, q2, q3, q4⟩; go_simp) hS ?_; go_frame
                refine AnyT.takeD (i := 10) (v := .bool false) rfl rfl (by kernel_rfl) (by kernel_rfl) (by kernel_rfl) (by first | exact (fun _ _ _ h => h) | exact (fun _ _ _ h => absurd h.1 (by simp))) (by kernel_rfl) (by rfl) (by rintro w' ⟨q1, q2, q3, q4⟩; go_simp) hS ?_; go_frame
                refine AnyT.takeD (i := 11) (v := .bool false) rfl rfl (by kernel_rfl) (by kernel_rfl) (by kernel_rfl) (by first | exact (fun _ _ _ h => h) | exact (fun _ _ _ h => absurd h.1 (by simp))) (by kernel_rfl) (by rfl) (by rintro w' ⟨q1, q2, q3, q4⟩; go_simp) hS ?_; go_frame
                refine AnyT.takeD (i := 12) (v := .bool true) rfl rfl (by kernel_rfl) (by kernel_rfl) (by kernel_rfl) (by first | exact (fun _ _ _ h => h) | exact (fun _ _ _ h => absurd h.1 (by simp))) (by kernel_rfl) (by rfl) (by rintro w' ⟨q1, q2, q3, q4⟩; go_simp) hS ?_; go_frame
                refine AnyT.takeD (i := 13) (v := .bool true) rfl rfl (by kernel_rfl) (by kernel_rfl) (by kernel_rfl) (by first | exact (fun _ _ _ h => h) | exact (fun _ _ _ h => absurd h.1 (by simp))) (by kernel_rfl) (by rfl) (by rintro w' ⟨q1, q2, q3, q4⟩; go_simp) hS ?_; go_frame
                refine AnyT.takeD (i := 14) (v := .slice (some ⟨lb, lo, none⟩) ln lc) rfl rfl (by kernel_rfl) (by kernel_rfl) (by kernel_rfl) (by first | exact (fun _ _ _ h => h) | exact (fun _ _ _ h => absurd h.1 (by simp))) (by kernel_rfl) (by rfl) (by rintro w' ⟨q1, q2, q3, q4⟩; go_simp) hS ?_; go_frame
                refine AnyT.takeD (i := 15) (v := .int .i64 t) rfl rfl (by kernel_rfl) (by kernel_rfl) (by kernel_rfl) (by first | exact (fun _ _ _ h => h) | exact (fun _ _ _ h => absurd h.1 (by simp))) (by kernel_rfl) (by rfl) (by rintro w' ⟨q1, q2, q3, q4⟩; go_simp) hS ?_; go_frame
                refine AnyT.takeD (i := 16) (v := .pointer (some ⟨lb, lo + t, none⟩)) rfl rfl (by kernel_rfl) (by kernel_rfl) (by kernel_rfl) (by first | exact (fun _ _ _ h => h) | exact (fun _ _ _ h => absurd h.1 (by simp))) (by kernel_rfl) (by rfl) (by rintro w' ⟨q1, q2, q3, q4⟩; go_simp) hS ?_; go_frame
                refine AnyT.takeD (i := 17) (v := .bool true) rfl rfl (by kernel_rfl) (by kernel_rfl) (by kernel_rfl) (by first | exact (fun _ _ _ h => h) | exact (fun _ _ _ h => absurd h.1 (by simp))) (by kernel_rfl) (by rfl) (by rintro w' ⟨q1, q2, q3, q4⟩; go_simp) hS ?_; go_frame
                refine AnyT.takeD (i := 18) (v := .slice (some ⟨tb, tq, none⟩) ln tc) rfl rfl (by kernel_rfl) (by kernel_rfl) (by kernel_rfl) (by first | exact (fun _ _ _ h => h) | exact (fun _ _ _ h => absurd h.1 (by simp))) (by kernel_rfl) (by rfl) (by rintro w' ⟨q1, q2, q3, q4⟩; go_simp) hS ?_; go_frame
                refine AnyT.takeD (i := 19) (v := .int .i64 t) rfl rfl (by kernel_rfl) (by kernel_rfl) (by kernel_rfl) (by first | exact (fun _ _ _ h => h) | exact (fun _ _ _ h => absurd h.1 (by simp))) (by kernel_rfl) (by rfl) (by rintro w' ⟨q1, q2, q3, q4⟩; go_simp) hS ?_; go_frame
                refine AnyT.takeD (i := 20) (v := .pointer (some ⟨tb, tq + t, none⟩)) rfl rfl (by kernel_rfl) (by kernel_rfl) (by kernel_rfl) (by first | exact (fun _ _ _ h => h) | exact (fun _ _ _ h => absurd h.1 (by simp))) (by kernel_rfl) (by rfl) (by rintro w' ⟨q1, q2, q3, q4⟩; go_simp) hS ?_; go_frame
                refine AnyT.takeD (i := 21) (v := .bool true) rfl rfl (by kernel_rfl) (by kernel_rfl) (by kernel_rfl) (by first | exact (fun _ _ _ h => h) | exact (fun _ _ _ h => absurd h.1 (by simp))) (by kernel_rfl) (by rfl) (by rintro w' ⟨q1, q2, q3, q4⟩; go_simp) hS ?_; go_frame
                refine AnyT.takeD (i := 22) (v := .bool false) rfl rfl (by kernel_rfl) (by kernel_rfl) (by kernel_rfl) (by first | exact (fun _ _ _ h => h) | exact (fun _ _ _ h => absurd h.1 (by simp))) (by kernel_rfl) (by rfl) (by rintro w' ⟨q1, q2, q3, q4⟩; go_simp) hS ?_; go_frame
                refine AnyT.takeD (i := 23) (v := .bool false) rfl rfl (by kernel_rfl) (by kernel_rfl) (by kernel_rfl) (by first | exact (fun _ _ _ h => h) | exact (fun _ _ _ h => absurd h.1 (by simp))) (by kernel_rfl) (by rfl) (by rintro w' ⟨q1, q2, q3, q4⟩; go_simp) hS ?_; go_frame
                refine AnyT.takeD (i := 24) (v := .slice (some ⟨pb, po, none⟩) ln pc) rfl rfl (by kernel_rfl) (by kernel_rfl) (by kernel_rfl) (by first | exact (fun _ _ _ h => h) | exact (fun _ _ _ h => absurd h.1 (by simp))) (by kernel_rfl) (by rfl) (by rintro w' ⟨q1, q2, q3, q4⟩; go_simp) hS ?_; go_frame
                refine AnyT.takeD (i := 25) (v := .int .i64 t) rfl rfl (by kernel_rfl) (by kernel_rfl) (by kernel_rfl) (by first | exact (fun _ _ _ h => h) | exact (fun _ _ _ h => absurd h.1 (by simp))) (by kernel_rfl) (by rfl) (by rintro w' ⟨q1, q2, q3, q4⟩; go_simp) hS ?_; go_frame
                refine AnyT.takeD (i := 26) (v := .pointer (some ⟨pb, po + t, none⟩)) rfl rfl (by kernel_rfl) (by kernel_rfl) (by kernel_rfl) (by first | exact (fun _ _ _ h => h) | exact (fun _ _ _ h => absurd h.1 (by simp))) (by kernel_rfl) (by rfl) (by rintro w' ⟨q1, q2, q3, q4⟩; go_simp) hS ?_; go_frame
                refine AnyT.takeD (i := 27) (v := .slice ra zn rc) rfl rfl (by kernel_rfl) (by kernel_rfl) (by kernel_rfl) (by first | exact (fun _ _ _ h => h) | exact (fun _ _ _ h => absurd h.1 (by simp))) (by kernel_rfl) (by rfl) (by rintro w' ⟨q1, q2, q3, q4⟩; go_simp) hS ?_; go_frame
                refine AnyT.takeD (i := 28) (v := .slice (some ⟨zb, zo, none⟩) ln zc2) rfl rfl (by kernel_rfl) (by kernel_rfl) (by kernel_rfl) (by first | exact (fun _ _ _ h => h) | exact (fun _ _ _ h => absurd h.1 (by simp))) (by kernel_rfl) (by rfl) (by rintro w' ⟨q1, q2, q3, q4⟩; go_simp) hS ?_; go_frame
                refine AnyT.takeD (i := 29) (v := .int .i64 t) rfl rfl (by kernel_rfl) (by kernel_rfl) (by kernel_rfl) (by first | exact (fun _ _ _ h => h) | exact (fun _ _ _ h => absurd h.1 (by simp))) (by kernel_rfl) (by rfl) (by rintro w' ⟨q1, q2, q3, q4⟩; go_simp) hS ?_; go_frame
                refine AnyT.takeD (i := 30) (v := .pointer (some ⟨zb, zo + t, none⟩)) rfl rfl (by kernel_rfl) (by kernel_rfl) (by kernel_rfl) (by first | exact (fun _ _ _ h => h) | exact (fun _ _ _ h => absurd h.1 (by simp))) (by kernel_rfl) (by rfl) (by rintro w' ⟨q1, q2, q3, q4⟩; go_simp) hS ?_; go_frame
                refine AnyT.takeD (i := 31) (v := .slice za zn zc) rfl rfl (by kernel_rfl) (by kernel_rfl) (by kernel_rfl) (by first | exact (fun _ _ _ h => h) | exact (fun _ _ _ h => absurd h.1 (by simp))) (by kernel_rfl) (by rfl) (by rintro w' ⟨q1, q2, q3, q4⟩; go_simp) hS ?_; go_frame
                refine AnyT.next (i := 32) (by kernel_rfl) rfl (wpOp_of_list rfl ?_)
                go_wp2_with (go_at_call 22; refine (HSI.out _ HBD.out).mono ?_; rintro e w9 ⟨rfl, hb9⟩; refine Stop.of ?_)
                refine Stop.go ?_
                have hS9 := HSX.out _ (chain HBD.out hb9)
                go_wp2
                refine ⟨fun _ => hS9, ?_⟩
                clear hS; have hS := hS9; clear hS9
                refine AnyT.takeD (i := 33) (v := .bool false) rfl rfl (by kernel_rfl) (by kernel_rfl) (by kernel_rfl) (by first | exact (fun _ _ _ h => h) | exact (fun _ _ _ h => absurd h.1 (by simp))) (by kernel_rfl) (by rfl) (by rintro w' ⟨q1, q2, q3, q4⟩; go_simp) hS ?_; go_frame
                refine AnyT.takeD (i := 34) (v := .bool false) rfl rfl (by kernel_rfl) (by kernel_rfl) (by kernel_rfl) (by first | exact (fun _ _ _ h => h) | exact (fun _ _ _ h => absurd h.1 (by simp))) (by kernel_rfl) (by rfl) (by rintro w' ⟨q1, q2, q3, q4⟩; go_simp) hS ?_; go_frame
                refine AnyT.takeD (i := 35) (v := .bool false) rfl rfl (by kernel_rfl) (by kernel_rfl) (by kernel_rfl) (by first | exact (fun _ _ _ h => h) | exact (fun _ _ _ h => absurd h.1 (by simp))) (by kernel_rfl) (by rfl) (by rintro w' ⟨q1, q2, q3, q4⟩; go_simp) hS ?_; go_frame
                refine AnyT.takeD (i := 36) (v := .bool false) rfl rfl (by kernel_rfl) (by kernel_rfl) (by kernel_rfl) (by first | exact (fun _ _ _ h => h) | exact (fun _ _ _ h => absurd h.1 (by simp))) (by kernel_rfl) (by rfl) (by rintro w' ⟨q1, q2, q3, q4⟩; go_simp) hS ?_; go_frame
                refine ⟨by kernel_rfl, ?_⟩
                have HB9 := hid (chain HBD.out hb9)
                clear hb9 hS
                go_wp2
                first
                  | exact ⟨⟨t + 1, by omega, by go_num, by rw [HS1.out], chain HBK.out HB9.out⟩, by simp [intOf]; omega⟩
                  | ((repeat apply Exists.intro); exact ⟨⟨t + 1, by omega, by go_num, by rw [HS1.out], chain HBK.out HB9.out⟩, rfl⟩)
        · go_wp2_with first
            | (go_at_call 8; refine (awake8_c _).mono ?_; rintro e w12 ⟨rfl, hb12⟩)
          go_ret
          exact ⟨rfl, chain (chain HB10.out hbk) hb12⟩
end Go.Proofs.YtkmjeegnijohmaaGreat

namespace Go.Proofs.YtkmjeegnijohmaaGreat
open Go.ChangeShapes Go.WideShapes Go.ChangeAt Go.RowKit Go.Deep
set_option linter.unusedVariables false

section
variable {H : Type} {enc : TypeId × Value → H} {P : Program} {w : World} {base : Nat} {held : Bool}
theorem arg_frames {r : Reach} {b0 : Nat} {t c q : TypeId} {f0 f1 : Field} {v : Value} {d : DataW H} {p : List MemPlace} (ht : P.underlying t = some (.slice c)) (hs : P.underlying c = some (.struct #[f0, f1])) (hone : oneCellFields P #[f0, f1] = true) (hC : P.cellsOf c = 2)
    (he0 : P.underlying f0.type = some .bool) (he1 : P.underlying f1.type = some (.slice q)) (hq : P.underlying q = some (.int .i64)) (cq : P.cellsOf q = 1)
    (hv : Value.okWide P w r b0 t v) (h : DataW.Trod enc P w base (fun _ => true) held t v d p) : ∃ a n cap, ∃ l : List Frm, v = .slice a n cap ∧ l.length = n ∧ n ≤ maxLen ∧ FramesAt w a l ∧ ∀ y ∈ l, ∀ z ∈ y.2, Fits64 z := by
  obtain ⟨a, n, cap, rfl⟩ := okWide_slice ht hv
  obtain ⟨fuel, hf⟩ := h
  rcases open_slice ht (by simpa [Value.cells] using hf) with ⟨hcs, _⟩ | ⟨x, len, c', m, nn, D, Pl, hcs, _, hl, hm, hmm, _, hx⟩
  · simp at hcs
    obtain ⟨rfl, rfl, rfl⟩ := hcs
    exact ⟨none, 0, 0, [], rfl, rfl, by decide, fun j hj => by simp at hj, fun y hy => by simp at hy⟩
  simp at hcs
  obtain ⟨rfl, rfl, rfl⟩ := hcs
  simp only [if_true] at hmm
  obtain ⟨o0, k0⟩ := hone_of hone 0 f0 rfl
  obtain ⟨o1, k1⟩ := hone_of hone 1 f1 rfl
  have hsl : ∀ {fuel : Nat} {e : TypeId} (he : P.underlying e = some (.slice q)) {v0 : Value} {x : DataW H × List MemPlace}, DataW.trod enc P w base (fun _ => true) held fuel e [v0] = some x → ∃ ra rn rc, v0 = .slice ra rn rc := by
    intro fuel e he v0 x k0
    rcases open_ints he hq cq k0 with ⟨hcs, _⟩ | ⟨x, l, c, zs, hcs, _⟩
    · simp at hcs; exact ⟨_, _, _, hcs⟩
    · simp at hcs; exact ⟨_, _, _, hcs⟩
  have each : ∀ i, i < n → ∃ y : Frm × (Option Addr × Nat × Nat), w.cell? (x.add (i * 2)) = some (.bool y.1.1) ∧ w.cell? ((x.add (i * 2)).add 1) = some (.slice y.2.1 y.2.2.1 y.2.2.2) ∧
      y.1.2.length = y.2.2.1 ∧ y.2.2.1 ≤ maxLen ∧ IntsAt w y.2.1 y.1.2 ∧ (∀ z ∈ y.1.2, Fits64 z) := by
    intro i hi
    obtain ⟨cs', hc, htr⟩ := hx i (by omega)
    rw [hC] at hc
    obtain ⟨_, hlen, hcell⟩ := World.cells?_some hc
    match cs', hlen with
    | [c0, c1], _ =>
      obtain ⟨y0, y1, n', _, _, t0, t1⟩ := trod_struct2 hs htr
      rw [o0, k0] at t0
      rw [o1, k1] at t1
      simp at t0 t1
      obtain ⟨kf, e0, _⟩ := DataW.trod_bool he0 t0
      simp at e0
      subst e0
      obtain ⟨ra, rn, rc, rfl⟩ := hsl he1 t1
      obtain ⟨l1, q1, q2, q3, q4⟩ := ints_opened he1 hq cq t1
      have hc0 := hcell 0 (by omega)
      rw [show (x.add (i * 2)).add 0 = x.add (i * 2) from rfl] at hc0
      exact ⟨((kf, l1), (ra, rn, rc)), by simpa using hc0, by simpa using hcell 1 (by omega), q1, q2, q3, q4⟩
  haveI : Inhabited (Frm × (Option Addr × Nat × Nat)) := ⟨((false, []), (none, 0, 0))⟩
  obtain ⟨y, hy⟩ := choose_lt each
  refine ⟨some x, n, cap, (List.range n).map fun i => (y i).1, rfl, by simp, by omega, fun j hj => ?_, fun z hz => ?_⟩
  · have hjn : j < n := by simpa using hj
    have hp := cell_plain (hy 0 (by omega)).1
    simp only [Addr.add, Nat.zero_mul, if_true] at hp
    obtain ⟨b, o, s⟩ := x
    have hs' : s = none := by have := hp.1; simp at this; exact this
    subst hs'
    obtain ⟨r0, r1, r3, r4, r5, r6⟩ := hy j hjn
    rw [add_plain] at r0 r1
    rw [add_plain] at r1
    refine ⟨b, o, (y j).2.1, (y j).2.2.1, (y j).2.2.2, rfl, hp.2, ?_, r1, ?_, r4, ?_⟩ <;> simp only [List.getElem_map, List.getElem_range] <;> assumption
  · obtain ⟨i, hi, rfl⟩ := List.mem_map.1 hz
    obtain ⟨r0, r1, r3, r4, r5, r6⟩ := hy i (List.mem_range.1 hi)
    exact r6
end
end Go.Proofs.YtkmjeegnijohmaaGreat
