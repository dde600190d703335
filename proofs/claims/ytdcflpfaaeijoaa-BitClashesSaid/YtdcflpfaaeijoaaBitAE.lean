/- Walks: Next of both packages. -/
import Derived.Test.YtdcflpfaaeijoaaBitAD
namespace Go.Proofs.Ytdcflpfaaeijoaa
open Go.RowKit Go.Maps
set_option linter.unusedVariables false

def nextE (p t : Int) (l : List Cel) (ls : List (List Int)) : Int := if rowsE p t l ls = 0 then (if fitting p.toNat t.toNat l = [] then 8 else 0) else rowsE p t l ls
def nextR (p t : Int) (l : List Cel) (ls : List (List Int)) : Int := if nextE p t l ls = 0 then (bestR (fitting p.toNat t.toNat l) ls (ls.length - 1) : Nat) else 0
def nextT (p t : Int) (l : List Cel) (ls : List (List Int)) : Int := if nextE p t l ls = 0 then rT (fitting p.toNat t.toNat l) ls (bestR (fitting p.toNat t.toNat l) ls (ls.length - 1)) else 0

theorem rowsE_zero {p t : Int} {l : List Cel} {ls : List (List Int)} (h : rowsE p t l ls = 0) : okCells p t l = true ∧ rowsOk p ls = true ∧ 1 ≤ ls.length ∧ ls.length ≤ 20 := by
  unfold rowsE at h
  split at h
  · rename_i h1
    split at h
    · rename_i h2
      simp only [Bool.and_eq_true] at h1
      simp only [inB, Bool.and_eq_true, decide_eq_true_eq] at h2
      exact ⟨h1.1, h1.2, by omega, by omega⟩
    · omega
  · omega

set_option maxRecDepth 100000 in
theorem nextP_c (w : World) (p t : Int) (a : Option Addr) (n cap : Nat) (l : List Cel) (hn : l.length = n) (hm : n ≤ maxLen) (H : CellsAt w a l)
    (a2 : Option Addr) (n2 cap2 : Nat) (ls : List (List Int)) (hn2 : ls.length = n2) (hm2 : n2 ≤ maxLen) (H2 : RowsAt w a2 ls) :
    Calls Try.prog 47 #[.agg #[.int .i64 p, .int .i64 t], .slice a n cap, .slice a2 n2 cap2] w fun e w' => e = .returned (.tuple #[.int .i64 (nextR p t l ls), .int .i64 (nextT p t l ls), .int .i64 (nextE p t l ls)]) ∧ Below w.heap.size w w' := by
  have hb0 : Below w.heap.size w (w.alloc (.cells #[.int .i64 p, .int .i64 t] 23)) := (Below.refl _ _).alloc (Nat.le_refl _) _
  have HR := hid (fun (W : World) (hb : Below w.heap.size w W) => rows_c W p t a n cap l hn hm (H.below hb) a2 n2 cap2 ls hn2 hm2 (H2.below hb))
  by_cases hE : rowsE p t l ls = 0
  · obtain ⟨hf, hrk, hl1, hl2⟩ := rowsE_zero hE
    obtain ⟨hfd, hrows⟩ := okCells_bd hf
    obtain ⟨p1, p8, t0, t3⟩ := okField_bd hfd
    obtain ⟨P, rfl⟩ := Int.eq_ofNat_of_zero_le (show 0 ≤ p by omega)
    obtain ⟨T, rfl⟩ := Int.eq_ofNat_of_zero_le t0
    have hP : P ≤ 8 := by omega
    have hT : T ≤ 3 := by omega
    have e0 : nextE (P : Int) (T : Int) l ls = if fitting P T l = [] then 8 else 0 := by simp [nextE, hE]
    have e1 : nextR (P : Int) (T : Int) l ls = if fitting P T l = [] then 0 else (bestR (fitting P T l) ls (ls.length - 1) : Nat) := by rw [nextR, e0]; split <;> simp
    have e2 : nextT (P : Int) (T : Int) l ls = if fitting P T l = [] then 0 else rT (fitting P T l) ls (bestR (fitting P T l) ls (ls.length - 1)) := by rw [nextT, e0]; split <;> simp
    rw [e0, e1, e2]
    rw [hE] at HR
    have HL := hid (fun (W : World) (hb : Below w.heap.size w W) => left_c W P T hP hT a n cap l hn hm (H.below hb) hrows)
    have hfl : ∀ x ∈ fitting P T l, ∀ r ∈ ls, r.length ≤ x.length := fun x hx r hr => by
      have h1 := fitting_len hx
      have h2 := (okRow_len (List.all_eq_true.1 hrk r hr)).1
      omega
    have hfz := fitting_le hP hT l
    obtain ⟨F, hF⟩ : ∃ F, F = fitting P T l := ⟨_, rfl⟩
    rw [← hF] at HL hfl hfz ⊢
    have HS := hid (fun (W : World) (hb : Below w.heap.size w W) (a3 : Option Addr) (c3 : Nat) (H3 : RowsAt W a3 F) => next_c W a3 F.length c3 F rfl hfz H3 a2 n2 cap2 ls hn2 (by omega) hm2 (H2.below hb) hfl)
    rw [hn2]
    obtain ⟨N1, hN1⟩ : ∃ N, N = bestR F ls (n2 - 1) := ⟨_, rfl⟩
    rw [← hN1] at HS ⊢
    obtain ⟨N2, hN2⟩ : ∃ N, N = rT F ls N1 := ⟨_, rfl⟩
    obtain ⟨N3, hN3⟩ : ∃ N, N = rL F ls N1 := ⟨_, rfl⟩
    rw [← hN2, ← hN3] at HS
    rw [← hN2]
    have HE := hid hE
    clear hN1 hN2 hN3
    clear e0 e1 e2 hn H hn2 H2 hrows hF hfl hE hl1 hl2
    by_cases hnil : F = []
    · rw [if_pos hnil, if_pos hnil, if_pos hnil]
      subst hnil
      go_enter Try.func47, Try.ntmps47
      go_wp2_with (first
        | (go_at_call 87; refine (HR.out _ hb0).mono ?_; rintro e w1 ⟨rfl, hb1⟩; obtain ⟨hc1, hf1⟩ := bcell hb1; have hbw1 := chain hb0 hb1)
        | (go_at_call 65; refine (HL.out _ hbw1).mono ?_; rintro e w4 ⟨v, base, rfl, hbase, hR, hb4⟩; refine Stop.of ?_))
      refine Stop.go ?_
      obtain ⟨a4, c4, rfl, hl4, _, _⟩ := hR.reads
      clear hR
      go_wp2
      go_ret3
      exact ⟨rfl, chain hbw1 hb4⟩
    · rw [if_neg hnil, if_neg hnil, if_neg hnil]
      have hpos : 0 < F.length := List.length_pos_iff.2 hnil
      have hne : ((F.length : Int) == 0) = false := by simp [hnil]
      obtain ⟨len, hlen⟩ : ∃ len, len = F.length := ⟨_, rfl⟩
      rw [← hlen] at hpos hne hfz HS
      have HLE := hid hlen
      clear hlen hnil
      go_enter Try.func47, Try.ntmps47
      go_wp2_with (first
        | (go_at_call 87; refine (HR.out _ hb0).mono ?_; rintro e w1 ⟨rfl, hb1⟩; obtain ⟨hc1, hf1⟩ := bcell hb1; have hbw1 := chain hb0 hb1)
        | (go_at_call 65; refine (HL.out _ hbw1).mono ?_; rintro e w4 ⟨v, base, rfl, hbase, hR, hb4⟩; refine Stop.of ?_))
      refine Stop.go ?_
      obtain ⟨a4, c4, rfl, hl4, hreads, _⟩ := hR.reads
      rw [← HLE.out] at hl4 ⊢
      have HS2 := hid (HS.out w4 (chain hbw1 hb4) a4 c4 hreads)
      clear hR hreads HS
      unfold maxLen at hl4
      go_wp2_with (go_at_call 88; refine HS2.out.mono ?_; rintro e w6 ⟨rfl, hb6⟩)
      go_ret3
      exact ⟨rfl, chain (chain hbw1 hb4) hb6⟩
  · have hE1 : (rowsE p t l ls != 0) = true := by simp [hE]
    have e0 : nextE p t l ls = rowsE p t l ls := by rw [nextE, if_neg hE]
    have e1 : nextR p t l ls = 0 := by rw [nextR, e0, if_neg hE]
    have e2 : nextT p t l ls = 0 := by rw [nextT, e0, if_neg hE]
    rw [e0, e1, e2]
    have HE := hid hE
    clear e0 e1 e2 hE hn H hn2 H2
    go_enter Try.func47, Try.ntmps47
    go_wp2_with (go_at_call 87; refine (HR.out _ hb0).mono ?_; rintro e w1 ⟨rfl, hb1⟩)
    go_ret3
    exact ⟨rfl, chain hb0 hb1⟩

set_option maxRecDepth 100000 in
theorem refNextP_c (w : World) (p t : Int) (a : Option Addr) (n cap : Nat) (l : List Cel) (hn : l.length = n) (hm : n ≤ maxLen) (H : CellsAt w a l)
    (a2 : Option Addr) (n2 cap2 : Nat) (ls : List (List Int)) (hn2 : ls.length = n2) (hm2 : n2 ≤ maxLen) (H2 : RowsAt w a2 ls) :
    Calls Try.prog 48 #[.agg #[.int .i64 p, .int .i64 t], .slice a n cap, .slice a2 n2 cap2] w fun e w' => e = .returned (.tuple #[.int .i64 (nextR p t l ls), .int .i64 (nextT p t l ls), .int .i64 (nextE p t l ls)]) ∧ Below w.heap.size w w' := by
  have hb0 : Below w.heap.size w (w.alloc (.cells #[.int .i64 p, .int .i64 t] 23)) := (Below.refl _ _).alloc (Nat.le_refl _) _
  have HV := hid (fun (W : World) (hb : Below w.heap.size w W) => refValidCells_c W p t a n cap l hn hm (H.below hb))
  have HR := hid (fun (W : World) (hb : Below w.heap.size w W) => validRows_c W p t a2 n2 cap2 ls hn2 hm2 (H2.below hb))
  have HFld := hid (fun (W : World) (hb : Below (w.alloc (.cells #[.int .i64 p, .int .i64 t] 23)).heap.size (w.alloc (.cells #[.int .i64 p, .int .i64 t] 23)) W) => show W.cell? ⟨w.heap.size, 0, none⟩ = some (.int .i64 p) ∧ W.cell? ⟨w.heap.size, 1, none⟩ = some (.int .i64 t) from
    ⟨(hb.cell (p := ⟨w.heap.size, 0, none⟩) (by simp)).trans (by rw [World.cell?_alloc_at _ _ _ _ rfl]; rfl), (hb.cell (p := ⟨w.heap.size, 1, none⟩) (by simp)).trans (by rw [World.cell?_alloc_at _ _ _ _ rfl]; rfl)⟩)
  by_cases hE : rowsE p t l ls = 0
  · obtain ⟨hf, hrk, hl1, hl2⟩ := rowsE_zero hE
    obtain ⟨hfd, hrows⟩ := okCells_bd hf
    obtain ⟨p1, p8, t0, t3⟩ := okField_bd hfd
    obtain ⟨P, rfl⟩ := Int.eq_ofNat_of_zero_le (show 0 ≤ p by omega)
    obtain ⟨T, rfl⟩ := Int.eq_ofNat_of_zero_le t0
    have hP : P ≤ 8 := by omega
    have hT : T ≤ 3 := by omega
    have e0 : nextE (P : Int) (T : Int) l ls = if fitting P T l = [] then 8 else 0 := by simp [nextE, hE]
    have e1 : nextR (P : Int) (T : Int) l ls = if fitting P T l = [] then 0 else (bestR (fitting P T l) ls (ls.length - 1) : Nat) := by rw [nextR, e0]; split <;> simp
    have e2 : nextT (P : Int) (T : Int) l ls = if fitting P T l = [] then 0 else rT (fitting P T l) ls (bestR (fitting P T l) ls (ls.length - 1)) := by rw [nextT, e0]; split <;> simp
    rw [e0, e1, e2]
    rw [hf] at HV
    rw [hrk] at HR
    have hin : inB (n2 : Int) 1 20 = true := by simp [inB]; omega
    have HL := hid (fun (W : World) (hb : Below w.heap.size w W) => refFitting_c W P T hP hT a n cap l hn hm (H.below hb) hrows)
    have hfl : ∀ x ∈ fitting P T l, ∀ r ∈ ls, r.length ≤ x.length := fun x hx r hr => by
      have h1 := fitting_len hx
      have h2 := (okRow_len (List.all_eq_true.1 hrk r hr)).1
      omega
    have hfz := fitting_le hP hT l
    obtain ⟨F, hF⟩ : ∃ F, F = fitting P T l := ⟨_, rfl⟩
    rw [← hF] at HL hfl hfz ⊢
    have HS := hid (fun (W : World) (hb : Below w.heap.size w W) (a3 : Option Addr) (c3 : Nat) (H3 : RowsAt W a3 F) => refNext_c W a3 F.length c3 F rfl hfz H3 a2 n2 cap2 ls hn2 (by omega) hm2 (H2.below hb) hfl)
    rw [hn2]
    obtain ⟨N1, hN1⟩ : ∃ N, N = bestR F ls (n2 - 1) := ⟨_, rfl⟩
    rw [← hN1] at HS ⊢
    obtain ⟨N2, hN2⟩ : ∃ N, N = rT F ls N1 := ⟨_, rfl⟩
    obtain ⟨N3, hN3⟩ : ∃ N, N = rG F ls N1 := ⟨_, rfl⟩
    rw [← hN2, ← hN3] at HS
    rw [← hN2]
    have HE := hid hE
    unfold maxLen at hm2
    clear hN1 hN2 hN3
    clear e0 e1 e2 hn H hn2 H2 hrows hF hfl hE
    by_cases hnil : F = []
    · rw [if_pos hnil, if_pos hnil, if_pos hnil]
      subst hnil
      go_enter Try.func48, Try.ntmps48
      go_wp2_with (first
      | (go_at_call 22; refine (HV.out _ hb0).mono ?_; rintro e w1 ⟨rfl, hb1⟩; obtain ⟨f0, f1⟩ := HFld.out _ hb1; have hbw1 := chain hb0 hb1)
      | (go_at_call 89; refine (HR.out _ hbw1).mono ?_; rintro e w2 ⟨rfl, hb2⟩; obtain ⟨g0, g1⟩ := HFld.out _ (chain hb1 hb2); have hbw2 := chain hbw1 hb2)
      | (go_at_call 60; refine (in_c _ _ _ _).mono ?_; rintro e w3 ⟨rfl, rfl⟩)
      | (go_at_call 71; refine (HL.out _ hbw2).mono ?_; rintro e w4 ⟨v, base, rfl, hbase, hR, hb4⟩; refine Stop.of ?_))
      refine Stop.go ?_
      obtain ⟨a4, c4, rfl, hl4, _, _⟩ := hR.reads
      clear hR
      go_wp2
      go_ret3
      exact ⟨rfl, chain hbw2 hb4⟩
    · rw [if_neg hnil, if_neg hnil, if_neg hnil]
      have hpos : 0 < F.length := List.length_pos_iff.2 hnil
      have hne : ((F.length : Int) == 0) = false := by simp [hnil]
      obtain ⟨len, hlen⟩ : ∃ len, len = F.length := ⟨_, rfl⟩
      rw [← hlen] at hpos hne hfz HS
      have HLE := hid hlen
      clear hlen hnil
      go_enter Try.func48, Try.ntmps48
      go_wp2_with (first
      | (go_at_call 22; refine (HV.out _ hb0).mono ?_; rintro e w1 ⟨rfl, hb1⟩; obtain ⟨f0, f1⟩ := HFld.out _ hb1; have hbw1 := chain hb0 hb1)
      | (go_at_call 89; refine (HR.out _ hbw1).mono ?_; rintro e w2 ⟨rfl, hb2⟩; obtain ⟨g0, g1⟩ := HFld.out _ (chain hb1 hb2); have hbw2 := chain hbw1 hb2)
      | (go_at_call 60; refine (in_c _ _ _ _).mono ?_; rintro e w3 ⟨rfl, rfl⟩)
      | (go_at_call 71; refine (HL.out _ hbw2).mono ?_; rintro e w4 ⟨v, base, rfl, hbase, hR, hb4⟩; refine Stop.of ?_))
      refine Stop.go ?_
      obtain ⟨a4, c4, rfl, hl4, hreads, _⟩ := hR.reads
      rw [← HLE.out] at hl4 ⊢
      have HS2 := hid (HS.out w4 (chain hbw2 hb4) a4 c4 hreads)
      clear hR hreads HS
      unfold maxLen at hl4
      go_wp2_with (go_at_call 90; refine HS2.out.mono ?_; rintro e w6 ⟨rfl, hb6⟩)
      go_ret3
      exact ⟨rfl, chain (chain hbw2 hb4) hb6⟩
  · have e0 : nextE p t l ls = rowsE p t l ls := by rw [nextE, if_neg hE]
    have e1 : nextR p t l ls = 0 := by rw [nextR, e0, if_neg hE]
    have e2 : nextT p t l ls = 0 := by rw [nextT, e0, if_neg hE]
    rw [e0, e1, e2]
    clear e0 e1 e2
    have HN2 := hid hn2
    unfold maxLen at hm2
    cases hf : okCells p t l
    · have e3 : rowsE p t l ls = 1 := by simp [rowsE, hf]
      rw [e3]
      rw [hf] at HV
      clear e3 hE hn H hn2 H2
      go_enter Try.func48, Try.ntmps48
      go_wp2_with (first
      | (go_at_call 22; refine (HV.out _ hb0).mono ?_; rintro e w1 ⟨rfl, hb1⟩; obtain ⟨f0, f1⟩ := HFld.out _ hb1; have hbw1 := chain hb0 hb1)
      | (go_at_call 89; refine (HR.out _ hbw1).mono ?_; rintro e w2 ⟨rfl, hb2⟩; obtain ⟨g0, g1⟩ := HFld.out _ (chain hb1 hb2); have hbw2 := chain hbw1 hb2)
      | (go_at_call 60; refine (in_c _ _ _ _).mono ?_; rintro e w3 ⟨rfl, rfl⟩))
      go_ret3
      exact ⟨rfl, hbw1⟩
    cases hr : rowsOk p ls
    · have e3 : rowsE p t l ls = 1 := by simp [rowsE, hf, hr]
      rw [e3]
      rw [hf] at HV
      rw [hr] at HR
      clear e3 hE hn H hn2 H2
      go_enter Try.func48, Try.ntmps48
      go_wp2_with (first
      | (go_at_call 22; refine (HV.out _ hb0).mono ?_; rintro e w1 ⟨rfl, hb1⟩; obtain ⟨f0, f1⟩ := HFld.out _ hb1; have hbw1 := chain hb0 hb1)
      | (go_at_call 89; refine (HR.out _ hbw1).mono ?_; rintro e w2 ⟨rfl, hb2⟩; obtain ⟨g0, g1⟩ := HFld.out _ (chain hb1 hb2); have hbw2 := chain hbw1 hb2)
      | (go_at_call 60; refine (in_c _ _ _ _).mono ?_; rintro e w3 ⟨rfl, rfl⟩))
      go_ret3
      exact ⟨rfl, hbw2⟩
    have hin : inB (n2 : Int) 1 20 = false := by
      cases h : inB (n2 : Int) 1 20
      · rfl
      · exfalso; apply hE; rw [← hn2] at h; simp [rowsE, hf, hr, h]
    have e3 : rowsE p t l ls = 7 := by rw [← hn2] at hin; simp [rowsE, hf, hr, hin]
    rw [e3]
    rw [hf] at HV
    rw [hr] at HR
    clear e3 hE hn H hn2 H2
    go_enter Try.func48, Try.ntmps48
    go_wp2_with (first
      | (go_at_call 22; refine (HV.out _ hb0).mono ?_; rintro e w1 ⟨rfl, hb1⟩; obtain ⟨f0, f1⟩ := HFld.out _ hb1; have hbw1 := chain hb0 hb1)
      | (go_at_call 89; refine (HR.out _ hbw1).mono ?_; rintro e w2 ⟨rfl, hb2⟩; obtain ⟨g0, g1⟩ := HFld.out _ (chain hb1 hb2); have hbw2 := chain hbw1 hb2)
      | (go_at_call 60; refine (in_c _ _ _ _).mono ?_; rintro e w3 ⟨rfl, rfl⟩))
    go_ret3
    exact ⟨rfl, hbw2⟩
end Go.Proofs.Ytdcflpfaaeijoaa
