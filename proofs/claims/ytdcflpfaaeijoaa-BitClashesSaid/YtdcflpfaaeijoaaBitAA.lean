/- Walks: Halve of both packages. -/
import Derived.Test.YtdcflpfaaeijoaaBitZ
namespace Go.Proofs.Ytdcflpfaaeijoaa
open Go.RowKit Go.Maps
set_option linter.unusedVariables false

def halveE (p t : Int) (l : List Cel) (row : List Int) : Int := if okCells p t l && okRow p row then (if fitting p.toNat t.toNat l = [] then 8 else 0) else 1
def halveV (p t : Int) (l : List Cel) (row : List Int) : Int := if halveE p t l row = 0 then bestT ((fitting p.toNat t.toNat l).map (dotW row)) 199 else 0

set_option maxRecDepth 100000 in
theorem refHalveP_c (w : World) (p t : Int) (a : Option Addr) (n cap : Nat) (l : List Cel) (hn : l.length = n) (hm : n ≤ maxLen) (H : CellsAt w a l)
    (a2 : Option Addr) (n2 cap2 : Nat) (row : List Int) (hn2 : row.length = n2) (hm2 : n2 ≤ maxLen) (H2 : IntsAt w a2 row) :
    Calls Try.prog 46 #[.agg #[.int .i64 p, .int .i64 t], .slice a n cap, .slice a2 n2 cap2] w fun e w' => e = .returned (.tuple #[.int .i64 (halveV p t l row), .int .i64 (halveE p t l row)]) ∧ Below w.heap.size w w' := by
  have hb0 : Below w.heap.size w (w.alloc (.cells #[.int .i64 p, .int .i64 t] 23)) := (Below.refl _ _).alloc (Nat.le_refl _) _
  have HV := hid (fun (W : World) (hb : Below w.heap.size w W) => celled_c W p t a n cap l hn hm (H.below hb) a2 n2 cap2 row hn2 hm2 (H2.below hb))
  cases hc : okCells p t l && okRow p row
  · have e0 : halveE p t l row = 1 := by simp [halveE, hc]
    have e1 : halveV p t l row = 0 := by simp [halveV, e0]
    have e3 : celledE p t l row = 1 := by simp [celledE, hc]
    rw [e0, e1]
    rw [e3] at HV
    clear e0 e1 e3 hn H hn2 H2
    go_enter Try.func46, Try.ntmps46
    go_wp2_with (go_at_call 69; refine (HV.out _ hb0).mono ?_; rintro e w1 ⟨rfl, hb1⟩; obtain ⟨hc1, hf1⟩ := bcell hb1)
    go_ret2
    exact ⟨rfl, chain hb0 hb1⟩
  have e3 : celledE p t l row = 0 := by simp [celledE, hc]
  rw [e3] at HV
  clear e3
  obtain ⟨hf, hr⟩ := (Bool.and_eq_true _ _).mp hc
  obtain ⟨hfd, hrows⟩ := okCells_bd hf
  obtain ⟨p1, p8, t0, t3⟩ := okField_bd hfd
  obtain ⟨P, rfl⟩ := Int.eq_ofNat_of_zero_le (show 0 ≤ p by omega)
  obtain ⟨T, rfl⟩ := Int.eq_ofNat_of_zero_le t0
  have hP : P ≤ 8 := by omega
  have hT : T ≤ 3 := by omega
  have e0 : halveE (P : Int) (T : Int) l row = if fitting P T l = [] then 8 else 0 := by simp [halveE, hf, hr]
  have e1 : halveV (P : Int) (T : Int) l row = if fitting P T l = [] then 0 else bestT ((fitting P T l).map (dotW row)) 199 := by rw [halveV, e0]; split <;> simp
  rw [e0, e1]
  have HL := hid (fun (W : World) (hb : Below w.heap.size w W) => refFitting_c W P T hP hT a n cap l hn hm (H.below hb) hrows)
  have hfl : ∀ x ∈ fitting P T l, x.length = P := fun x hx => fitting_len hx
  have hfz := fitting_le hP hT l
  have hrl := (okRow_len hr).1
  obtain ⟨F, hF⟩ : ∃ F, F = fitting P T l := ⟨_, rfl⟩
  rw [← hF] at HL hfl hfz ⊢
  have HS := hid (fun (W : World) (hb : Below w.heap.size w W) (a3 : Option Addr) (c3 : Nat) (H3 : RowsAt W a3 F) => refHalve_c W a3 F.length c3 F rfl hfz H3 a2 n2 cap2 row hn2 hm2 (H2.below hb) (fun x hx => by rw [hfl x hx]; omega))
  obtain ⟨N1, hN1⟩ : ∃ N, N = bestT (F.map (dotW row)) 199 := ⟨_, rfl⟩
  rw [← hN1] at HS ⊢
  clear hN1
  clear e0 e1 hn H hn2 H2 hrows hF hfl hrl
  by_cases hnil : F = []
  · rw [if_pos hnil, if_pos hnil]
    subst hnil
    go_enter Try.func46, Try.ntmps46
    go_wp2_with (first
      | (go_at_call 69; refine (HV.out _ hb0).mono ?_; rintro e w1 ⟨rfl, hb1⟩; obtain ⟨hc1, hf1⟩ := bcell hb1; have hbw1 := chain hb0 hb1)
      | (go_at_call 71; refine (HL.out _ hbw1).mono ?_; rintro e w4 ⟨v, base, rfl, hbase, hR, hb4⟩; refine Stop.of ?_))
    refine Stop.go ?_
    obtain ⟨a4, c4, rfl, hl4, _, _⟩ := hR.reads
    clear hR
    go_wp2
    go_ret2
    exact ⟨rfl, chain hbw1 hb4⟩
  · rw [if_neg hnil, if_neg hnil]
    have hpos : 0 < F.length := List.length_pos_iff.2 hnil
    have hne : ((F.length : Int) == 0) = false := by simp [hnil]
    obtain ⟨len, hlen⟩ : ∃ len, len = F.length := ⟨_, rfl⟩
    rw [← hlen] at hpos hne hfz HS
    have HLE := hid hlen
    clear hlen hnil
    go_enter Try.func46, Try.ntmps46
    go_wp2_with (first
      | (go_at_call 69; refine (HV.out _ hb0).mono ?_; rintro e w1 ⟨rfl, hb1⟩; obtain ⟨hc1, hf1⟩ := bcell hb1; have hbw1 := chain hb0 hb1)
      | (go_at_call 71; refine (HL.out _ hbw1).mono ?_; rintro e w4 ⟨v, base, rfl, hbase, hR, hb4⟩; refine Stop.of ?_))
    refine Stop.go ?_
    obtain ⟨a4, c4, rfl, hl4, hreads, _⟩ := hR.reads
    rw [← HLE.out] at hl4 ⊢
    have HS2 := hid (HS.out w4 (chain hbw1 hb4) a4 c4 hreads)
    clear hR hreads HS
    unfold maxLen at hl4
    go_wp2_with (go_at_call 86; refine HS2.out.mono ?_; rintro e w6 ⟨rfl, hb6⟩)
    go_ret2
    exact ⟨rfl, chain (chain hbw1 hb4) hb6⟩

set_option maxRecDepth 100000 in
theorem halveP_c (w : World) (p t : Int) (a : Option Addr) (n cap : Nat) (l : List Cel) (hn : l.length = n) (hm : n ≤ maxLen) (H : CellsAt w a l)
    (a2 : Option Addr) (n2 cap2 : Nat) (row : List Int) (hn2 : row.length = n2) (hm2 : n2 ≤ maxLen) (H2 : IntsAt w a2 row) :
    Calls Try.prog 45 #[.agg #[.int .i64 p, .int .i64 t], .slice a n cap, .slice a2 n2 cap2] w fun e w' => e = .returned (.tuple #[.int .i64 (halveV p t l row), .int .i64 (halveE p t l row)]) ∧ Below w.heap.size w w' := by
  have hb0 : Below w.heap.size w (w.alloc (.cells #[.int .i64 p, .int .i64 t] 23)) := (Below.refl _ _).alloc (Nat.le_refl _) _
  have HV := hid (fun (W : World) (hb : Below w.heap.size w W) => validCells_c W p t a n cap l hn hm (H.below hb))
  have HR := hid (fun (W : World) (hb : Below w.heap.size w W) => validRow_c W p a2 n2 cap2 row hn2 hm2 (H2.below hb))
  cases hf : okCells p t l
  · have e0 : halveE p t l row = 1 := by simp [halveE, hf]
    have e1 : halveV p t l row = 0 := by simp [halveV, e0]
    rw [e0, e1]
    rw [hf] at HV
    clear e0 e1 hn H hn2 H2
    go_enter Try.func45, Try.ntmps45
    go_wp2_with (go_at_call 21; refine (HV.out _ hb0).mono ?_; rintro e w1 ⟨rfl, hb1⟩; obtain ⟨hc1, hf1⟩ := bcell hb1)
    go_ret2
    exact ⟨rfl, chain hb0 hb1⟩
  cases hr : okRow p row
  · have e0 : halveE p t l row = 1 := by simp [halveE, hf, hr]
    have e1 : halveV p t l row = 0 := by simp [halveV, e0]
    rw [e0, e1]
    rw [hf] at HV
    rw [hr] at HR
    clear e0 e1 hn H hn2 H2
    go_enter Try.func45, Try.ntmps45
    go_wp2_with (first | (go_at_call 21; refine (HV.out _ hb0).mono ?_; rintro e w1 ⟨rfl, hb1⟩; obtain ⟨hc1, hf1⟩ := bcell hb1; have hbw1 := chain hb0 hb1) | (go_at_call 58; refine (HR.out _ hbw1).mono ?_; rintro e w2 ⟨rfl, hb2⟩))
    go_ret2
    exact ⟨rfl, chain hbw1 hb2⟩
  rw [hf] at HV
  rw [hr] at HR
  obtain ⟨hfd, hrows⟩ := okCells_bd hf
  obtain ⟨p1, p8, t0, t3⟩ := okField_bd hfd
  obtain ⟨P, rfl⟩ := Int.eq_ofNat_of_zero_le (show 0 ≤ p by omega)
  obtain ⟨T, rfl⟩ := Int.eq_ofNat_of_zero_le t0
  have hP : P ≤ 8 := by omega
  have hT : T ≤ 3 := by omega
  have e0 : halveE (P : Int) (T : Int) l row = if fitting P T l = [] then 8 else 0 := by simp [halveE, hf, hr]
  have e1 : halveV (P : Int) (T : Int) l row = if fitting P T l = [] then 0 else bestT ((fitting P T l).map (dotW row)) 199 := by rw [halveV, e0]; split <;> simp
  rw [e0, e1]
  have HL := hid (fun (W : World) (hb : Below w.heap.size w W) => left_c W P T hP hT a n cap l hn hm (H.below hb) hrows)
  have hfl : ∀ x ∈ fitting P T l, x.length = P := fun x hx => fitting_len hx
  have hfz := fitting_le hP hT l
  have hrl := (okRow_len hr).1
  obtain ⟨F, hF⟩ : ∃ F, F = fitting P T l := ⟨_, rfl⟩
  rw [← hF] at HL hfl hfz ⊢
  have HS := hid (fun (W : World) (hb : Below w.heap.size w W) (a3 : Option Addr) (c3 : Nat) (H3 : RowsAt W a3 F) => halve_c W a3 F.length c3 F rfl hfz H3 a2 n2 cap2 row hn2 hm2 (H2.below hb) (fun x hx => by rw [hfl x hx]; omega))
  obtain ⟨N1, hN1⟩ : ∃ N, N = bestT (F.map (dotW row)) 199 := ⟨_, rfl⟩
  rw [← hN1] at HS ⊢
  clear hN1
  clear e0 e1 hn H hn2 H2 hrows hF hfl hrl
  have HFld := hid (fun (W : World) (hb : Below (w.alloc (.cells #[.int .i64 (P : Int), .int .i64 (T : Int)] 23)).heap.size (w.alloc (.cells #[.int .i64 (P : Int), .int .i64 (T : Int)] 23)) W) => show W.cell? ⟨w.heap.size, 0, none⟩ = some (.int .i64 (P : Int)) ∧ W.cell? ⟨w.heap.size, 1, none⟩ = some (.int .i64 (T : Int)) from
    ⟨(hb.cell (p := ⟨w.heap.size, 0, none⟩) (by simp)).trans (by rw [World.cell?_alloc_at _ _ _ _ rfl]; rfl), (hb.cell (p := ⟨w.heap.size, 1, none⟩) (by simp)).trans (by rw [World.cell?_alloc_at _ _ _ _ rfl]; rfl)⟩)
  by_cases hnil : F = []
  · rw [if_pos hnil, if_pos hnil]
    subst hnil
    go_enter Try.func45, Try.ntmps45
    go_wp2_with (first
      | (go_at_call 21; refine (HV.out _ hb0).mono ?_; rintro e w1 ⟨rfl, hb1⟩; obtain ⟨f0, f1⟩ := HFld.out _ hb1; have hbw1 := chain hb0 hb1)
      | (go_at_call 58; refine (HR.out _ hbw1).mono ?_; rintro e w2 ⟨rfl, hb2⟩; obtain ⟨g0, g1⟩ := HFld.out _ (chain hb1 hb2); have hbw2 := chain hbw1 hb2)
      | (go_at_call 65; refine (HL.out _ hbw2).mono ?_; rintro e w4 ⟨v, base, rfl, hbase, hR, hb4⟩; refine Stop.of ?_))
    refine Stop.go ?_
    obtain ⟨a4, c4, rfl, hl4, _, _⟩ := hR.reads
    clear hR
    go_wp2
    go_ret2
    exact ⟨rfl, chain hbw2 hb4⟩
  · rw [if_neg hnil, if_neg hnil]
    have hpos : 0 < F.length := List.length_pos_iff.2 hnil
    have hne : ((F.length : Int) == 0) = false := by simp [hnil]
    obtain ⟨len, hlen⟩ : ∃ len, len = F.length := ⟨_, rfl⟩
    rw [← hlen] at hpos hne hfz HS
    have HLE := hid hlen
    clear hlen hnil
    go_enter Try.func45, Try.ntmps45
    go_wp2_with (first
      | (go_at_call 21; refine (HV.out _ hb0).mono ?_; rintro e w1 ⟨rfl, hb1⟩; obtain ⟨f0, f1⟩ := HFld.out _ hb1; have hbw1 := chain hb0 hb1)
      | (go_at_call 58; refine (HR.out _ hbw1).mono ?_; rintro e w2 ⟨rfl, hb2⟩; obtain ⟨g0, g1⟩ := HFld.out _ (chain hb1 hb2); have hbw2 := chain hbw1 hb2)
      | (go_at_call 65; refine (HL.out _ hbw2).mono ?_; rintro e w4 ⟨v, base, rfl, hbase, hR, hb4⟩; refine Stop.of ?_))
    refine Stop.go ?_
    obtain ⟨a4, c4, rfl, hl4, hreads, _⟩ := hR.reads
    rw [← HLE.out] at hl4 ⊢
    have HS2 := hid (HS.out w4 (chain hbw2 hb4) a4 c4 hreads)
    clear hR hreads HS
    unfold maxLen at hl4
    go_wp2_with (go_at_call 85; refine HS2.out.mono ?_; rintro e w6 ⟨rfl, hb6⟩)
    go_ret2
    exact ⟨rfl, chain (chain hbw2 hb4) hb6⟩
end Go.Proofs.Ytdcflpfaaeijoaa
