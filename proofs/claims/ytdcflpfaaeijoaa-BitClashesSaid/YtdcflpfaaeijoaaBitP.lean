/- Walks: the reference's list of the pictures that fit, and Count. -/
import Derived.Test.YtdcflpfaaeijoaaBitO
namespace Go.Proofs.Ytdcflpfaaeijoaa
open Go.RowKit
set_option linter.unusedVariables false

theorem filter_take_succ {α : Type} (f : α → Bool) (L : List α) (k : Nat) (hk : k < L.length) : (L.take (k + 1)).filter f = (L.take k).filter f ++ (if f L[k] then [L[k]] else []) := by
  rw [List.take_succ_eq_append_getElem hk, List.filter_append]
  congr 1
  cases h : f L[k] <;> simp [h]

set_option maxHeartbeats 2000000 in
theorem refFitting_c (w : World) (p t : Nat) (hp : p ≤ 8) (ht : t ≤ 3) (a : Option Addr) (n cap : Nat) (l : List Cel) (hn : l.length = n) (hm : n ≤ maxLen) (H : CellsAt w a l) (hrow : ∀ c ∈ l, c.row.length ≤ p) :
    Calls Try.prog 71 #[.agg #[.int .i64 p, .int .i64 t], .slice a n cap] w fun e w' => ∃ v base, e = .returned v ∧ w.heap.size ≤ base ∧ RowsO 3 25 w' base (fun _ => True) v (fitting p t l) ∧ Below w.heap.size w w' := by
  obtain ⟨wf, hwf⟩ : ∃ wf, wf = w.alloc (.cells #[.int .i64 (p : Int), .int .i64 (t : Int)] 23) := ⟨_, rfl⟩
  have hb0 : Below w.heap.size w wf := by rw [hwf]; exact (Below.refl _ _).alloc (Nat.le_refl _) _
  have HP := hid (refPictures_c wf p t hp ht)
  have HFT := hid (fun (W : World) (hb : Below w.heap.size w W) (a2 : Option Addr) (n2 cap2 : Nat) (x : List Int) (hx : x.length = n2) (hi : IntsAt W a2 x) (hle : n2 = p) => refFits_c W a n cap l hn hm (H.below hb) a2 n2 cap2 x hx hi (fun c hc => by rw [hle]; exact hrow c hc))
  clear hn H hrow
  go_enter Try.func71, Try.ntmps71
  go_wp2_with fail
  rw [← hwf]
  clear hwf
  refine HP.out.mono ?_
  rintro e wP ⟨v0, b0, rfl, hb0', hR, hbP⟩
  obtain ⟨a0, cap0, rfl, hlen, hreads, _⟩ := hR.reads
  have hll : (pics (t + 1) p).length = (t + 1) ^ p := length_pics _ _
  have hpw : (t + 1) ^ p ≤ 65536 := pow_le hp ht
  have hxp : ∀ x ∈ pics (t + 1) p, x.length = p := fun x hx => (mem_pics (by omega) hx).1
  have hbw : Below w.heap.size w wP := chain hb0 hbP
  have HFit := hid (show fitting p t l = (pics (t + 1) p).filter (fitA l) from rfl)
  obtain ⟨L, hL⟩ : ∃ L, L = pics (t + 1) p := ⟨_, rfl⟩
  rw [← hL] at hreads hlen hll hxp HFit
  rw [← hL]
  obtain ⟨len, hlenE⟩ : ∃ len, len = L.length := ⟨_, rfl⟩
  rw [← hlenE] at hll hlen
  rw [← hlenE]
  have hlen2 : len ≤ 65536 := by omega
  have HLE := hid hlenE
  have HRd := hid hreads
  have HXP := hid hxp
  clear hL hlenE hreads hR hpw hll hlen hxp
  go_wp2
  go_loopw [5, 11] (fun v i wr => ∃ k : Nat, k ≤ len ∧ i = .int .i64 k ∧ RowsO 3 25 wr wP.heap.size (fun _ => True) v ((L.take k).filter (fitA l)) ∧ Below wP.heap.size wP wr) (fun _ i _ => len - (intOf i).toNat)
  case atStart => exact ⟨0, Nat.zero_le _, rfl, RowsO.nil _ _ _ _ _, Below.refl _ _⟩
  case round =>
    obtain ⟨k, hk, rfl, hRk, hbk⟩ := hrel
    by_cases hlt : k < len
    · have hkL : k < L.length := by rw [← HLE.out]; exact hlt
      obtain ⟨b, off, ra, xn, xc, rfl, hbs, hcx0, hxn, hxm, hxi⟩ := rows_elem HRd.out (k := k) hkL
      have hcx : wr.cell? ⟨b, off + k, none⟩ = some (.slice ra xn xc) := (hbk.cell (p := ⟨b, off + k, none⟩) hbs).trans hcx0
      have hX : L[k]?.getD [] = L[k] := by rw [List.getElem?_eq_getElem hkL]; rfl
      rw [hX] at hxn hxi
      have hxp : xn = p := by rw [← hxn]; exact HXP.out _ (List.getElem_mem _)
      have hfs := filter_take_succ (fitA l) L k hkL
      have hfl : ((L.take k).filter (fitA l)).length ≤ 65536 := by
        have h1 := List.length_filter_le (fitA l) (L.take k)
        have h2 := List.length_take_le k L
        omega
      have HF := hid (HFT.out wr (chain hbw hbk) ra xn xc L[k] hxn (hxi.below hbk) hxp)
      obtain ⟨X, hXE⟩ : ∃ X, X = L[k] := ⟨_, rfl⟩
      rw [← hXE] at hxn hxi hfs HF
      have HFS := hid hfs
      have HXN := hid hxn
      have HXI := hid hxi
      have HRk := hid hRk
      have HKL := hid hkL
      clear hcx0 hX hxp hfs hxn hxi hRk hkL hXE
      cases hfx : fitA l X
      · rw [hfx] at HF
        go_wp2_with (go_at_call 78; refine HF.out.mono ?_; rintro e w1 ⟨rfl, hb1⟩)
        refine ⟨⟨k + 1, by omega, by go_num, ?_, chain hbk hb1⟩, by simp [intOf]; omega⟩
        rw [HFS.out, hfx]
        simpa using HRk.out.keep (Keep.of_below hb1)
      · rw [hfx] at HF
        obtain ⟨a4, c4, e4, hl4, _, _⟩ := HRk.out.reads
        subst e4
        clear hl4
        obtain ⟨PL, hPL⟩ : ∃ PL, PL = ((L.take k).filter (fitA l)).length := ⟨_, rfl⟩
        rw [← hPL] at hfl ⊢
        have HPL := hid hPL
        clear hPL
        go_wp2_with (go_at_call 78; refine HF.out.mono ?_; rintro e w1 ⟨rfl, hb1⟩; refine Stop.of ?_)
        refine Stop.go ?_
        obtain ⟨vs, ho, hg, he⟩ := HRk.out.keep (Keep.of_below hb1)
        rw [← HPL.out] at ho
        have HE := hid he
        clear he hg
        have M7 := hid (show PL + 1 ≤ maxLen by unfold maxLen; omega)
        have M8 := hid (show (PL + 1) * 24 ≤ 140737488355328 by omega)
        have hbk1 := chain hbk hb1
        have M9 := hid (Nat.le_trans hbk1.size (le_alloc w1 (.cells #[.slice ra xn xc] 25)))
        go_wp2_with (at_builtin; refine wpList_app _ rfl (.tmp 18) (.tmp 20) 57 rfl wP.heap.size 25 (.slice none 0 0) 1 24 Try.underlying57 info_ints rfl Nat.one_pos (.slice a4 PL c4) PL vs rfl (ho.alloc _) (some ⟨w1.heap.size, 0, none⟩) 1 1 [.slice ra xn xc] rfl rfl no_none (one_news w1 _ _) (slice_oneCell _ _ _) M7.out M8.out M9.out ?_; refine Stop.of ?_)
        refine Stop.go ?_
        intro a3 c3 w3 own3 g3
        have hla : Below w1.heap.size w1 (w1.alloc (.cells #[.slice ra xn xc] 25)) := (Below.refl _ _).alloc (Nat.le_refl _) _
        have hEl : ElemI 3 w1 wP.heap.size (fun _ => True) (.slice ra xn xc) X := ElemI.old HXN.out hxm (fun j hj => by
          obtain ⟨b2, off2, e2, hb2, hc2⟩ := HXI.out j hj
          exact ⟨b2, off2, e2, hb2, Nat.lt_of_lt_of_le hb2 hbk1.size, (hbk1.cell (p := ⟨b2, off2 + j, none⟩) hb2).trans hc2⟩) (fun _ _ => trivial)
        rw [HPL.out] at ho own3 g3
        have hR3 := RowsO.snoc (by decide) ho HE.out hEl hla g3 own3 (fun _ _ => trivial)
        have hB3 : Below wP.heap.size wP w3 := (hbk1.alloc hbk1.size _).grown g3 (Nat.le_trans hbk1.size (le_alloc _ _)) (fun k hk => (ho.lt k hk).1)
        go_wp2
        refine ⟨⟨k + 1, by omega, by go_num, ?_, hB3⟩, by simp [intOf]; omega⟩
        rw [← HPL.out] at hR3
        rw [HFS.out, hfx]
        simpa using hR3
    · obtain rfl : k = len := by omega
      have HRk := hid hRk
      clear hRk
      go_wp2
      go_ret
      refine ⟨_, wP.heap.size, rfl, hbw.size, ?_, chain hbw hbk⟩
      have hR := HRk.out
      rw [HLE.out, List.take_length] at hR
      rw [HFit.out]
      exact hR

theorem refCount_c (w : World) (p t : Int) (a : Option Addr) (n cap : Nat) (l : List Cel) (hn : l.length = n) (hm : n ≤ maxLen) (H : CellsAt w a l) :
    Calls Try.prog 34 #[.agg #[.int .i64 p, .int .i64 t], .slice a n cap] w fun e w' => e = .returned (.tuple #[.int .i64 (countV p t l), .int .i64 (cellsE p t l)]) ∧ Below w.heap.size w w' := by
  have hb0 : Below w.heap.size w (w.alloc (.cells #[.int .i64 p, .int .i64 t] 23)) := (Below.refl _ _).alloc (Nat.le_refl _) _
  have HV := hid (fun (W : World) (hb : Below w.heap.size w W) => refValidCells_c W p t a n cap l hn hm (H.below hb))
  cases hf : okCells p t l
  · have e1 : countV p t l = 0 := by simp [countV, hf]
    have e2 : cellsE p t l = 1 := by simp [cellsE, hf]
    rw [e1, e2]
    clear e1 e2 hn H
    rw [hf] at HV
    go_enter Try.func34, Try.ntmps34
    go_wp2_with (go_at_call 22; refine (HV.out _ hb0).mono ?_; rintro e w1 ⟨rfl, hb1⟩; obtain ⟨hc1, hf1⟩ := bcell hb1)
    go_ret2
    exact ⟨rfl, chain hb0 hb1⟩
  · obtain ⟨hfd, hrows⟩ := okCells_bd hf
    obtain ⟨p1, p8, t0, t3⟩ := okField_bd hfd
    obtain ⟨P, rfl⟩ := Int.eq_ofNat_of_zero_le (show 0 ≤ p by omega)
    obtain ⟨T, rfl⟩ := Int.eq_ofNat_of_zero_le t0
    have e1 : countV (P : Int) (T : Int) l = ((fitting P T l).length : Int) := by simp [countV, hf]
    have e2 : cellsE (P : Int) (T : Int) l = 0 := by simp [cellsE, hf]
    rw [e1, e2]
    have HL := hid (fun (W : World) (hb : Below w.heap.size w W) => refFitting_c W P T (by omega) (by omega) a n cap l hn hm (H.below hb) hrows)
    clear e1 e2 hn H hrows
    rw [hf] at HV
    go_enter Try.func34, Try.ntmps34
    go_wp2_with (first | (go_at_call 22; refine (HV.out _ hb0).mono ?_; rintro e w1 ⟨rfl, hb1⟩; obtain ⟨hc1, hf1⟩ := bcell hb1) | (go_at_call 71; refine (HL.out _ (chain hb0 hb1)).mono ?_; rintro e w2 ⟨v, base, rfl, hbase, hR, hb2⟩; obtain ⟨a2, c2, rfl, hl2, _, _⟩ := hR.reads; have HR := hid hR; clear hR))
    go_ret2
    exact ⟨rfl, chain hb0 (chain hb1 hb2)⟩


def firstE (p t : Int) (l : List Cel) : Int := if okCells p t l then (if fitting p.toNat t.toNat l = [] then 8 else 0) else 1
def firstV (p t : Int) (l : List Cel) : List Int := if okCells p t l then ((fitting p.toNat t.toNat l)[0]?.getD []) else []

theorem refFirst_c (w : World) (p t : Int) (a : Option Addr) (n cap : Nat) (l : List Cel) (hn : l.length = n) (hm : n ≤ maxLen) (H : CellsAt w a l) :
    Calls Try.prog 36 #[.agg #[.int .i64 p, .int .i64 t], .slice a n cap] w fun e w' => ∃ ra rn rc, e = .returned (.tuple #[.slice ra rn rc, .int .i64 (firstE p t l)]) ∧ (firstV p t l).length = rn ∧ rn ≤ maxLen ∧ IntsAt w' ra (firstV p t l) ∧ Below w.heap.size w w' := by
  have hb0 : Below w.heap.size w (w.alloc (.cells #[.int .i64 p, .int .i64 t] 23)) := (Below.refl _ _).alloc (Nat.le_refl _) _
  have HV := hid (fun (W : World) (hb : Below w.heap.size w W) => refValidCells_c W p t a n cap l hn hm (H.below hb))
  cases hf : okCells p t l
  · have e1 : firstE p t l = 1 := by simp [firstE, hf]
    have e2 : firstV p t l = [] := by simp [firstV, hf]
    rw [e1, e2]
    clear e1 e2 hn H
    rw [hf] at HV
    go_enter Try.func36, Try.ntmps36
    go_wp2_with (go_at_call 22; refine (HV.out _ hb0).mono ?_; rintro e w1 ⟨rfl, hb1⟩; obtain ⟨hc1, hf1⟩ := bcell hb1)
    go_ret2
    exact ⟨_, _, _, rfl, rfl, by decide, fun j hj => by simp at hj, chain hb0 hb1⟩
  · obtain ⟨hfd, hrows⟩ := okCells_bd hf
    obtain ⟨p1, p8, t0, t3⟩ := okField_bd hfd
    obtain ⟨P, rfl⟩ := Int.eq_ofNat_of_zero_le (show 0 ≤ p by omega)
    obtain ⟨T, rfl⟩ := Int.eq_ofNat_of_zero_le t0
    have e1 : firstE (P : Int) (T : Int) l = if fitting P T l = [] then 8 else 0 := by simp [firstE, hf]
    have e2 : firstV (P : Int) (T : Int) l = (fitting P T l)[0]?.getD [] := by simp [firstV, hf]
    rw [e1, e2]
    have HL := hid (fun (W : World) (hb : Below w.heap.size w W) => refFitting_c W P T (by omega) (by omega) a n cap l hn hm (H.below hb) hrows)
    clear e1 e2 hn H hrows
    rw [hf] at HV
    obtain ⟨F, hF⟩ : ∃ F, F = fitting P T l := ⟨_, rfl⟩
    rw [← hF] at HL ⊢
    clear hF
    by_cases hnil : F = []
    · subst hnil
      rw [if_pos rfl]
      simp only [List.getElem?_nil, Option.getD_none]
      go_enter Try.func36, Try.ntmps36
      go_wp2_with (first | (go_at_call 22; refine (HV.out _ hb0).mono ?_; rintro e w1 ⟨rfl, hb1⟩; obtain ⟨hc1, hf1⟩ := bcell hb1) | (go_at_call 71; refine (HL.out _ (chain hb0 hb1)).mono ?_; rintro e w2 ⟨v, base, rfl, hbase, hR, hb2⟩; obtain ⟨a2, c2, rfl, hl2, _, _⟩ := hR.reads; have HR := hid hR; clear hR))
      go_ret2
      exact ⟨_, _, _, rfl, rfl, by decide, fun j hj => by simp at hj, chain hb0 (chain hb1 hb2)⟩
    · rw [if_neg hnil]
      have hpos : 0 < F.length := List.length_pos_iff.2 hnil
      obtain ⟨len, hlen⟩ : ∃ len, len = F.length := ⟨_, rfl⟩
      rw [← hlen] at hpos
      have HLE := hid hlen
      have HNIL := hid hnil
      clear hlen hnil
      have hne : ((len : Int) == 0) = false := by simp; omega
      go_enter Try.func36, Try.ntmps36
      go_wp2_with (first | (go_at_call 22; refine (HV.out _ hb0).mono ?_; rintro e w1 ⟨rfl, hb1⟩; obtain ⟨hc1, hf1⟩ := bcell hb1) | (go_at_call 71; refine (HL.out _ (chain hb0 hb1)).mono ?_; rintro e w2 ⟨v, base, rfl, hbase, hR, hb2⟩; refine Stop.of ?_))
      refine Stop.go ?_
      obtain ⟨a2, c2, rfl, hl2, hreads, _⟩ := hR.reads
      rw [← HLE.out] at hl2 ⊢
      obtain ⟨b, off, ra, xn, xc, rfl, hbs, hcx0, hxn, hxm, hxi⟩ := rows_elem hreads (k := 0) (by rw [← HLE.out]; exact hpos)
      rw [Nat.add_zero] at hcx0
      have HX := hid (And.intro hxn hxi)
      clear hxn hxi hreads hR
      unfold maxLen at hl2
      go_wp2
      go_ret2
      exact ⟨_, _, _, rfl, HX.out.1, hxm, HX.out.2, chain hb0 (chain hb1 hb2)⟩
end Go.Proofs.Ytdcflpfaaeijoaa
