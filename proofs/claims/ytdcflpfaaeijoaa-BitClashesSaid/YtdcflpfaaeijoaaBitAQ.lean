/- Walk: Clash of package bit. -/
import Derived.Test.YtdcflpfaaeijoaaBitAP
import Derived.Maps.OwnIn
import Derived.Laws.EntriesVeiled
namespace Go.Proofs.Ytdcflpfaaeijoaa
open Go.RowKit Go.Maps
set_option linter.unusedVariables false
attribute [local go_sem] Oper.semAt_some

theorem findSome_at {β : Type} (f : Nat → Option β) {k m : Nat} {t : β} (hk : k < m) (hno : ∀ j, j < k → f j = none) (h : f k = some t) : (List.range m).findSome? f = some t := by
  rw [List.findSome?_eq_some_iff]
  refine ⟨List.range k, k, (List.range' (k + 1) (m - (k + 1))), ?_, h, fun j hj => hno j (List.mem_range.1 hj)⟩
  have e := List.range'_append_1 (s := 0) (m := k) (n := m - (k + 1) + 1)
  rw [Nat.zero_add] at e
  rw [List.range_eq_range', List.range_eq_range', ← List.range'_succ, e]
  congr 1; omega
theorem findSome_no {β : Type} (f : Nat → Option β) {m : Nat} (hno : ∀ j, j < m → f j = none) : (List.range m).findSome? f = none := by
  rw [List.findSome?_eq_none_iff]
  exact fun j hj => hno j (List.mem_range.1 hj)
theorem clM_clB (l : List Cel) (xs : List (List Int)) : clM (xs.map fun x => fmask l x l.length) = clB l xs := by
  funext s
  simp [clM, clB, List.all_map]; rfl

def clashE (p t : Int) (l : List Cel) : Int := if okCells p t l then (if l.length ≤ 12 then (if (clashT l (pics (t.toNat + 1) p.toNat)).isSome then 0 else 8) else 4) else 1
def clashV (p t : Int) (l : List Cel) : List Int := if okCells p t l = true ∧ l.length ≤ 12 then ((clashT l (pics (t.toNat + 1) p.toNat)).getD []).map (fun i : Nat => (i : Int)) else []

set_option maxRecDepth 100000 in
set_option maxHeartbeats 4000000 in
theorem clash_c (w : World) (p t : Int) (a : Option Addr) (n cap : Nat) (l : List Cel) (hn : l.length = n) (hm : n ≤ maxLen) (H : CellsAt w a l) :
    Calls Try.prog 43 #[.agg #[.int .i64 p, .int .i64 t], .slice a n cap] w fun e w' => ResInts (clashE p t l) (clashV p t l) w e w' := by
  obtain ⟨wf, hwf⟩ : ∃ wf, wf = (w.alloc (.cells #[.int .i64 p, .int .i64 t] 23)).alloc (.cells #[.slice a n cap] 24) := ⟨_, rfl⟩
  have hsz : wf.heap.size = w.heap.size + 2 := by rw [hwf]; simp
  have hb0 : Below w.heap.size w wf := by rw [hwf]; exact (((Below.refl _ w).alloc (Nat.le_refl _) _).alloc (by simp) _)
  have hB1 : Boxed wf (w.heap.size + 1) 24 (.slice a n cap) := by
    rw [hwf]
    have := (Boxed.new (w.alloc (.cells #[.int .i64 p, .int .i64 t] 23)) 24 (.slice a n cap))
    rwa [World.size_alloc] at this
  have hF0 : wf.cell? ⟨w.heap.size, 0, none⟩ = some (.int .i64 p) := by rw [hwf, World.cell?_alloc_lt _ _ _ (by simp), World.cell?_alloc_at _ _ _ _ rfl]; rfl
  have hF1 : wf.cell? ⟨w.heap.size, 1, none⟩ = some (.int .i64 t) := by rw [hwf, World.cell?_alloc_lt _ _ _ (by simp), World.cell?_alloc_at _ _ _ _ rfl]; rfl
  have HF := hid (fun (W : World) (hb : Below wf.heap.size wf W) => And.intro ((hb.cell (p := ⟨w.heap.size, 0, none⟩) (show w.heap.size < wf.heap.size by omega)).trans hF0) (And.intro ((hb.cell (p := ⟨w.heap.size, 1, none⟩) (show w.heap.size < wf.heap.size by omega)).trans hF1) (boxed_below hB1 hb)))
  have HV := hid (fun (W : World) (hb : Below w.heap.size w W) => validCells_c W p t a n cap l hn hm (H.below hb))
  have HB0 := hid hb0
  have HSZ := hid hsz
  clear hB1 hF0 hF1 hb0 hsz
  cases hf : okCells p t l
  · have e1 : clashE p t l = 1 := by simp [clashE, hf]
    have e2 : clashV p t l = [] := by simp [clashV, hf]
    rw [e1, e2]
    clear e1 e2 hn H
    rw [hf] at HV
    go_enter Try.func43, Try.ntmps43
    go_wp2_with fail
    rw [← hwf]
    clear hwf
    refine (HV.out _ HB0.out).mono ?_
    rintro e w1 ⟨rfl, hb1⟩
    obtain ⟨f0, f1, f2⟩ := HF.out _ hb1
    have c2 := f2.cell
    clear f2
    go_wp2
    go_ret2
    exact ⟨none, 0, 0, rfl, rfl, by decide, fun j hj => by simp at hj, chain HB0.out hb1⟩
  · obtain ⟨hfd, hrows⟩ := okCells_bd hf
    obtain ⟨p1, p8, t0, t3⟩ := okField_bd hfd
    obtain ⟨P, rfl⟩ := Int.eq_ofNat_of_zero_le (show 0 ≤ p by omega)
    obtain ⟨T, rfl⟩ := Int.eq_ofNat_of_zero_le t0
    rw [hf] at HV
    by_cases h12 : n ≤ 12
    rotate_left
    · have e1 : clashE (P : Int) (T : Int) l = 4 := by rw [clashE, if_pos hf, if_neg (by omega)]
      have e2 : clashV (P : Int) (T : Int) l = [] := by rw [clashV, if_neg (by rintro ⟨_, h⟩; omega)]
      rw [e1, e2]
      have hn30 : n ≤ 30 := by
        simp only [okCells, Bool.and_eq_true, decide_eq_true_eq] at hf
        omega
      clear e1 e2 hn H
      go_enter Try.func43, Try.ntmps43
      go_wp2_with fail
      rw [← hwf]
      clear hwf
      refine (HV.out _ HB0.out).mono ?_
      rintro e w1 ⟨rfl, hb1⟩
      obtain ⟨f0, f1, f2⟩ := HF.out _ hb1
      have c2 := f2.cell
      clear f2
      go_wp2
      go_ret2
      exact ⟨none, 0, 0, rfl, rfl, by decide, fun j hj => by simp at hj, chain HB0.out hb1⟩
    have e1 : clashE (P : Int) (T : Int) l = (if (clashT l (pics (T + 1) P)).isSome then 0 else 8) := by rw [clashE, if_pos hf, if_pos (by omega)]; rfl
    have e2 : clashV (P : Int) (T : Int) l = ((clashT l (pics (T + 1) P)).getD []).map (fun i : Nat => (i : Int)) := by rw [clashV, if_pos ⟨hf, by omega⟩]; rfl
    rw [e1, e2]
    have hd12 : decide ((12 : Int) < (n : Int)) = false := by simp; omega
    obtain ⟨CT, hCT⟩ : ∃ c, c = clashT l (pics (T + 1) P) := ⟨_, rfl⟩
    rw [← hCT]
    have HCT := hid hCT
    clear hCT
    obtain ⟨EE, hEE⟩ : ∃ E : Int, E = if CT.isSome then 0 else 8 := ⟨_, rfl⟩
    obtain ⟨VV, hVV⟩ : ∃ V, V = (CT.getD []).map (fun i : Nat => (i : Int)) := ⟨_, rfl⟩
    rw [← hEE, ← hVV]
    have HEV := hid (And.intro hEE hVV)
    clear hEE hVV
    have HN := hid hn
    have HH := hid H
    have HROW := hid hrows
    have hP : P ≤ 8 := by omega
    have hT : T ≤ 3 := by omega
    have hmm := @run_makeMap Try.prog
    clear e1 e2 hn H hrows
    refine callsIn_wide (n := 0) |>.1 ?_
    refine callsIn_of_wp_marks Try.func43 rfl trivial ?_ rfl
    simp only [Try.ntmps43, List.size_toArray, List.length_cons, List.length_nil, Nat.reduceAdd, Nat.reduceSub, Array.replicate_succ, Array.replicate_zero, List.push_toArray, List.append_toArray, List.nil_append, List.cons_append]
    gi_wp2_with (refine ⟨trivial, rfl, ?_⟩; gi_at_call 21; refine Stop.of ?_)
    refine Stop.go ?_
    rw [← hwf]
    clear hwf
    refine (callsIn_wide.2 (HV.out _ HB0.out)).mono ?_
    rintro e w1 ⟨rfl, hb1⟩
    obtain ⟨f0, f1, f2⟩ := HF.out _ hb1
    have F2 := hid f2
    have c2 := f2.cell
    clear f2
    obtain ⟨wm, hwm⟩ : ∃ wm, wm = (w1.alloc (.map #[] 0)).alloc (.cells #[.map (some w1.heap.size)] 92) := ⟨_, rfl⟩
    have hszm : wm.heap.size = w1.heap.size + 2 := by rw [hwm]; simp
    have hbm : Below w1.heap.size w1 wm := by rw [hwm]; exact (((Below.refl _ w1).alloc (Nat.le_refl _) _).alloc (by simp) _)
    have hrow : wm.ownsMap Try.prog 3 (plainElem (H := Unit) Try.prog 4) w1.heap.size 0 (.map []) := by
      rw [hwm]; exact (World.ownsMap_made _ _ _ _).alloc _
    have hbox : Boxed wm (w1.heap.size + 1) 92 (.map (some w1.heap.size)) := by
      rw [hwm]
      have := Boxed.new (w1.alloc (.map #[] 0)) 92 (.map (some w1.heap.size))
      rwa [World.size_alloc] at this
    have hs1 : w.heap.size + 2 ≤ w1.heap.size := by have := hb1.size; have := HSZ.out; omega
    have g0 : wm.cell? ⟨w.heap.size, 0, none⟩ = some (.int .i64 P) := (hbm.cell (p := ⟨w.heap.size, 0, none⟩) (by show w.heap.size < _; omega)).trans f0
    have g1 : wm.cell? ⟨w.heap.size, 1, none⟩ = some (.int .i64 T) := (hbm.cell (p := ⟨w.heap.size, 1, none⟩) (by show w.heap.size < _; omega)).trans f1
    rw [hwm] at g0 g1
    have HWM := hid hwm
    have HRW := hid hrow
    have HBX := hid hbox
    have HSM := hid hszm
    clear hwm hrow hbox hszm
    gi_wp2_with (refine ⟨trivial, rfl, ?_⟩; gi_at_call 79; refine (callsIn_wide.2 (pictures_c _ _ _)).mono ?_; rintro e w' ⟨rfl, rfl⟩)
    rw [← HWM.out]
    clear g0 g1 HWM f0 f1 hd12
    obtain ⟨wL, hwL⟩ : ∃ wL, wL = wm.alloc (.cells #[.int .i64 (P : Int), .int .i64 (T : Int)] 23) := ⟨_, rfl⟩
    have hszL : wL.heap.size = w1.heap.size + 3 := by rw [hwL, World.size_alloc, HSM.out]
    have hbmL : Below wm.heap.size wm wL := by rw [hwL]; exact (Below.refl _ _).alloc (Nat.le_refl _) _
    have hbL : Below w.heap.size w wL := chain (chain (chain HB0.out hb1) hbm) hbmL
    have hbfL : Below wf.heap.size wf wL := chain (chain hb1 hbm) hbmL
    have hG0 : wL.cell? ⟨w1.heap.size + 2, 0, none⟩ = some (.int .i64 P) := by rw [hwL, World.cell?_alloc_at _ _ _ _ HSM.out.symm]; rfl
    have hG1 : wL.cell? ⟨w1.heap.size + 2, 1, none⟩ = some (.int .i64 T) := by rw [hwL, World.cell?_alloc_at _ _ _ _ HSM.out.symm]; rfl
    have hRowL : wL.ownsMap Try.prog 3 (plainElem (H := Unit) Try.prog 4) w1.heap.size 0 (.map []) := map_below HRW.out hbmL
    have hBoxL := boxed_below HBX.out hbmL
    have hCelL : Boxed wL (w.heap.size + 1) 24 (.slice a n cap) := (HF.out _ hbfL).2.2
    rw [← hwL]
    clear hwL c2 hmm
    have hpicl : ∀ x ∈ pics (T + 1) P, x.length = P := fun x hx => (mem_pics (by omega) hx).1
    have HPL := hid hpicl
    clear hpicl
    refine range_ints (gf := 99) (lb := #[.pointer (some ⟨w1.heap.size + 2, 0, none⟩)]) (xs := pics (T + 1) P) (fp := fun k => k = w1.heap.size + 2) (E := 3) rfl (enters_of Try.func99 (by kernel_rfl) rfl)
      (iter_pics wL P T (w1.heap.size + 2) hP hT (by omega) hG0 hG1) (Below.refl _ _) (by intro k hk; omega)
      (fun it pre W => (∃ D, KeysB D (pre.map fun x => fmask l x n) ∧ W.ownsMap Try.prog 3 (plainElem (H := Unit) Try.prog 4) w1.heap.size pre.length D) ∧ Boxed W (w1.heap.size + 1) 92 (.map (some w1.heap.size)) ∧ Boxed W (w.heap.size + 1) 24 (.slice a n cap) ∧ Below w.heap.size w W)
      (fun _ _ _ => False) ?hI (fun _ _ _ _ h _ => h) ?h0
      (fun v => { tmps := #[.agg #[.int .i64 P, .int .i64 T], .slice a n cap, .pointer (some ⟨w.heap.size, 0, none⟩), .pointer (some ⟨w.heap.size + 1, 0, none⟩), .slice none 0 0, .int .i64 0, .pointer (some ⟨w1.heap.size + 1, 0, none⟩), v, undef, undef, undef, undef, undef, undef, undef, .bool false, .agg #[.int .i64 P, .int .i64 T], .slice a n cap, .bool true, .bool false, .bool false, .slice a n cap, .int .i64 n, .bool false, .map (some w1.heap.size), .agg #[.int .i64 P, .int .i64 T], .func (.func 99) #[] #[.pointer (some ⟨w1.heap.size + 2, 0, none⟩)], v, undef, undef, undef, undef, undef, undef, undef, undef, undef, undef, undef, undef, undef, undef, undef, undef, undef, undef, undef, undef, undef, undef, undef, undef, undef, undef, undef, undef, undef, undef], defers := [] }) ?assign ?body ?done ?stop
    case hI =>
      rintro it s A B hit ⟨⟨D, h0, h1⟩, h2, h3, hb⟩ hk
      rw [hszL] at hit hk
      refine ⟨⟨D, h0, ?_⟩, (hk.block _ h2.lt (by omega)).trans h2, (hk.block _ h3.lt (by omega)).trans h3, hk.below hb hb.size (fun k _ => by omega)⟩
      obtain ⟨es, clock, hbk, F, q1, q2⟩ := h1
      exact ⟨es, clock, (hk.block _ (Array.getElem?_eq_some_iff.1 hbk).1 (by omega)).trans hbk, F, q1, q2⟩
    case h0 => intro it _; exact ⟨⟨_, KeysB.nil, hRowL⟩, hBoxL, hCelL, hbL⟩
    case assign =>
      intro l v W K hK
      gi_wp2
      exact hK
    case body =>
      rintro l' it pre x cap' sp W hit hpre ⟨⟨D, hv0, hv1⟩, hv2, hv3, hBW⟩ hitW hx hDo hLo
      rw [hszL] at hit hDo hLo ⊢
      have hxl : x.length = P := HPL.out x (hpre.subset (by simp))
      have HXI := hid (show IntsAt W (some ⟨it, 0, none⟩) x from ints_of_row hx)
      have hc1 : W.cell? ⟨w.heap.size + 1, 0, none⟩ = some (.slice a n cap) := hv3.cell
      have HW := hid (show w1.heap.size + 4 < W.heap.size from by obtain ⟨o, ho, _⟩ := hLo; exact (Array.getElem?_eq_some_iff.1 ho).1)
      have HPR := hid (show pre.length < maxLen from by
        have h1 := hpre.length_le
        rw [length_pics] at h1
        have h2 := pow_le hP hT
        simp at h1
        unfold maxLen; omega)
      have HV0 := hid hv0
      have HV1 := hid hv1
      have HV2 := hid hv2
      have HV3 := hid hv3
      have HXL := hid hxl
      have HCS := hid (fun k => show fmask l x (k + 1) = if fitC x (cellAt l k) then fmask l x k ||| 2 ^ k else fmask l x k from rfl)
      have HCB := hid (fun k (hk : k ≤ n) => show fmask l x k < 4096 from Nat.lt_of_lt_of_le (fmask_lt l x k) (Nat.le_trans (Nat.pow_le_pow_right (by omega) (show k ≤ 12 by omega)) (by decide)))
      clear hx hxl hpre hDo hLo hv0 hv1 hv2 hv3 hRowL hBoxL hCelL hG0 hG1
      gi_wp2
      gi_loopw [8, 30] (fun s8 s30 wr => ∃ k : Nat, k ≤ n ∧ s30 = .int .i64 k ∧ s8 = .int .i64 (fmask l x k : Nat) ∧ Below W.heap.size W wr) (fun _ i _ => n - (intOf i).toNat)
      case atStart => exact ⟨0, Nat.zero_le _, rfl, rfl, Below.refl _ _⟩
      case round =>
        obtain ⟨k, hk, rfl, rfl, hb⟩ := hrel
        have hbnd := HCB.out k hk
        have hstep := HCS.out k
        obtain ⟨A1, hA1⟩ : ∃ A, A = fmask l x k := ⟨_, rfl⟩
        rw [← hA1] at hbnd hstep ⊢
        have HA := hid hA1
        clear hA1
        by_cases hlt : k < n
        · have hkl : k < l.length := by rw [HN.out]; exact hlt
          obtain ⟨b, off, ra, rn, rc, rfl, hbs, h0, h1, h2, hrn, hrm, hri⟩ := HH.out.below (chain hBW hb) k hkl
          have hce : cellAt l k = l[k] := by unfold cellAt; rw [List.getElem?_eq_getElem hkl]; rfl
          have hrl : (l[k]).row.length ≤ x.length := by rw [HXL.out]; have := HROW.out _ (List.getElem_mem hkl); omega
          have hb1' : Below wr.heap.size wr (wr.alloc (.cells #[.slice ra rn rc, .int .i64 l[k].lo, .int .i64 l[k].hi] 41)) := (Below.refl _ _).alloc (Nat.le_refl _) _
          have HC := hid (bitIn_c (wr.alloc (.cells #[.slice ra rn rc, .int .i64 l[k].lo, .int .i64 l[k].hi] 41)) (.agg #[.slice ra rn rc, .int .i64 l[k].lo, .int .i64 l[k].hi]) l[k] ⟨ra, rn, rc, rfl, hrn, hrm, hri.below hb1'⟩ (some ⟨it, 0, none⟩) x.length cap' x rfl hrl (HXI.out.below (chain hb hb1')))
          rw [hce] at hstep
          clear hrn hri hce hrl
          have HST := hid hstep
          clear hstep
          cases hpx : fitC x l[k]
          · gi_wp2_with (refine ⟨trivial, rfl, ?_⟩; gi_at_call 81; refine (CallsIn.inRound l' (callsIn_wide.2 HC.out)).mono ?_; rintro e w3 ⟨rfl, hb3⟩)
            have hq := HST.out
            rw [hpx] at hq
            simp only [Bool.false_eq_true, if_false] at hq
            refine ⟨⟨k + 1, by omega, by go_num, by rw [hq], chain (chain hb hb1') hb3⟩, by simp [intOf]; omega⟩
          · have h2i : 2 ^ k < 4096 := by
              calc 2 ^ k < 2 ^ 12 := Nat.pow_lt_pow_right (by omega) (by omega)
                _ = 4096 := by decide
            obtain ⟨pw, hpw⟩ : ∃ pw : Nat, pw = 2 ^ k := ⟨_, rfl⟩
            obtain ⟨so, hso⟩ : ∃ so : Nat, so = A1 ||| 2 ^ k := ⟨_, rfl⟩
            have q2 : bits .or .i64 (A1 : Int) (pw : Int) = (so : Int) := by rw [hpw, hso]; exact or_i64 hbnd h2i
            have q3 : IntKind.i64.wrap ((2 : Int) ^ k) = (pw : Int) := by
              have e : ((2 : Int) ^ k) = ((2 ^ k : Nat) : Int) := by push_cast; rfl
              rw [e, ← hpw]
              exact IntWalk.i64_in _ (by omega)
            have HSO := hid hso
            clear hpw hso h2i
            gi_wp2_with (refine ⟨trivial, rfl, ?_⟩; gi_at_call 81; refine (CallsIn.inRound l' (callsIn_wide.2 HC.out)).mono ?_; rintro e w3 ⟨rfl, hb3⟩)
            have hq := HST.out
            rw [hpx, if_pos rfl] at hq
            refine ⟨⟨k + 1, by omega, by go_num, by rw [hq, HSO.out], chain (chain hb hb1') hb3⟩, by simp [intOf]; omega⟩
        · obtain rfl : k = n := by omega
          have hv1' := map_below HV1.out hb
          have hv2' := boxed_below HV2.out hb
          have hv3' := boxed_below HV3.out hb
          have hd := HW.out
          have c6 := hv2'.cell
          have H1 := hid hv1'
          have H2 := hid hv2'
          have H3 := hid hv3'
          have hwf1 : (Lit.int .i64 (A1 : Int)).wf = true := by simp [Lit.wf, IntKind.min, IntKind.max, IntKind.signed, IntKind.bits]; omega
          have HKEY := hid (show keyOf Try.prog 3 (.int .i64 (A1 : Int)) = some (.int .i64 (A1 : Int)) from keyOf_int_mk Try.underlying3 hwf1)
          have HEL := hid (plainElem_bool (H := Unit) (P := Try.prog) Try.underlying4 true)
          clear hv1' hv2' hv3' hwf1
          gi_wp2_with (gi_at_mapUpdate; refine wpListIn_mapUpdate_own _ rfl _ _ _ 92 rfl 3 4 law3 Try.underlying92 _ w1.heap.size _ _ rfl H1.out HPR.out _ _ _ rfl rfl HKEY.out _ [] HEL.out ?_; refine Stop.of ?_)
          refine Stop.go ?_
          intro w5 hown5 hgrow5
          have hkk : Keep (fun q => q ≠ w1.heap.size) W w5 := (Keep.of_below hb).trans ((Keep.grown hgrow5).mono fun q hq e => hq (by cases e; rfl))
          have HO5 := hid hown5
          have HK5 := hid hkk
          clear hown5 hkk
          gi_wp2
          refine ⟨HK5.out.size, fun q hq => HK5.out.block q ?_ ?_, ⟨D.put (.int .i64 (A1 : Int)) (.lit (.bool true)), ?_, ?_⟩, (HK5.out.block _ HV2.out.lt (by omega)).trans HV2.out, (HK5.out.block _ HV3.out.lt (by omega)).trans HV3.out, HK5.out.below hBW hBW.size (fun q hq => by omega)⟩
          · rcases hq with hq | hq | hq | hq <;> omega
          · rcases hq with hq | hq | hq | hq <;> omega
          · rw [List.map_append, List.map_cons, List.map_nil, ← HA.out]
            exact HV0.out.put A1 _
          · rw [List.length_append]
            exact HO5.out
    case done =>
      rintro it W hit ⟨⟨D, hv0, hv1⟩, hv2, hv3, hBW⟩ hK
      rw [hszL] at hit hK ⊢
      have hWs : w1.heap.size + 3 < W.heap.size := (Array.getElem?_eq_some_iff.1 hK).1
      have hmf : ∀ (fn : Fn) (first cap : Array Value) (w : World), (Instr.makeFunc fn first cap).run Try.prog w = .ok (.func fn first cap) w := fun _ _ _ _ => rfl
      have HK := hid hK
      have HV0 := hid hv0
      have HV1 := hid hv1
      have HV2 := hid hv2
      have HV3 := hid hv3
      have HBW := hid hBW
      obtain ⟨w0, hw0⟩ : ∃ w0, w0 = ((W.alloc (.cells #[.func (.func 82) #[] #[.pointer (some ⟨w1.heap.size + 1, 0, none⟩)]] 93)).alloc (.cells #[.slice none 0 0] 25)).alloc (.cells #[.func (.func 83) #[] #[.pointer (some ⟨W.heap.size, 0, none⟩), .pointer (some ⟨w.heap.size + 1, 0, none⟩), .pointer (some ⟨W.heap.size + 1, 0, none⟩), .pointer (some ⟨W.heap.size + 1 + 1, 0, none⟩)]] 70) := ⟨_, rfl⟩
      have hz0 : w0.heap.size = W.heap.size + 3 := by rw [hw0]; simp
      have hbW0 : Below W.heap.size W w0 := by rw [hw0]; exact ((((Below.refl _ W).alloc (Nat.le_refl _) _).alloc (by simp) _).alloc (by simp; omega) _)
      have hx1 : Boxed w0 W.heap.size 93 (.func (.func 82) #[] #[.pointer (some ⟨w1.heap.size + 1, 0, none⟩)]) := by
        rw [hw0]; exact ((Boxed.new W 93 _).alloc _).alloc _
      have hx2 : Boxed w0 (W.heap.size + 1) 25 (.slice none 0 0) := by
        rw [hw0]
        have := Boxed.new (W.alloc (.cells #[.func (.func 82) #[] #[.pointer (some ⟨w1.heap.size + 1, 0, none⟩)]] 93)) 25 (.slice none 0 0)
        rw [World.size_alloc] at this
        exact this.alloc _
      have hx3 : Boxed w0 (W.heap.size + 1 + 1) 70 (.func (.func 83) #[] #[.pointer (some ⟨W.heap.size, 0, none⟩), .pointer (some ⟨w.heap.size + 1, 0, none⟩), .pointer (some ⟨W.heap.size + 1, 0, none⟩), .pointer (some ⟨W.heap.size + 1 + 1, 0, none⟩)]) := by
        rw [hw0]
        have := Boxed.new ((W.alloc (.cells #[.func (.func 82) #[] #[.pointer (some ⟨w1.heap.size + 1, 0, none⟩)]] 93)).alloc (.cells #[.slice none 0 0] 25)) 70 (.func (.func 83) #[] #[.pointer (some ⟨W.heap.size, 0, none⟩), .pointer (some ⟨w.heap.size + 1, 0, none⟩), .pointer (some ⟨W.heap.size + 1, 0, none⟩), .pointer (some ⟨W.heap.size + 1 + 1, 0, none⟩)])
        rw [World.size_alloc, World.size_alloc] at this
        exact this
      have hcw0 := (boxed_below hv3 hbW0).cell
      have hms : ∀ m ∈ (pics (T + 1) P).map (fun x => fmask l x n), m < 4096 := by
        intro m hm'
        obtain ⟨x, _, rfl⟩ := List.mem_map.1 hm'
        exact Nat.lt_of_lt_of_le (fmask_lt l x n) (Nat.le_trans (Nat.pow_le_pow_right (by omega) (show n ≤ 12 by omega)) (by decide))
      have HTRY := hid (try_c w0 W.heap.size (w.heap.size + 1) (w1.heap.size + 1) w1.heap.size (W.heap.size + 1) n _ D _ a cap hv0 hms (map_below hv1 hbW0) hx1 (boxed_below hv3 hbW0) (boxed_below hv2 hbW0).cell hx3 (by omega) (by omega) (by omega) (by omega) h12)
      have HT0 := hid (show TryW w0 (W.heap.size + 1) [] w0 from ⟨Below.refl _ _, rfl, by omega, _, hx2, World.ownsRow_nil _ _ _ _⟩)
      have HBW0 := hid (chain hBW hbW0)
      have HK0 := hid ((hbW0.block _ hWs).trans hK)
      have HX3 := hid hx3
      have HCLM := hid (show clM ((pics (T + 1) P).map fun x => fmask l x n) = clB l (pics (T + 1) P) by rw [← HN.out]; exact clM_clB _ _)
      rw [hw0] at hcw0
      have HW0 := hid hw0
      clear hv0 hv1 hv2 hv3 hBW hK hRowL hBoxL hCelL hG0 hG1 hw0 hx1 hx2 hx3 hms hbW0 HV0 HV1 HV2 HBW HK
      gi_wp2
      rw [← HW0.out]
      clear hcw0
      refine wpIn_wide.2 ?_
      have eg2 := enters_of Try.func83 (by kernel_rfl) rfl
      go_loopw [50] (fun s50 wr => ∃ k : Nat, k ≤ n + 1 ∧ s50 = .int .i64 k ∧ Hid (TryW w0 (W.heap.size + 1) [] wr ∧ ∀ j, j < k → search n (clB l (pics (T + 1) P)) j 0 0 = none)) (fun i _ => n + 1 - (intOf i).toNat)
      case atStart => exact ⟨0, Nat.zero_le _, rfl, hid ⟨HT0.out, fun j hj => by omega⟩⟩
      case round =>
        obtain ⟨k, hk, rfl, HH2⟩ := hrel
        by_cases hlt : k < n + 1
        · have hself : wr.cell? ⟨W.heap.size + 1 + 1, 0, none⟩ = _ := (Boxed.cell (show Boxed _ _ _ _ from HH2.out.1.2.1.trans HX3.out))
          obtain ⟨sr, hsr⟩ : ∃ sr, sr = search n (clB l (pics (T + 1) P)) k 0 0 := ⟨_, rfl⟩
          have HC := hid (show Calls Try.prog 83 #[.int .i64 0, .int .i64 0, .int .i64 k, .pointer (some ⟨W.heap.size, 0, none⟩), .pointer (some ⟨w.heap.size + 1, 0, none⟩), .pointer (some ⟨W.heap.size + 1, 0, none⟩), .pointer (some ⟨W.heap.size + 1 + 1, 0, none⟩)] wr fun e w' =>
              e = .returned (.bool sr.isSome) ∧ TryW w0 (W.heap.size + 1) ([] ++ (sr.getD []).map (fun i : Nat => (i : Int))) w' from by
            rw [hsr, ← HCLM.out]
            exact HTRY.out k 0 0 [] wr HH2.out.1 (Nat.zero_le _) (by decide) (by omega) (by simp; omega))
          have HSR := hid hsr
          clear hsr
          cases hq : sr with
          | some t0 =>
            rw [hq] at HC HSR
            go_wp2_with (refine HC.out.mono ?_; rintro e w5 ⟨rfl, hw5⟩; refine Stop.of ?_)
            refine Stop.go ?_
            simp only [Option.isSome_some, Option.getD_some, List.nil_append] at hw5 ⊢
            obtain ⟨t1, t2, t3, v5, hb5, ho5⟩ := hw5
            obtain ⟨va, vc, rfl⟩ := ownsRow_slice ho5
            have d5 := hb5.cell
            have hct : CT = some t0 := by
              rw [HCT.out]
              unfold clashT
              rw [HN.out]
              exact findSome_at _ hlt HH2.out.2 HSR.out.symm
            have hlen : (t0.map (fun i : Nat => (i : Int))).length ≤ maxLen := by
              have := (search_spec n (clB l (pics (T + 1) P)) k 0 0).1 t0 HSR.out.symm
              rw [List.length_map, this.1]
              unfold maxLen; omega
            have HCT2 := hid hct
            have HLE := hid hlen
            have HO5 := hid ho5
            have HT1 := hid t1
            clear ho5 t1 t2 t3 hb5 hct hlen HCT
            go_wp2
            gi_wp2
            have hKr : w5.heap[w1.heap.size + 3]? = some (.deferred (some [])) := (HT1.out.block _ (by omega)).trans HK0.out
            refine ⟨by simp, .inl ⟨_, _, rfl, run_takeDeferred hKr, ?_⟩⟩
            have hkp := Keep.put w5 (w1.heap.size + 3) (.deferred none)
            have hbw : Below w.heap.size w w5 := HBW0.out.trans (HT1.out.mono (by have := HBW0.out.size; omega))
            refine ⟨.tuple #[.slice va _ vc, .int .i64 0], ?_, va, _, vc, by rw [HEV.out.1, HCT2.out]; rfl, by rw [HEV.out.2, HCT2.out]; rfl, HLE.out, ?_, ?_⟩
            · simp [results, Try.results43, go_sem]
            · rw [HEV.out.2, HCT2.out]
              exact own_ints_at (own_keep HO5.out hkp (fun q hq => by omega)) rfl HLE.out
            · exact hkp.below hbw hbw.size (fun q hq => by omega)
          | none =>
            rw [hq] at HC HSR
            go_wp2_with (refine HC.out.mono ?_; rintro e w5 ⟨rfl, hw5⟩; refine Stop.of ?_)
            refine Stop.go ?_
            simp only [Option.isSome_none, Option.getD_none, List.map_nil, List.nil_append] at hw5 ⊢
            have HW5 := hid hw5
            clear hw5
            go_wp2
            refine ⟨⟨k + 1, by omega, by go_num, hid ⟨HW5.out, fun j hj => ?_⟩⟩, by simp [intOf]; omega⟩
            by_cases e : j = k
            · subst e; exact HSR.out.symm
            · exact HH2.out.2 j (by omega)
        · obtain rfl : k = n + 1 := by omega
          have hct : CT = none := by
            rw [HCT.out]
            unfold clashT
            rw [HN.out]
            exact findSome_no _ HH2.out.2
          have HCT2 := hid hct
          have HT1 := hid HH2.out.1.1
          clear hct HCT
          go_wp2
          gi_wp2
          have hKr : wr.heap[w1.heap.size + 3]? = some (.deferred (some [])) := (HT1.out.block _ (by omega)).trans HK0.out
          refine ⟨by simp, .inl ⟨_, _, rfl, run_takeDeferred hKr, ?_⟩⟩
          have hkp := Keep.put wr (w1.heap.size + 3) (.deferred none)
          have hbw : Below w.heap.size w wr := HBW0.out.trans (HT1.out.mono (by have := HBW0.out.size; omega))
          refine ⟨.tuple #[.slice none 0 0, .int .i64 8], ?_, none, 0, 0, by rw [HEV.out.1, HCT2.out]; rfl, by rw [HEV.out.2, HCT2.out]; rfl, by decide, by rw [HEV.out.2, HCT2.out]; exact fun j hj => by simp at hj, hkp.below hbw hbw.size (fun q hq => by omega)⟩
          simp [results, Try.results43, go_sem]
    case stop => intro c pre W _ h _; exact h.elim
end Go.Proofs.Ytdcflpfaaeijoaa
