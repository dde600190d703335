/- Walk: Clash of the reference. -/
import Derived.Test.YtdcflpfaaeijoaaBitAR
namespace Go.Proofs.Ytdcflpfaaeijoaa
open Go.RowKit Go.Maps
set_option linter.unusedVariables false

theorem cell_ne {W : World} {b o B : Nat} {v : Value} (h : W.cell? ⟨b, o, none⟩ = some v) {m : World} (hB : ∃ o, W.heap[B]? = some o ∧ o.isCells = false) : b ≠ B := by
  rintro rfl
  obtain ⟨ob, h1, h2⟩ := hB
  unfold World.cell? at h
  simp only [h1] at h
  cases ob <;> simp [Obj.isCells] at h h2

theorem IntsAt.keepB {W W' : World} {a : Option Addr} {l : List Int} {B : Nat} (h : IntsAt W a l) (hB : ∃ o, W.heap[B]? = some o ∧ o.isCells = false) (hk : Keep (fun k => k ≠ B) W W') : IntsAt W' a l := by
  intro j hj
  obtain ⟨b, off, e, hb, hc⟩ := h j hj
  exact ⟨b, off, e, Nat.lt_of_lt_of_le hb hk.size, hk.cell hc (cell_ne (m := W) hc hB)⟩
theorem RowsAt.keepB {W W' : World} {a : Option Addr} {ls : List (List Int)} {B : Nat} (h : RowsAt W a ls) (hB : ∃ o, W.heap[B]? = some o ∧ o.isCells = false) (hk : Keep (fun k => k ≠ B) W W') : RowsAt W' a ls := by
  intro j hj
  obtain ⟨b, off, ra, n, cap, e, hlt, h0, hn, hm, hi⟩ := h j hj
  exact ⟨b, off, ra, n, cap, e, Nat.lt_of_lt_of_le hlt hk.size, hk.cell h0 (cell_ne (m := W) h0 hB), hn, hm, hi.keepB hB hk⟩
theorem ownsMap_block {w : World} {P : Program} {k : TypeId} {R : Value → Option (DataW Unit × List MemPlace)} {b n : Nat} {D : DataW Unit} (h : w.ownsMap P k R b n D) : ∃ o, w.heap[b]? = some o ∧ o.isCells = false := by
  obtain ⟨es, clock, hbk, F, q1, q2⟩ := h
  exact ⟨_, hbk, rfl⟩

theorem bit_test {s j : Nat} (hs : s < 4096) : (bits .and .i64 ((s : Int) / 2 ^ j) 1 == 1) = s.testBit j := by
  have e : ((s : Int) / 2 ^ j) = ((s / 2 ^ j : Nat) : Int) := by
    first
      | (push_cast; rfl)
      | simp
  have h := and_i64 (a := s / 2 ^ j) (b := 1) (Nat.lt_of_le_of_lt (Nat.div_le_self _ _) hs) (by decide)
  rw [e, show (1 : Int) = ((1 : Nat) : Int) from rfl, h, Nat.and_one_is_mod, Nat.testBit_eq_decide_div_mod_eq]
  rw [Bool.eq_iff_iff]
  simp
  omega

def BestV (W : World) (v : Value) : Option (List Nat) → Prop
  | none => v = .slice none 0 0
  | some b => ∃ ad cap, v = .slice (some ad) b.length cap ∧ b.length ≤ 12 ∧ IntsAt W (some ad) (b.map fun i : Nat => (i : Int))
theorem BestV.below {W W' : World} {v : Value} {o : Option (List Nat)} (h : BestV W v o) (hb : Below W.heap.size W W') : BestV W' v o := by
  cases o with
  | none => exact h
  | some b =>
    obtain ⟨ad, cap, e, hl, hi⟩ := h
    exact ⟨ad, cap, e, hl, hi.below hb⟩

set_option maxRecDepth 100000 in
set_option maxHeartbeats 8000000 in
theorem refClash_c (w : World) (p t : Int) (a : Option Addr) (n cap : Nat) (l : List Cel) (hn : l.length = n) (hm : n ≤ maxLen) (H : CellsAt w a l) :
    Calls Try.prog 44 #[.agg #[.int .i64 p, .int .i64 t], .slice a n cap] w fun e w' => ResInts (clashE p t l) (clashV p t l) w e w' := by
  obtain ⟨wf, hwf⟩ : ∃ wf, wf = w.alloc (.cells #[.int .i64 p, .int .i64 t] 23) := ⟨_, rfl⟩
  have hb0 : Below w.heap.size w wf := by rw [hwf]; exact (Below.refl _ _).alloc (Nat.le_refl _) _
  have HF := hid (fun (W : World) (hb : Below wf.heap.size wf W) => show W.cell? ⟨w.heap.size, 0, none⟩ = some (.int .i64 p) ∧ W.cell? ⟨w.heap.size, 1, none⟩ = some (.int .i64 t) from by
    have hz : wf.heap.size = w.heap.size + 1 := by rw [hwf]; simp
    refine ⟨(hb.cell (p := ⟨w.heap.size, 0, none⟩) (show w.heap.size < wf.heap.size by omega)).trans ?_, (hb.cell (p := ⟨w.heap.size, 1, none⟩) (show w.heap.size < wf.heap.size by omega)).trans ?_⟩ <;> (rw [hwf, World.cell?_alloc_at _ _ _ _ rfl]; rfl))
  have HB := hid (fun (W : World) (hb : Below wf.heap.size wf W) => chain hb0 hb)
  have HV := hid (fun (W : World) (hb : Below w.heap.size w W) => refValidCells_c W p t a n cap l hn hm (H.below hb))
  cases hf : okCells p t l
  · have e1 : clashE p t l = 1 := by simp [clashE, hf]
    have e2 : clashV p t l = [] := by simp [clashV, hf]
    rw [e1, e2]
    rw [hf] at HV
    clear e1 e2 hn H
    go_enter Try.func44, Try.ntmps44
    go_wp2_with fail
    rw [← hwf]
    clear hwf
    refine (HV.out _ hb0).mono ?_
    rintro e w1 ⟨rfl, hb1⟩
    go_wp2
    go_ret2
    exact ⟨none, 0, 0, rfl, rfl, by decide, fun j hj => by simp at hj, HB.out _ hb1⟩
  rw [hf] at HV
  by_cases h12 : n ≤ 12
  rotate_left
  · have e1 : clashE p t l = 4 := by rw [clashE, if_pos hf, if_neg (by omega)]
    have e2 : clashV p t l = [] := by rw [clashV, if_neg (by rintro ⟨_, h⟩; omega)]
    rw [e1, e2]
    have hn30 : n ≤ 30 := by
      simp only [okCells, Bool.and_eq_true, decide_eq_true_eq] at hf
      omega
    clear e1 e2 hn H
    go_enter Try.func44, Try.ntmps44
    go_wp2_with fail
    rw [← hwf]
    clear hwf
    refine (HV.out _ hb0).mono ?_
    rintro e w1 ⟨rfl, hb1⟩
    go_wp2
    go_ret2
    exact ⟨none, 0, 0, rfl, rfl, by decide, fun j hj => by simp at hj, HB.out _ hb1⟩
  obtain ⟨hfd, hrows⟩ := okCells_bd hf
  obtain ⟨p1, p8, t0, t3⟩ := okField_bd hfd
  obtain ⟨P, rfl⟩ := Int.eq_ofNat_of_zero_le (show 0 ≤ p by omega)
  obtain ⟨T, rfl⟩ := Int.eq_ofNat_of_zero_le t0
  have hP : P ≤ 8 := by omega
  have hT : T ≤ 3 := by omega
  have e1 : clashE (P : Int) (T : Int) l = (if (clashT l (pics (T + 1) P)).isSome then 0 else 8) := by rw [clashE, if_pos hf, if_pos (by omega)]; rfl
  have e2 : clashV (P : Int) (T : Int) l = ((clashT l (pics (T + 1) P)).getD []).map (fun i : Nat => (i : Int)) := by rw [clashV, if_pos ⟨hf, by omega⟩]; rfl
  have HRW := hid (show ∀ c ∈ l, c.row.length ≤ P from fun c hc => by have := hrows c hc; omega)
  have HL := hid (fun (W : World) (hb : Below w.heap.size w W) => refFitting_c W P T hP hT a n cap l hn hm (H.below hb) HRW.out)
  have hfz := fitting_le hP hT l
  by_cases hfit : fitting P T l = []
  rotate_left
  · have hct : clashT l (pics (T + 1) P) = none := by
      rw [clashT_none]
      obtain ⟨x, hx⟩ := List.exists_mem_of_ne_nil _ hfit
      obtain ⟨h1, h2⟩ := List.mem_filter.1 hx
      exact ⟨x, h1, h2⟩
    rw [hct] at e1 e2
    rw [e1, e2]
    have hpos : 0 < (fitting P T l).length := List.length_pos_iff.2 hfit
    obtain ⟨F, hF⟩ : ∃ F, F = fitting P T l := ⟨_, rfl⟩
    rw [← hF] at HL hpos hfz
    clear e1 e2 hn H hrows hct hfit hF
    go_enter Try.func44, Try.ntmps44
    go_wp2_with fail
    rw [← hwf]
    clear hwf
    refine (HV.out _ hb0).mono ?_
    rintro e w1 ⟨rfl, hb1⟩
    obtain ⟨f0, f1⟩ := HF.out _ hb1
    go_wp2_with (go_at_call 71; refine (HL.out _ (HB.out _ hb1)).mono ?_; rintro e w4 ⟨v, base, rfl, hbase, hR, hb4⟩; refine Stop.of ?_)
    refine Stop.go ?_
    obtain ⟨a4, c4, rfl, hl4, _, _⟩ := hR.reads
    obtain ⟨fl, hfl⟩ : ∃ n, n = F.length := ⟨_, rfl⟩
    rw [← hfl] at hpos hfz hl4 ⊢
    clear hR hfl
    go_wp2
    go_ret2
    exact ⟨none, 0, 0, rfl, rfl, by decide, fun j hj => by simp at hj, HB.out _ (chain hb1 hb4)⟩
  obtain ⟨t0', hct⟩ : ∃ t, clashT l (pics (T + 1) P) = some t := by
    cases hc : clashT l (pics (T + 1) P) with
    | some t => exact ⟨t, rfl⟩
    | none =>
      obtain ⟨x, h1, h2⟩ := (clashT_none l (pics (T + 1) P)).1 hc
      have : x ∈ fitting P T l := List.mem_filter.2 ⟨h1, h2⟩
      rw [hfit] at this; simp at this
  rw [hct] at e1 e2
  rw [e1, e2]
  have hbest := bestS_clash l (pics (T + 1) P) hct
  rw [hn] at hbest
  have hpn : 0 < (pics (T + 1) P).length := by rw [length_pics]; exact Nat.pow_pos (by omega)
  have hpz : (pics (T + 1) P).length ≤ 65536 := by rw [length_pics]; exact pow_le hP hT
  have HPL := hid (show ∀ x ∈ pics (T + 1) P, x.length = P from fun x hx => (mem_pics (by omega) hx).1)
  have HPI := hid (fun (W : World) => refPictures_c W P T hP hT)
  rw [hfit] at HL
  obtain ⟨XS, hXS⟩ : ∃ X, X = pics (T + 1) P := ⟨_, rfl⟩
  rw [← hXS] at hbest hpn hpz HPL HPI
  have HBEST := hid hbest
  have HN := hid hn
  have HH := hid H
  have hd12 : decide ((12 : Int) < (n : Int)) = false := by simp; omega
  obtain ⟨xn, hxn⟩ : ∃ n, n = XS.length := ⟨_, rfl⟩
  rw [← hxn] at hpn hpz
  have HXN := hid hxn
  have hmm := @run_makeMap Try.prog
  clear e1 e2 hn H hrows hfit hXS hct hbest hxn hfz
  go_enter Try.func44, Try.ntmps44
  go_wp2_with fail
  rw [← hwf]
  clear hwf
  refine (HV.out _ hb0).mono ?_
  rintro e w1 ⟨rfl, hb1⟩
  obtain ⟨f0, f1⟩ := HF.out _ hb1
  go_wp2_with (go_at_call 71; refine (HL.out _ (HB.out _ hb1)).mono ?_; rintro e w4 ⟨v, base, rfl, hbase, hR, hb4⟩; refine Stop.of ?_)
  refine Stop.go ?_
  obtain ⟨a4, c4, rfl, hl4, _, _⟩ := hR.reads
  clear hR hl4 hbase f0 f1
  have hbw4 := chain hb1 hb4
  obtain ⟨wm, hwm⟩ : ∃ wm, wm = w4.alloc (.map #[] 0) := ⟨_, rfl⟩
  have hbm : Below w4.heap.size w4 wm := by rw [hwm]; exact (Below.refl _ _).alloc (Nat.le_refl _) _
  have hown : wm.ownsMap Try.prog 3 (plainElem (H := Unit) Try.prog 4) w4.heap.size 0 (.map []) := by rw [hwm]; exact World.ownsMap_made _ _ _ _
  have hbwm := chain hbw4 hbm
  obtain ⟨f0, f1⟩ := HF.out _ hbwm
  rw [hwm] at f0 f1
  have HWM := hid hwm
  have HOWN := hid hown
  clear hwm hown
  go_wp2_with (go_at_call 52; refine Stop.of ?_)
  rw [← HWM.out]
  refine Stop.go ?_
  refine (HPI.out _).mono ?_
  rintro e w6 ⟨v6, base6, rfl, hbase6, hR6, hb6⟩
  obtain ⟨pa, pc, rfl, _, hpr, _⟩ := hR6.reads
  rw [← HXN.out]
  have hbw6 := chain hbwm hb6
  have HPR := hid hpr
  have HOWN6 := hid (map_below HOWN.out hb6)
  have HB4 := hid (show wf.heap.size ≤ w4.heap.size from hbw4.size)
  have hpc : xn ≤ 65536 := hpz
  clear hR6 hpr hbase6 f0 f1 hd12
  go_wp2
  go_loopw [34] (fun i wr => ∃ k : Nat, k ≤ xn ∧ i = .int .i64 k ∧ Hid ((∃ D, KeysB D ((XS.take k).map fun x => wmask l x n) ∧ wr.ownsMap Try.prog 3 (plainElem (H := Unit) Try.prog 4) w4.heap.size k D) ∧ Keep (fun k => k ≠ w4.heap.size) w6 wr)) (fun i _ => xn - (intOf i).toNat)
  case atStart => exact ⟨0, Nat.zero_le _, rfl, hid ⟨⟨_, KeysB.nil, HOWN6.out⟩, Keep.refl _ _⟩⟩
  case round =>
    obtain ⟨k, hk, rfl, HHR⟩ := hrel
    have hkeep := HHR.out.2
    have hbwr : Below wf.heap.size wf wr := hkeep.below hbw6 hbw6.size (fun k hk => by have := HB4.out; omega)
    by_cases hlt : k < xn
    · have hrr := HPR.out.keepB (ownsMap_block HOWN6.out) hkeep
      have hkx : k < XS.length := by rw [← HXN.out]; exact hlt
      obtain ⟨b, off, ra, rn, rc, rfl, hbs, hcx, hrn, hrm, hri⟩ := rows_elem hrr (k := k) hkx
      obtain ⟨x, hx⟩ : ∃ x, x = XS[k]?.getD [] := ⟨_, rfl⟩
      rw [← hx] at hrn hri
      have hxm : x ∈ XS := by rw [hx, List.getElem?_eq_getElem hkx]; exact List.getElem_mem hkx
      have HXL := hid (HPL.out x hxm)
      have htake : (XS.take (k + 1)).map (fun x => wmask l x n) = (XS.take k).map (fun x => wmask l x n) ++ [wmask l x n] := by
        rw [List.take_add_one, List.map_append, List.getElem?_eq_getElem hkx, hx, List.getElem?_eq_getElem hkx]; rfl
      have HTK := hid htake
      have HRI := hid hri
      have HRN := hid hrn
      have HCS := hid (fun k => show wmask l x (k + 1) = if fitC x (cellAt l k) then wmask l x k else wmask l x k ||| 2 ^ k from rfl)
      have HCB := hid (fun k (hk : k ≤ n) => show wmask l x k < 4096 from Nat.lt_of_lt_of_le (wmask_lt l x k) (Nat.le_trans (Nat.pow_le_pow_right (by omega) (show k ≤ 12 by omega)) (by decide)))
      unfold maxLen at hrm
      clear hri hrn htake hrr hx hxm
      go_wp2
      go_loopw [9, 40] (fun s9 s40 wq => ∃ j : Nat, j ≤ n ∧ s40 = .int .i64 j ∧ s9 = .int .i64 (wmask l x j : Nat) ∧ Below wr.heap.size wr wq) (fun _ i _ => n - (intOf i).toNat)
      case atStart => exact ⟨0, Nat.zero_le _, rfl, rfl, Below.refl _ _⟩
      case round =>
        obtain ⟨j, hj, rfl, rfl, hb⟩ := hrel
        have hbnd := HCB.out j hj
        have hstep := HCS.out j
        obtain ⟨A1, hA1⟩ : ∃ A, A = wmask l x j := ⟨_, rfl⟩
        rw [← hA1] at hbnd hstep ⊢
        have HA := hid hA1
        clear hA1
        by_cases hlt2 : j < n
        · have hjl : j < l.length := by rw [HN.out]; exact hlt2
          obtain ⟨b2, off2, qa, qn, qc, rfl, hbs2, h0, h1, h2, hqn, hqm, hqi⟩ := HH.out.below (HB.out _ (chain hbwr hb)) j hjl
          have hce : cellAt l j = l[j] := by unfold cellAt; rw [List.getElem?_eq_getElem hjl]; rfl
          have hrl : (l[j]).row.length ≤ x.length := by rw [HXL.out]; exact HRW.out _ (List.getElem_mem hjl)
          obtain ⟨wy, hwy⟩ : ∃ wy, wy = (wr.alloc (.cells #[.slice qa qn qc, .int .i64 l[j].lo, .int .i64 l[j].hi] 41)).alloc (.cells #[.slice qa qn qc, .int .i64 l[j].lo, .int .i64 l[j].hi] 41) := ⟨_, rfl⟩
          have hbwy : Below wr.heap.size wr wy := by rw [hwy]; exact (((Below.refl _ _).alloc (Nat.le_refl _) _).alloc (by simp) _)
          have hcells : CellsAt wy (some ⟨wr.heap.size + 1, 0, none⟩) [l[j]] := by
            have hnw := news3 (wr.alloc (.cells #[.slice qa qn qc, .int .i64 l[j].lo, .int .i64 l[j].hi] 41)) (.slice qa qn qc) (.int .i64 l[j].lo) (.int .i64 l[j].hi) 41 ⟨wr.heap.size + 1, 0, none⟩ (by rw [World.size_alloc])
            intro i hi
            obtain rfl : i = 0 := by simp at hi; omega
            refine ⟨wr.heap.size + 1, 0, qa, qn, qc, rfl, by rw [hwy]; simp, ?_, ?_, ?_, hqn, hqm, hqi.below hbwy⟩
            · rw [hwy]; have := hnw 0 _ rfl; rw [Addr.add_lit] at this; exact this
            · rw [hwy]; have := hnw 1 _ rfl; rw [Addr.add_lit] at this; exact this
            · rw [hwy]; have := hnw 2 _ rfl; rw [Addr.add_lit] at this; exact this
          have hle1 : ∀ c ∈ [l[j]], c.row.length ≤ rn := by
            intro c hc
            have e : c = l[j] := by simpa using hc
            rw [e, ← HRN.out]; exact hrl
          have HC := hid (refFits_c wy (some ⟨wr.heap.size + 1, 0, none⟩) 1 1 [l[j]] rfl (by decide) hcells ra rn rc x HRN.out (HRI.out.below (chain hb hbwy)) hle1)
          rw [show fitA [l[j]] x = fitC x l[j] by simp [fitA]] at HC
          rw [hce] at hstep
          have HST := hid hstep
          have HWY := hid hwy
          have hby := chain hb hbwy
          clear hstep hqn hqi hce hrl hcells hwy hqm hle1
          cases hpx : fitC x l[j]
          · rw [hpx] at HC
            have h2i : 2 ^ j < 4096 := by
              calc 2 ^ j < 2 ^ 12 := Nat.pow_lt_pow_right (by omega) (by omega)
                _ = 4096 := by decide
            obtain ⟨pw, hpw⟩ : ∃ pw : Nat, pw = 2 ^ j := ⟨_, rfl⟩
            obtain ⟨so, hso⟩ : ∃ so : Nat, so = A1 ||| 2 ^ j := ⟨_, rfl⟩
            have q2 : bits .or .i64 (A1 : Int) (pw : Int) = (so : Int) := by rw [hpw, hso]; exact or_i64 hbnd h2i
            have q3 : IntKind.i64.wrap ((2 : Int) ^ j) = (pw : Int) := by
              have e : ((2 : Int) ^ j) = ((2 ^ j : Nat) : Int) := by push_cast; rfl
              rw [e, ← hpw]
              exact IntWalk.i64_in _ (by omega)
            have HSO := hid hso
            clear hpw hso h2i
            go_wp2_with (go_at_call 78; refine Stop.of ?_)
            rw [← HWY.out]
            refine Stop.go ?_
            refine HC.out.mono ?_
            rintro e w7 ⟨rfl, hb7⟩
            go_wp2
            have hq := HST.out
            rw [hpx] at hq
            simp only [Bool.false_eq_true, if_false] at hq
            refine ⟨⟨j + 1, by omega, by go_num, by rw [hq, HSO.out], chain hby hb7⟩, by simp [intOf]; omega⟩
          · rw [hpx] at HC
            go_wp2_with (go_at_call 78; refine Stop.of ?_)
            rw [← HWY.out]
            refine Stop.go ?_
            refine HC.out.mono ?_
            rintro e w7 ⟨rfl, hb7⟩
            go_wp2
            have hq := HST.out
            rw [hpx, if_pos rfl] at hq
            refine ⟨⟨j + 1, by omega, by go_num, by rw [hq], chain hby hb7⟩, by simp [intOf]; omega⟩
        · obtain rfl : j = n := by omega
          obtain ⟨D, hD, hown⟩ := HHR.out.1
          have HO := hid (map_below hown hb)
          have HD := hid hD
          have hwf1 : (Lit.int .i64 (A1 : Int)).wf = true := by simp [Lit.wf, IntKind.min, IntKind.max, IntKind.signed, IntKind.bits]; omega
          have HKEY := hid (show keyOf Try.prog 3 (.int .i64 (A1 : Int)) = some (.int .i64 (A1 : Int)) from keyOf_int_mk Try.underlying3 hwf1)
          have HEL := hid (plainElem_bool (H := Unit) (P := Try.prog) Try.underlying4 true)
          have HLT := hid (show k < maxLen by unfold maxLen; omega)
          clear hown hD hwf1
          go_wp2_with (at_mapUpdate; refine wpList_mapUpdate_own _ rfl _ _ _ 92 rfl 3 4 law3 Try.underlying92 _ w4.heap.size _ _ rfl HO.out HLT.out _ _ _ rfl rfl HKEY.out _ [] HEL.out ?_; refine Stop.of ?_)
          refine Stop.go ?_
          intro w5 hown5 hgrow5
          have HO5 := hid hown5
          have HK5 := hid ((hkeep.trans (Keep.of_below hb)).trans ((Keep.grown hgrow5).mono fun q hq e => hq (by cases e; rfl)))
          clear hown5
          go_wp2
          refine ⟨⟨k + 1, by omega, by go_num, hid ⟨⟨D.put (.int .i64 (A1 : Int)) (.lit (.bool true)), ?_, HO5.out⟩, HK5.out⟩⟩, by simp [intOf]; omega⟩
          rw [HTK.out, ← HA.out]
          exact HD.out.put A1 _
    · obtain rfl : k = xn := by omega
      obtain ⟨⟨D, hD, hown⟩, _⟩ := HHR.out
      obtain ⟨ms, hms⟩ : ∃ ms, ms = XS.map fun x => wmask l x n := ⟨_, rfl⟩
      rw [List.take_of_length_le (by rw [← HXN.out]; exact Nat.le_refl _), ← hms] at hD
      have HBEST2 := hid (show bestS ms n (2 ^ n) = some t0' by rw [hms]; exact HBEST.out)
      have HMS := hid (show ∀ m ∈ ms, m < 4096 from fun m hm => by
        rw [hms] at hm
        obtain ⟨x, _, rfl⟩ := List.mem_map.1 hm
        exact Nat.lt_of_lt_of_le (wmask_lt l x n) (Nat.le_trans (Nat.pow_le_pow_right (by omega) (show n ≤ 12 by omega)) (by decide)))
      have HMP := hid (show ∃ m, m ∈ ms from by
        have hx : 0 < XS.length := by rw [← HXN.out]; exact hpn
        exact ⟨wmask l XS[0] n, by rw [hms]; exact List.mem_map.2 ⟨_, List.getElem_mem hx, rfl⟩⟩)
      have HD := hid hD
      have HO := hid hown
      obtain ⟨pn, hpn2⟩ : ∃ pn : Nat, pn = 2 ^ n := ⟨_, rfl⟩
      have hpn3 : pn ≤ 4096 := by
        rw [hpn2]
        calc 2 ^ n ≤ 2 ^ 12 := Nat.pow_le_pow_right (by omega) h12
          _ = 4096 := by decide
      have q3 : IntKind.i64.wrap ((2 : Int) ^ n) = (pn : Int) := by
        have e : ((2 : Int) ^ n) = ((2 ^ n : Nat) : Int) := by push_cast; rfl
        rw [e, ← hpn2]
        exact IntWalk.i64_in _ (by omega)
      rw [← hpn2] at HBEST2
      have HPN := hid hpn2
      have heq := fun (w : World) (a : Option Addr) (n c : Nat) => Lib.run_eql_slice_nil (P := Try.prog) w 25 3 a n c 0 0 Try.underlying25
      clear hD hown hms hpn2
      go_wp2
      clear q3
      obtain ⟨w9, hw9⟩ : ∃ w9, w9 = wr := ⟨_, rfl⟩
      rw [← hw9] at hbwr HO ⊢
      clear hw9 hkeep HHR
      go_loopw [12, 61] (fun v i wq => ∃ s : Nat, s ≤ pn ∧ i = .int .i64 s ∧ Below w9.heap.size w9 wq ∧ Hid (BestV wq v (bestS ms n s))) (fun _ i _ => pn - (intOf i).toNat)
      case atStart => exact ⟨0, Nat.zero_le _, rfl, Below.refl _ _, hid rfl⟩
      case round =>
        obtain ⟨s, hs, rfl, hb9, HBV⟩ := hrel
        by_cases hlt3 : s < pn
        · obtain ⟨wS, hwS⟩ : ∃ wS, wS = wr := ⟨_, rfl⟩
          rw [← hwS] at hb9 HBV ⊢
          clear hwS
          have HO2 := hid (map_below HO.out hb9)
          have hs4 : s < 4096 := by omega
          go_wp2_with (at_range; refine wpList_range_own _ rfl _ 92 rfl 3 4 law3 Try.underlying92 _ w4.heap.size _ _ rfl HO2.out ?_; refine Stop.of ?_)
          refine Stop.go ?_
          intro wi hrg0 hg0 hs0
          have HRG := hid hrg0
          clear hrg0
          go_wp2
          go_loopw [14] (fun s14 wq => ∃ (left : Lit → Bool) (cnt : Nat) (b : Bool), s14 = .bool b ∧ wq.ranges Try.prog 3 (plainElem (H := Unit) Try.prog 4) w4.heap.size wS.heap.size k D left cnt ∧ wS.grownBy wq (some wS.heap.size) ∧ wS.heap.size + 1 = wq.heap.size ∧
              Hid ((b = true → ∀ m ∈ ms, left (.int .i64 (m : Int)) = false → ((m &&& s) != 0) = true) ∧ (b = false → ∃ m ∈ ms, ((m &&& s) != 0) = false) ∧ ∀ x : Int, left (.int .i64 x) = true → ∃ m ∈ ms, x = (m : Int)))
            (fun _ wq => wq.rangeLeft w4.heap.size wS.heap.size)
          case atStart =>
            refine ⟨_, _, true, rfl, HRG.out, hg0.but _, hs0.symm, hid ⟨fun _ m hm h => ?_, fun h => (by cases h), HD.out.2.2⟩⟩
            rw [HD.out.2.1 m hm] at h; cases h
          case round =>
            obtain ⟨left, cnt, b, rfl, hrg, hgw, hsw, HHL⟩ := hrel
            have hbe : Below wS.heap.size wS wr := (Below.refl _ wS).grown hgw (Nat.le_refl _) (fun j hj => by cases hj; exact Nat.le_refl _)
            have HR := hid hrg
            go_wp2_with (at_next; refine next_ib _ rfl _ rfl 3 4 law3 Try.underlying3 w4.heap.size wS.heap.size k _ _ _ rfl hrg ?_ ?_)
            · refine Stop.go ?_
              intro hl0
              have hbaw : b = allW ms s := by
                unfold allW
                cases b with
                | true => exact (List.all_eq_true.2 fun m hm => HHL.out.1 rfl m hm (hl0 _)).symm
                | false =>
                  obtain ⟨m, hm, hq⟩ := HHL.out.2.1 rfl
                  exact (List.all_eq_false.2 ⟨m, hm, by rw [hq]; simp⟩).symm
              have HBA := hid hbaw
              clear hl0 hrg HR HHL hgw hsw HRG hbaw
              have hbE := chain hb9 hbe
              obtain ⟨wE, hwE⟩ : ∃ wE, wE = wr := ⟨_, rfl⟩
              rw [← hwE] at hbE hbe ⊢
              clear hwE
              have HBV2 := hid (HBV.out.below hbe)
              obtain ⟨kl, hkl⟩ : ∃ kl : Nat → List Int, kl = fun k => ((List.range k).filter (fun i => s.testBit i)).map (fun i : Nat => (i : Int)) := ⟨_, rfl⟩
              have hfin : kl n = (bitsN n s).map (fun i : Nat => (i : Int)) := by rw [hkl]; rfl
              have hks : ∀ k, kl (k + 1) = kl k ++ (if s.testBit k then [(k : Int)] else []) := by
                intro k
                rw [hkl]
                simp only [List.range_succ, List.filter_append, List.map_append]
                congr 1
                cases h : s.testBit k <;> simp [h]
              have hkn : ∀ k, (kl k).length ≤ k := by
                intro k
                rw [hkl]
                simp only [List.length_map]
                exact Nat.le_trans (List.length_filter_le _ _) (by simp)
              have hk0 : kl 0 = [] := by rw [hkl]; rfl
              have HKSS := hid hks
              have HKN := hid hkn
              have HK0 := hid hk0
              have HFIN := hid hfin
              clear hkl hks hkn hk0 hfin hbe
              go_wp2
              go_loopw [16, 79] (fun v i wq => ∃ k : Nat, k ≤ n ∧ i = .int .i64 k ∧ wq.ownsRow wE.heap.size 3 1 v (kl k).length ((kl k).map (Value.int .i64)) ∧ Below wE.heap.size wE wq) (fun _ i _ => n - (intOf i).toNat)
              case atStart => exact ⟨0, Nat.zero_le _, rfl, by rw [HK0.out]; exact World.ownsRow_nil _ _ _ _, Below.refl _ _⟩
              case round =>
                obtain ⟨j, hj, rfl, ho, hbj⟩ := hrel
                have HOJ := hid ho
                obtain ⟨a5, c5, rfl⟩ := ownsRow_slice ho
                clear ho
                have hkl := HKN.out j
                have hks := HKSS.out j
                obtain ⟨m, hmE⟩ : ∃ m, m = (kl j).length := ⟨_, rfl⟩
                rw [← hmE] at hkl HOJ ⊢
                have HM := hid hmE
                clear hmE
                by_cases hlt5 : j < n
                · have N1 := one_news wr (.int .i64 (j : Int)) 3
                  have N2 := Nat.le_trans hbj.size (le_alloc wr (.cells #[.int .i64 (j : Int)] 3))
                  have hla : Below wE.heap.size wE (wr.alloc (.cells #[.int .i64 (j : Int)] 3)) := hbj.alloc hbj.size _
                  have N3 := HOJ.out.alloc (.cells #[.int .i64 (j : Int)] 3)
                  have M5 := hid (show m + 1 ≤ maxLen by unfold maxLen; omega)
                  have M6 := hid (show (m + 1) * 8 ≤ 140737488355328 by omega)
                  have M7 := hid N2
                  have HN1 := hid N1
                  have HN3 := hid N3
                  have HLA := hid hla
                  have hbt := bit_test (j := j) hs4
                  clear N1 N2 N3 hla
                  cases hbk : s.testBit j
                  · rw [hbk] at hks hbt
                    simp only [Bool.false_eq_true, if_false, List.append_nil] at hks
                    have HK1 := hid hks
                    have HBK := hid hbk
                    clear hks hbk
                    go_wp2
                    refine ⟨⟨j + 1, by omega, by go_num, ?_, hbj⟩, by simp [intOf]; omega⟩
                    rw [HK1.out, ← HM.out]
                    exact HOJ.out
                  · rw [hbk] at hks hbt
                    simp only [if_true] at hks
                    have HK1 := hid hks
                    have HBK := hid hbk
                    clear hks hbk
                    go_wp2_with (at_builtin; refine wpList_app _ rfl (.tmp 87) (.tmp 89) 25 rfl wE.heap.size 3 (.int .i64 0) 1 8 Try.underlying25 info_int rfl Nat.one_pos (.slice a5 m c5) m ((kl j).map (Value.int .i64)) rfl HN3.out (some ⟨wr.heap.size, 0, none⟩) 1 1 [.int .i64 (j : Int)] rfl rfl no_none HN1.out (ints_oneCell .i64 [(j : Int)]) M5.out M6.out M7.out ?_; refine Stop.of ?_)
                    refine Stop.go ?_
                    intro a6 c6 w7 own7 g7
                    have hb7 := HLA.out.grown g7 M7.out (fun q hq => (HN3.out.lt q hq).1)
                    have HO7 := hid own7
                    clear own7
                    go_wp2
                    refine ⟨⟨j + 1, by omega, by go_num, ?_, hb7⟩, by simp [intOf]; omega⟩
                    have := HO7.out
                    rw [HK1.out, List.length_append, List.map_append, ← HM.out]
                    exact this
                · obtain rfl : j = n := by omega
                  have hbv := HBV2.out.below hbj
                  have hb9r := chain hbE hbj
                  have hm12 : m ≤ 12 := by omega
                  have HB9R := hid hb9r
                  have hmb : m = (bitsN j s).length := by rw [HM.out, HFIN.out, List.length_map]
                  have HMB := hid hmb
                  have hli : IntsAt wr a5 ((bitsN j s).map fun i : Nat => (i : Int)) := by
                    rw [← HFIN.out]
                    exact own_ints_at HOJ.out HM.out.symm (by unfold maxLen; omega)
                  have HLI := hid hli
                  clear hks hmb hli HBV HBV2 hb9r hbE
                  cases hbb : b with
                  | false =>
                    have haw : allW ms s = false := by rw [← HBA.out]; exact hbb
                    rw [← bestS_no ms j s haw] at hbv
                    have HBV3 := hid hbv
                    clear hbv haw
                    go_wp2
                    exact ⟨⟨s + 1, by omega, by go_num, HB9R.out, hid HBV3.out⟩, by simp [intOf]; omega⟩
                  | true =>
                    have haw : allW ms s = true := by rw [← HBA.out]; exact hbb
                    have hm0 : 0 < m := by
                      rcases Nat.eq_zero_or_pos m with h | h
                      · exfalso
                        have hnil : bitsN j s = [] := List.eq_nil_of_length_eq_zero (by rw [← HMB.out]; exact h)
                        have hs0 : s = 0 := by
                          have := maskL_bits (n := j) (s := s) (by rw [← HPN.out]; exact hlt3)
                          rw [hnil] at this; exact this.symm
                        obtain ⟨m1, hm1⟩ := HMP.out
                        have := List.all_eq_true.1 haw m1 hm1
                        rw [hs0] at this; simp at this
                      · exact h
                    obtain ⟨g, cp, ea, _, _⟩ := HOJ.out.form hm0
                    simp only [Value.slice.injEq, true_and] at ea
                    obtain ⟨rfl, rfl⟩ := ea
                    have HNEW := hid (show ∀ W, Below wr.heap.size wr W → BestV W (.slice (some ⟨g, 0, none⟩) m c5) (some (bitsN j s)) from fun W hW => ⟨_, c5, by rw [HMB.out], by rw [← HMB.out]; exact hm12, HLI.out.below hW⟩)
                    cases hbs : bestS ms j s with
                    | none =>
                      rw [hbs] at hbv
                      have hv : _ = Value.slice none 0 0 := hbv
                      have HS1 := hid (bestS_first ms j s haw hbs)
                      clear hbv haw hbs
                      subst hv
                      go_wp2
                      exact ⟨⟨s + 1, by omega, by go_num, HB9R.out, hid (by rw [HS1.out]; exact HNEW.out _ (Below.refl _ _))⟩, by simp [intOf]; omega⟩
                    | some b0 =>
                      rw [hbs] at hbv
                      obtain ⟨ad, cp0, rfl, hl0, hi0⟩ := hbv
                      have HBF := hid (before_c wr (some ⟨g, 0, none⟩) (some ad) m c5 b0.length cp0 (bitsN j s) b0 HMB.out.symm rfl (by unfold maxLen; omega) (by unfold maxLen; omega) HLI.out hi0)
                      have HOLD := hid (show ∀ W, Below wr.heap.size wr W → BestV W (.slice (some ad) b0.length cp0) (some b0) from fun W hW => ⟨ad, cp0, rfl, hl0, hi0.below hW⟩)
                      have HAW := hid haw
                      have HBS := hid hbs
                      clear hi0 haw hbs
                      cases hbf : befN (bitsN j s) b0
                      · rw [hbf] at HBF
                        have HS1 := hid (bestS_old ms j s HBS.out hbf)
                        clear hbf
                        go_wp2_with (go_at_call 84; refine HBF.out.mono ?_; rintro e w8 ⟨rfl, hb8⟩)
                        exact ⟨⟨s + 1, by omega, by go_num, chain HB9R.out hb8, hid (by rw [HS1.out]; exact HOLD.out _ hb8)⟩, by simp [intOf]; omega⟩
                      · rw [hbf] at HBF
                        have HS1 := hid (bestS_new ms j s HAW.out HBS.out hbf)
                        clear hbf
                        go_wp2_with (go_at_call 84; refine HBF.out.mono ?_; rintro e w8 ⟨rfl, hb8⟩)
                        exact ⟨⟨s + 1, by omega, by go_num, chain HB9R.out hb8, hid (by rw [HS1.out]; exact HNEW.out _ hb8)⟩, by simp [intOf]; omega⟩
            · refine Stop.go ?_
              intro x c wn cnt1 hlx hrg1 hlt1 hg1 hs1 hen
              obtain ⟨m, hm, rfl⟩ := HHL.out.2.2 x hlx
              have hgw1 := hgw.andThen hg1 (fun j hj => by cases hj; exact Or.inr rfl)
              have hs2 : wS.heap.size + 1 = wn.heap.size := by omega
              have hand := and_i64 (HMS.out m hm) hs4
              have HR1 := hid hrg1
              have HG := hid hgw1
              have HM := hid hm
              clear hrg hrg1 hgw1 hm HRG
              have keyStep : ∀ b' : Bool, b' = (b && ((m &&& s) != 0)) → ((b' = true → ∀ m' ∈ ms, (left (.int .i64 (m' : Int)) && !(Lit.int .i64 (m' : Int)).sameKey (.int .i64 (m : Int))) = false → ((m' &&& s) != 0) = true) ∧ (b' = false → ∃ m ∈ ms, ((m &&& s) != 0) = false) ∧ ∀ x : Int, (left (.int .i64 x) && !(Lit.int .i64 x).sameKey (.int .i64 (m : Int))) = true → ∃ m ∈ ms, x = (m : Int)) := by
                intro b' hb'
                refine ⟨fun ht m' hm' hl => ?_, fun hf => ?_, fun x' hx' => ?_⟩
                · rw [ht] at hb'
                  have hb2 := (Bool.and_eq_true _ _).mp hb'.symm
                  by_cases e : m' = m
                  · subst e; exact hb2.2
                  · refine HHL.out.1 hb2.1 m' hm' ?_
                    cases h : left (.int .i64 (m' : Int))
                    · rfl
                    · rw [h] at hl
                      simp [Lit.sameKey] at hl
                      exact absurd (by exact_mod_cast hl) e
                · rw [hf] at hb'
                  cases hbb : b
                  · exact HHL.out.2.1 hbb
                  · rw [hbb] at hb'
                    exact ⟨m, HM.out, by simpa using hb'.symm⟩
                · simp at hx'
                  exact HHL.out.2.2 x' hx'.1
              have HKS := hid keyStep
              clear keyStep
              cases b with
              | false =>
                go_wp2
                refine ⟨⟨_, cnt1, false, rfl, HR1.out, HG.out, hs2, hid (HKS.out false (by simp))⟩, ?_⟩
                rw [HR1.out.left_eq, HR.out.left_eq]; exact hlt1
              | true =>
                by_cases hc : (m &&& s) = 0
                · have hcb : (((m &&& s : Nat) : Int) != 0) = false := by rw [hc]; simp
                  have HC := hid hc
                  clear hc
                  go_wp2
                  refine ⟨⟨_, cnt1, false, rfl, HR1.out, HG.out, hs2, hid (HKS.out false (by rw [HC.out]; simp))⟩, ?_⟩
                  rw [HR1.out.left_eq, HR.out.left_eq]; exact hlt1
                · have hcb : (((m &&& s : Nat) : Int) != 0) = true := by simp; exact fun h => hc (by exact_mod_cast h)
                  have HC := hid hc
                  clear hc
                  go_wp2
                  refine ⟨⟨_, cnt1, true, rfl, HR1.out, HG.out, hs2, hid (HKS.out true (by simp [HC.out]))⟩, ?_⟩
                  rw [HR1.out.left_eq, HR.out.left_eq]; exact hlt1
        · obtain rfl : s = pn := by omega
          have hbv := HBV.out
          rw [HBEST2.out] at hbv
          obtain ⟨ad, cp0, rfl, hl0, hi0⟩ := hbv
          have HI0 := hid hi0
          clear hi0
          go_wp2
          go_ret2
          have hq : (t0'.map (fun i : Nat => (i : Int))).length = t0'.length ∧ t0'.length ≤ maxLen ∧ IntsAt wr (some ad) (t0'.map (fun i : Nat => (i : Int))) ∧ Below w.heap.size w wr :=
            ⟨by rw [List.length_map], by unfold maxLen; omega, HI0.out, HB.out _ (chain hbwr hb9)⟩
          exact ⟨some ad, t0'.length, cp0, rfl, hq⟩
end Go.Proofs.Ytdcflpfaaeijoaa
