/- The statement BitClashes: the walk of the law. -/
import Derived.Test.YtdcflpfaaeijoaaBitAT
namespace Go.Proofs.Ytdcflpfaaeijoaa
open Go.RowKit Go.Maps
set_option linter.unusedVariables false

theorem AnyT.takeS {P : Program} {md : Region.Mode} {ops : Array Oper} {Q : Exit → Act → World → Prop} {S : World → Prop} {i : Nat} {oi : Oper} {v : Value} {fuel : Nat} {listed : Array Bool} {a : Act} {w : World} (hi : ops[i]? = some oi)
    (hs : Region.noSelect ops = true) (hf : Region.free md ops listed i = true) (hr : (Region.ready md ops listed).contains i = true)
    (hQ : ∀ c a w, Q (.panic c) (a.put oi.dst v) w → Q (.panic c) a w)
    (hw : Region.wanted oi (yielded ops a.tmps) = true) (hy : ∀ w, S w → (execOp a.eval oi).run P w = .ok (.value v) w) (hS : S w)
    (h : AnyT P md ops Q (fun _ w => S w) fuel (listed.setIfInBounds i true) (a.put oi.dst v) w) : AnyT P md ops Q (fun _ w => S w) (fuel + 1) listed a w :=
  AnyT.take hi hs hf hr hQ (fun j _ w hT => hT) (fun w hS => hS) (.inl ⟨hw, hy⟩) hS h

def CntR (src : Value) (i n : Nat) (p t cnt : Int) (W0 : World) (fr fr' : Act) (W : World) : Prop :=
  ∃ v93 v94 v97 v98 v102 v103, fr' = (((((((((((((((((fr.put (some 93) v93).put (some 95) src).put (some 96) (.int .i64 i)).put (some 97) v97).put (some 99) src).put (some 100) (.int .i64 i)).put (some 101) (.int .i64 ((i : Int) + 1))).put (some 102) v102).put (some 94) v94).put (some 98) v98).put (some 103) v103).put (some 104) (.tuple #[.int .i64 cnt, .int .i64 0])).put (some 92) (.tuple #[.int .i64 cnt, .int .i64 0])).put (some 105) (.int .i64 cnt)).put (some 106) (.int .i64 0)).put (some 17) (.int .i64 cnt)).put (some 18) (.int .i64 0)) ∧ Below W0.heap.size W0 W

set_option maxRecDepth 100000 in
set_option maxHeartbeats 8000000 in
theorem bitClashes_c (w : World) (p t : Int) (a : Option Addr) (n cap : Nat) (l : List Cel) (hn : l.length = n) (hm : n ≤ maxLen) (hcap : n ≤ cap) (H : CellsAt w a l) :
    Calls Try.prog 7 #[.agg #[.int .i64 p, .int .i64 t], .slice a n cap] w fun e w' => e = .returned (.bool true) ∧ Below w.heap.size w w' := by
  obtain ⟨wf, hwf⟩ : ∃ wf, wf = w.alloc (.cells #[.int .i64 p, .int .i64 t] 23) := ⟨_, rfl⟩
  have hb0 : Below w.heap.size w wf := by rw [hwf]; exact (Below.refl _ _).alloc (Nat.le_refl _) _
  have HF := hid (fun (W : World) (hb : Below wf.heap.size wf W) => show W.cell? ⟨w.heap.size, 0, none⟩ = some (.int .i64 p) ∧ W.cell? ⟨w.heap.size, 1, none⟩ = some (.int .i64 t) from by
    have hz : wf.heap.size = w.heap.size + 1 := by rw [hwf]; simp
    refine ⟨(hb.cell (p := ⟨w.heap.size, 0, none⟩) (show w.heap.size < wf.heap.size by omega)).trans ?_, (hb.cell (p := ⟨w.heap.size, 1, none⟩) (show w.heap.size < wf.heap.size by omega)).trans ?_⟩ <;> (rw [hwf, World.cell?_alloc_at _ _ _ _ rfl]; rfl))
  have HB := hid (fun (W : World) (hb : Below wf.heap.size wf W) => chain hb0 hb)
  have HFEW := hid (fun W : World => few_c W p t 300)
  have HFIT := hid (fun (W : World) (hb : Below w.heap.size w W) => fit_c W a n cap l hn hm (H.below hb))
  have HAW := hid awake_c
  have HX1 := hid (fun (W : World) (hb : Below w.heap.size w W) => idle_c W p t a n cap l hn hm (H.below hb))
  have HX2 := hid (fun (W : World) (hb : Below w.heap.size w W) => refIdle_c W p t a n cap l hn hm hcap (H.below hb))
  have HX3 := hid (fun (W : World) (hb : Below w.heap.size w W) => clash_c W p t a n cap l hn hm (H.below hb))
  have HX4 := hid (fun (W : World) (hb : Below w.heap.size w W) => refClash_c W p t a n cap l hn hm (H.below hb))
  have HC1 := hid (fun (W : World) (hb : Below w.heap.size w W) => count_c W p t a n cap l hn hm (H.below hb))
  have HC2 := hid (fun (W : World) (a3 : Option Addr) (n3 c3 : Nat) (L : List Cel) (h3 : L.length = n3) (h4 : n3 ≤ maxLen) (H3 : CellsAt W a3 L) => count_c W p t a3 n3 c3 L h3 h4 H3)
  have HQ1 := hid (fun (h : cellsE p t l = 0) => idle_law h)
  have HQ2 := hid (fun (h : clashE p t l = 0) => clash_law h)
  have hfb : fitB l = true → n ≤ 35 := by intro h; simp [fitB] at h; omega
  have HN := hid hn
  have HH := hid H
  unfold maxLen at hm
  clear hn H
  have hcase : (fewB p t 300 = false ∨ fewB p t 300 = true ∧ fitB l = false) ∨ (fewB p t 300 = true ∧ fitB l = true) := by
    cases fewB p t 300 <;> cases fitB l <;> simp
  rcases hcase with h | ⟨h1, h2⟩
  · rcases h with h1 | ⟨h1, h2⟩
    all_goals
      rw [h1] at HFEW
      try rw [h2] at HFIT
      go_enter Try.func7, Try.ntmps7
      go_wp2_with fail
      rw [← hwf]
      clear hwf
      refine (HFEW.out _).mono ?_
      rintro e w1 ⟨rfl, hb1⟩
      go_wp2_with (first | (go_at_call 11; refine (HFIT.out _ (HB.out _ hb1)).mono ?_; rintro e w2 ⟨rfl, hb2⟩) | (go_at_call 12; refine (HAW.out _).mono ?_; rintro e w3 ⟨rfl, hb3⟩))
      go_ret
      first
        | exact ⟨rfl, chain (HB.out _ (chain hb1 hb2)) hb3⟩
        | exact ⟨rfl, chain (HB.out _ hb1) hb3⟩
  rw [h1] at HFEW
  rw [h2] at HFIT
  have hn35 := hfb h2
  clear hfb h1 h2
  go_enter Try.func7, Try.ntmps7
  go_wp2_with fail
  rw [← hwf]
  clear hwf
  refine (HFEW.out _).mono ?_
  rintro e w1 ⟨rfl, hb1⟩
  obtain ⟨f10, f11⟩ := HF.out _ hb1
  go_wp2_with (first
    | (go_at_call 11; refine (HFIT.out _ (HB.out _ hb1)).mono ?_; rintro e w2 ⟨rfl, hb2⟩; have hbw2 := chain hb1 hb2; obtain ⟨f20, f21⟩ := HF.out _ hbw2)
    | (go_at_call 41; refine (HX1.out _ (HB.out _ hbw2)).mono ?_; rintro e w3 ⟨ra, rn, rc, rfl, q1, q2, q3, hb3⟩; have hbw3 := chain hbw2 hb3; obtain ⟨f30, f31⟩ := HF.out _ hbw3; have Q3 := hid (And.intro q1 q3); clear q1 q3)
    | (go_at_call 42; refine (HX2.out _ (HB.out _ hbw3)).mono ?_; rintro e w4 ⟨rb, rm, rd, rfl, q4, q5, q6, hb4⟩; have hbw4 := chain hbw3 hb4; obtain ⟨f40, f41⟩ := HF.out _ hbw4; have Q4 := hid (And.intro q4 q6); clear q4 q6)
    | (go_at_call 43; refine (HX3.out _ (HB.out _ hbw4)).mono ?_; rintro e w5 ⟨sa, sn, sc, rfl, q7, q8, q9, hb5⟩; have hbw5 := chain hbw4 hb5; obtain ⟨f50, f51⟩ := HF.out _ hbw5; have Q5 := hid (And.intro q7 q9); clear q7 q9)
    | (go_at_call 44; refine (HX4.out _ (HB.out _ hbw5)).mono ?_; rintro e w6 ⟨sb, sm, sd, rfl, q10, q11, q12, hb6⟩; refine Stop.of ?_))
  refine Stop.go ?_
  have hbw6 := chain hbw5 hb6
  obtain ⟨f60, f61⟩ := HF.out _ hbw6
  obtain rfl : rn = rm := by have := Q3.out.1; have := Q4.out.1; omega
  obtain rfl : sn = sm := by have := Q5.out.1; omega
  have hb46 := chain hb5 hb6
  have hb36 := chain hb4 hb46
  have HS1 := hid (fun (W : World) (hb : Below w6.heap.size w6 W) => same_c W ra rb rn rc rn rd _ Q3.out.1 Q4.out.1 q2 (Q3.out.2.below (chain hb36 hb)) (Q4.out.2.below (chain hb46 hb)))
  have HS2 := hid (fun (W : World) (hb : Below w6.heap.size w6 W) => same_c W sa sb sn sc sn sd _ Q5.out.1 q10 q8 (Q5.out.2.below (chain hb6 hb)) (q12.below hb))
  have HIA := hid (And.intro Q3.out.1 (Q3.out.2.below hb36))
  have HSA := hid (And.intro Q5.out.1 (Q5.out.2.below hb6))
  unfold maxLen at q2 q5 q8 q11
  clear q10 q12 Q3 Q4 Q5 hb36 hb46 f10 f11 f20 f21 f30 f31 f40 f41 f50 f51 HX1 HX2 HX3 HX4
  obtain ⟨E1, hE1⟩ : ∃ E, E = cellsE p t l := ⟨_, rfl⟩
  obtain ⟨E2, hE2⟩ : ∃ E, E = clashE p t l := ⟨_, rfl⟩
  rw [← hE1] at HC1 HQ1
  rw [← hE2] at HQ2
  rw [← hE1, ← hE2]
  have HE12 := hid (show E1 ≠ 0 → E2 ≠ 0 from fun h => by
    rw [hE1] at h
    rw [hE2]
    cases hok : okCells p t l
    · simp [clashE, hok]
    · exfalso; apply h; simp [cellsE, hok])
  clear hE1 hE2
  obtain ⟨CN, hCN⟩ : ∃ C, C = countV p t l := ⟨_, rfl⟩
  rw [← hCN] at HC1 HQ1
  clear hCN
  obtain ⟨i0, hi, hz0, hz1, hz2⟩ := info_parts info_cell
  by_cases hE0 : E1 = 0
  rotate_left
  · have hE2 : (E2 != 0) = true := by simp [HE12.out hE0]
    have hE1' : (E1 == 0) = false := by simp [hE0]
    have hE1n : (E1 != 0) = true := by simp [hE0]
    clear hE0 HE12 HQ1 HQ2
    go_wp2_with (go_at_call 37; refine (HS1.out w6 (Below.refl _ _)).mono ?_; rintro e w7 ⟨rfl, hb7⟩; refine Stop.of ?_)
    refine Stop.go ?_
    go_wp2_with (first
      | (go_at_call 37; refine (HS2.out w7 hb7).mono ?_; rintro e w8 ⟨rfl, hb8⟩)
      | (go_at_call 12; refine (HAW.out _).mono ?_; rintro e w9 ⟨rfl, hb9⟩))
    go_ret
    exact ⟨rfl, chain (HB.out _ (chain (chain hbw6 hb7) hb8)) hb9⟩
  · have HQA := hid (HQ1.out hE0)
    subst hE0
    clear HQ1 HE12
    go_wp2_with (go_at_call 37; refine (HS1.out w6 (Below.refl _ _)).mono ?_; rintro e w7 ⟨rfl, hb7⟩; refine Stop.of ?_)
    refine Stop.go ?_
    go_wp2_with (first
      | (go_at_call 37; refine (HS2.out w7 hb7).mono ?_; rintro e w8 ⟨rfl, hb8⟩; have hb68 := chain hb7 hb8; have hbw8 := chain hbw6 hb68; obtain ⟨f80, f81⟩ := HF.out _ hbw8)
      | (go_at_call 23; refine (HC1.out _ (HB.out _ hbw8)).mono ?_; rintro e w9 ⟨rfl, hb9⟩; refine Stop.of ?_))
    refine Stop.go ?_
    have hbw9 := chain hbw8 hb9
    have hb69 := chain hb68 hb9
    clear f80 f81 f60 f61
    go_wp2
    go_loopw [88] (fun i wq => ∃ k : Nat, k ≤ rn ∧ i = .int .i64 k ∧ Below w9.heap.size w9 wq) (fun i _ => rn - (intOf i).toNat)
    case atStart => exact ⟨0, Nat.zero_le _, rfl, Below.refl _ _⟩
    case round =>
      obtain ⟨k, hk, rfl, hbk⟩ := hrel
      have hbwr := chain hbw9 hbk
      by_cases hlt : k < rn
      · obtain ⟨i, hil, hiv, hie, hic⟩ := HQA.out k (by rw [HIA.out.1]; exact hlt)
        obtain ⟨bb, oo, rfl, hbbs, hbbc⟩ := (HIA.out.2.below (chain hb69 hbk)) k (by rw [HIA.out.1]; exact hlt)
        rw [hiv] at hbbc
        have hin : i < n := by rw [← HN.out]; exact hil
        have hwr := HB.out _ hbwr
        obtain ⟨xs1, hx1, hx1n, hx1c⟩ := vals_of_cells (cells_take (HH.out.below hwr) i)
        obtain ⟨xs2, hx2, hx2n, hx2c⟩ := vals_of_cells (cells_drop (HH.out.below hwr) (i + 1) cap (by rw [HN.out]; exact hcap))
        have hlen1 : (l.take i).length = i := by rw [List.length_take, HN.out]; omega
        have hlen2 : (l.drop (i + 1)).length = n - (i + 1) := by rw [List.length_drop, HN.out]
        obtain ⟨A2, hA2⟩ : ∃ A, A = cutA a (i + 1) cap := ⟨_, rfl⟩
        rw [← hA2] at hx2n hx2c
        rw [hlen1] at hx1n
        rw [hlen2] at hx2n
        have HA2 := hid hA2
        have X1L := hid (show xs1.length = i * 3 by rw [hx1.1, hlen1])
        have X2L := hid (show xs2.length = (n - (i + 1)) * 3 by rw [hx2.1, hlen2])
        have X1N := hid hx1n
        have X2N := hid hx2n
        have X11 := hid hx1.one'
        have X21 := hid hx2.one'
        have CLT := hid (fun (W : World) (hb : Below wr.heap.size wr W) (xs : List Value) (A : Option Addr) (hc : ∀ ad, A = some ad → ∀ j u, xs[j]? = some u → wr.cell? (ad.add j) = some u) (ad : Addr) (ha : A = some ad) (j : Nat) (u : Value) (hu : xs[j]? = some u) => show W.cell? (ad.add j) = some u from by
          have h0 := hc ad ha j u hu
          have hlt := cellIn h0
          exact (hb.cell (p := ad.add j) hlt).trans h0)
        have X1C := hid hx1c
        have X2C := hid hx2c
        have M1 := hid (show 0 + i ≤ maxLen by unfold maxLen; omega)
        have M2 := hid (show (0 + i) * 40 ≤ 140737488355328 by omega)
        have M3 := hid (show i + (n - (i + 1)) ≤ maxLen by unfold maxLen; omega)
        have M4 := hid (show (i + (n - (i + 1))) * 40 ≤ 140737488355328 by omega)
        have HNK := hid (show i + (n - (i + 1)) = n - 1 by omega)
        have HELEN := hid (show (l.eraseIdx i).length = n - 1 by rw [erase_eq, List.length_append, hlen1, hlen2]; omega)
        have FIN := hid (fun (W : World) (a2 : Option Addr) (c2 base : Nat) (h : W.ownsRow base 41 3 (.slice a2 (n - 1) c2) (n - 1) (xs1 ++ xs2)) (hb : Below wr.heap.size wr W) => show Calls Try.prog 23 #[.agg #[.int .i64 p, .int .i64 t], .slice a2 (n - 1) c2] W fun e w' => e = .returned (.tuple #[.int .i64 CN, .int .i64 0]) ∧ Below W.heap.size W w' from by
          have hcel : CellsAt W a2 (l.eraseIdx i) := by
            rw [erase_eq]
            exact cells_of_own h ((hx1.below hb).append (hx2.below hb)) (by rw [List.length_append, hlen1, hlen2]; omega)
          have := HC2.out W a2 (n - 1) c2 (l.eraseIdx i) HELEN.out (by unfold maxLen; omega) hcel
          rw [hie, hic] at this
          exact this)
        have hkc : i ≤ cap := by omega
        obtain ⟨g0, g1⟩ := HF.out _ hbwr
        clear hx1 hx2 hx1n hx2n hx1c hx2c hlen1 hlen2 hA2 hie hic hiv hil
        go_wp2
        refine region_cut (CntR (.slice a n cap) i n p t CN wr) ?_ ?_
        · refine plain_region (fun j w' => (fun _ : Nat => true) j = true → w'.cell? ⟨w.heap.size, 0, none⟩ = some (.int .i64 p) ∧ w'.cell? ⟨w.heap.size, 1, none⟩ = some (.int .i64 t)) (by kernel_rfl) ?_
          have hbd : Below wr.heap.size wr wr.drew := (Below.refl _ _).drew
          generalize wr.drew = wd at hbd ⊢
          have HSF := hid (fun (W : World) (hb : Below wr.heap.size wr W) => HF.out _ (chain hbwr hb))
          have hfd := HSF.out _ hbd
          refine AnyT.takeW (i := 0) (v := .agg #[.int .i64 p, .int .i64 t]) rfl (by kernel_rfl) (by kernel_rfl) (by kernel_rfl) (fun _ _ _ h => absurd h.1 (by simp)) (by kernel_rfl) (by rfl) (by rintro w' ⟨q0, q1⟩; go_simp) hfd ?_
          refine AnyT.takeW (i := 2) (v := .slice a n cap) rfl (by kernel_rfl) (by kernel_rfl) (by kernel_rfl) (fun _ _ _ h => absurd h.1 (by simp)) (by kernel_rfl) (by rfl) (by intro w' hw'; go_simp) hfd ?_
          refine AnyT.takeW (i := 3) (v := .int .i64 i) rfl (by kernel_rfl) (by kernel_rfl) (by kernel_rfl) (fun _ _ _ h => absurd h.1 (by simp)) (by kernel_rfl) (by rfl) (by intro w' hw'; go_simp) hfd ?_
          refine AnyT.takeW (i := 4) (v := .slice a i cap) rfl (by kernel_rfl) (by kernel_rfl) (by kernel_rfl) (fun _ _ _ h => absurd h.1 (by simp)) (by kernel_rfl) (by rfl) (by intro w' hw'; go_simp) hfd ?_
          refine AnyT.takeW (i := 6) (v := .slice a n cap) rfl (by kernel_rfl) (by kernel_rfl) (by kernel_rfl) (fun _ _ _ h => absurd h.1 (by simp)) (by kernel_rfl) (by rfl) (by intro w' hw'; go_simp) hfd ?_
          refine AnyT.takeW (i := 7) (v := .int .i64 i) rfl (by kernel_rfl) (by kernel_rfl) (by kernel_rfl) (fun _ _ _ h => absurd h.1 (by simp)) (by kernel_rfl) (by rfl) (by intro w' hw'; go_simp) hfd ?_
          refine AnyT.takeW (i := 8) (v := .int .i64 ((i : Int) + 1)) rfl (by kernel_rfl) (by kernel_rfl) (by kernel_rfl) (fun _ _ _ h => absurd h.1 (by simp)) (by kernel_rfl) (by rfl) (by intro w' hw'; have q := IntWalk.i64_in ((i : Int) + 1) (by omega); go_simp) hfd ?_
          refine AnyT.takeW (i := 9) (v := .slice A2 (n - (i + 1)) (cap - (i + 1))) rfl (by kernel_rfl) (by kernel_rfl) (by kernel_rfl) (fun _ _ _ h => absurd h.1 (by simp)) (by kernel_rfl) (by rfl) (by intro w' hw'; rw [HA2.out]; unfold cutA; have q1 : 0 ≤ (i : Int) + 1 := (by omega); have q2 : (i : Int) + 1 ≤ (n : Int) := (by omega); have q3 : ((i : Int) + 1).toNat = i + 1 := (by omega); go_simp) hfd ?_
          have hbA := hbd.alloc hbd.size (.cells #[] 41)
          have hfA := HSF.out _ hbA
          refine AnyT.next (i := 1) (by kernel_rfl) rfl (wpOp_of_list rfl ?_)
          go_wp2
          refine ⟨by first | exact hfA | exact fun _ => hfA, ?_⟩
          have MM := World.ownsRow_made (base := wd.heap.size) (e := 41) (size := 3) wd #[] 0 (Nat.le_refl _) (Nat.zero_le _) rfl
          refine AnyT.next (i := 5) (by kernel_rfl) rfl (wpOp_of_list rfl ?_)
          (refine wpList_app _ rfl (.tmp 94) (.tmp 97) 24 rfl wd.heap.size 41 (.agg #[.slice none 0 0, .int .i64 0, .int .i64 0]) 3 40 Try.underlying24 info_cell rfl (by decide) (.slice (some ⟨wd.heap.size, 0, none⟩) 0 0) 0 [] rfl MM a i cap xs1 rfl X1L.out X1N.out (CLT.out _ hbA xs1 a X1C.out) X11.out M1.out M2.out (by simp) ?_)
          intro a1 c1 w3' own1 g1'
          rw [Nat.zero_add] at own1 ⊢
          rw [List.nil_append] at own1
          have hb3' := hbA.grown g1' hbA.size (fun j hj => Nat.le_trans hbd.size ((MM.lt j hj).1))
          have hz3 : wd.heap.size ≤ w3'.heap.size := by have := g1'.size; simp at this; omega
          have hf3 := HSF.out _ hb3'
          refine ⟨by first | exact hf3 | exact fun _ => hf3, ?_⟩
          refine AnyT.next (i := 10) (by kernel_rfl) rfl (wpOp_of_list rfl ?_)
          (refine wpList_app _ rfl (.tmp 98) (.tmp 102) 24 rfl wd.heap.size 41 (.agg #[.slice none 0 0, .int .i64 0, .int .i64 0]) 3 40 Try.underlying24 info_cell rfl (by decide) (.slice a1 i c1) i xs1 rfl own1 A2 (n - (i + 1)) (cap - (i + 1)) xs2 rfl X2L.out X2N.out (CLT.out _ hb3' xs2 A2 X2C.out) X21.out M3.out M4.out hz3 ?_)
          intro a2 c2 w4' own2 g2'
          have hb4' := hb3'.grown g2' hb3'.size (fun j hj => Nat.le_trans hbd.size ((own1.lt j hj).1))
          rw [HNK.out] at own2 ⊢
          have hf4 := HSF.out _ hb4'
          refine ⟨by first | exact hf4 | exact fun _ => hf4, ?_⟩
          have HCC := hid (FIN.out _ _ _ _ own2 hb4')
          refine AnyT.next (i := 11) (by kernel_rfl) rfl (wpOp_of_list rfl ?_)
          go_wp2_with (go_at_call 23; refine HCC.out.mono ?_; rintro e w5' ⟨rfl, hb5'⟩)
          have hbe := chain hb4' hb5'
          have hf5 := HSF.out _ hbe
          refine ⟨by first | exact hf5 | exact fun _ => hf5, ?_⟩
          refine AnyT.next (i := 12) (by kernel_rfl) rfl (wpOp_of_list rfl ?_)
          go_wp2
          refine ⟨by first | exact hf5 | exact fun _ => hf5, ?_⟩
          refine AnyT.next2 (i := 13) (j := 14) (by kernel_rfl) (wpOp_of_list rfl ?_) (wpOp_of_list rfl ?_)
          · go_wp2
            refine ⟨by first | exact hf5 | exact fun _ => hf5, ?_⟩
            refine AnyT.next2 (i := 14) (j := 15) (by kernel_rfl) (wpOp_of_list rfl ?_) (wpOp_of_list rfl ?_)
            · go_wp2
              refine ⟨by first | exact hf5 | exact fun _ => hf5, ?_⟩
              refine AnyT.next (i := 15) (by kernel_rfl) rfl (wpOp_of_list rfl ?_)
              go_wp2
              refine ⟨by first | exact hf5 | exact fun _ => hf5, ?_⟩
              refine AnyT.next (i := 16) (by kernel_rfl) rfl (wpOp_of_list rfl ?_)
              go_wp2
              refine ⟨by first | exact hf5 | exact fun _ => hf5, ?_⟩
              exact ⟨by kernel_rfl, rfl, .agg #[.int .i64 p, .int .i64 t], .slice (some ⟨wd.heap.size, 0, none⟩) 0 0, .slice a i cap, .slice a1 i c1, .slice A2 (n - (i + 1)) (cap - (i + 1)), .slice a2 (n - 1) c2, (by go_frame), hbe⟩
            · go_wp2
              refine ⟨by first | exact hf5 | exact fun _ => hf5, ?_⟩
              refine AnyT.next (i := 14) (by kernel_rfl) rfl (wpOp_of_list rfl ?_)
              go_wp2
              refine ⟨by first | exact hf5 | exact fun _ => hf5, ?_⟩
              refine AnyT.next (i := 16) (by kernel_rfl) rfl (wpOp_of_list rfl ?_)
              go_wp2
              refine ⟨by first | exact hf5 | exact fun _ => hf5, ?_⟩
              exact ⟨by kernel_rfl, rfl, .agg #[.int .i64 p, .int .i64 t], .slice (some ⟨wd.heap.size, 0, none⟩) 0 0, .slice a i cap, .slice a1 i c1, .slice A2 (n - (i + 1)) (cap - (i + 1)), .slice a2 (n - 1) c2, (by go_frame), hbe⟩
          · go_wp2
            refine ⟨by first | exact hf5 | exact fun _ => hf5, ?_⟩
            refine AnyT.next (i := 13) (by kernel_rfl) rfl (wpOp_of_list rfl ?_)
            go_wp2
            refine ⟨by first | exact hf5 | exact fun _ => hf5, ?_⟩
            refine AnyT.next (i := 15) (by kernel_rfl) rfl (wpOp_of_list rfl ?_)
            go_wp2
            refine ⟨by first | exact hf5 | exact fun _ => hf5, ?_⟩
            refine AnyT.next (i := 16) (by kernel_rfl) rfl (wpOp_of_list rfl ?_)
            go_wp2
            refine ⟨by first | exact hf5 | exact fun _ => hf5, ?_⟩
            exact ⟨by kernel_rfl, rfl, .agg #[.int .i64 p, .int .i64 t], .slice (some ⟨wd.heap.size, 0, none⟩) 0 0, .slice a i cap, .slice a1 i c1, .slice A2 (n - (i + 1)) (cap - (i + 1)), .slice a2 (n - 1) c2, (by go_frame), hbe⟩
        · rintro fr' wz ⟨v93, v94, v97, v98, v102, v103, rfl, hbz⟩
          clear g0 g1 hbbc
          go_frame
          go_wp2
          exact ⟨⟨k + 1, by omega, by go_num, chain hbk hbz⟩, by simp [intOf]; omega⟩
      · obtain rfl : k = rn := by omega
        by_cases hE2 : E2 = 0
        rotate_left
        · have hE2n : (E2 != 0) = true := by simp [hE2]
          clear hE2
          go_wp2_with (go_at_call 12; refine (HAW.out _).mono ?_; rintro e w10 ⟨rfl, hb10⟩)
          go_ret
          exact ⟨rfl, chain (HB.out _ hbwr) hb10⟩
        obtain ⟨ss, hsv, hs12, hl12, hslt, hsok, hlaw⟩ := HQ2.out hE2
        subst hE2
        have hsn : ss.length = sn := by rw [← HSA.out.1, hsv, List.length_map]
        have HSN := hid hsn
        have HLAW := hid hlaw
        have HSLT := hid hslt
        have HSI := hid (show ∀ W, Below w6.heap.size w6 W → ∀ k, k < sn → ∃ b off, sa = some ⟨b, off, none⟩ ∧ b < W.heap.size ∧ W.cell? ⟨b, off + k, none⟩ = some (.int .i64 ((ss[k]?.getD 0 : Nat) : Int)) from fun W hW k hk => by
          obtain ⟨b, off, e, hb, hc⟩ := (HSA.out.2.below hW) k (by rw [HSA.out.1]; exact hk)
          refine ⟨b, off, e, hb, ?_⟩
          rw [hc, hsv, List.getElem?_map, List.getElem?_eq_getElem (by rw [hsn]; exact hk)]
          rfl)
        have hsn12 : sn ≤ 12 := by omega
        have hb6r := chain hb69 hbk
        obtain ⟨wD, hwD⟩ : ∃ wD, wD = wr := ⟨_, rfl⟩
        rw [← hwD] at hbwr hb6r ⊢
        clear hwD hbk hsv hs12 hslt hsok hlaw hsn HQ2 HQA HIA HSA
        go_wp2
        go_loopw [19] (fun i wq => ∃ sk : Int, i = .int .i64 sk ∧ -1 ≤ sk ∧ sk ≤ sn ∧ Below wD.heap.size wD wq) (fun i _ => ((sn : Int) - intOf i).toNat)
        case atStart => exact ⟨-1, rfl, by omega, by omega, Below.refl _ _⟩
        case round =>
          obtain ⟨sk, rfl, hk1, hk2, hbD⟩ := hrel
          by_cases hlt4 : sk < sn
          · obtain ⟨wC, hwC⟩ : ∃ wC, wC = wr := ⟨_, rfl⟩
            rw [← hwC] at hbD ⊢
            clear hwC
            have hbCf := chain hbwr hbD
            obtain ⟨hl1, hl2⟩ := HLAW.out sk hk1 (by rw [HSN.out]; exact hlt4)
            rw [HSN.out] at hl1 hl2
            have HL12 := hid (And.intro hl1 hl2)
            clear hl1 hl2
            go_wp2
            go_loopw [20, 130] (fun v i wq => ∃ k : Nat, k ≤ sn ∧ i = .int .i64 k ∧ Below wC.heap.size wC wq ∧ Hid (CelsO 41 (fun _ => True) wq wC.heap.size v (someL l ss sk k))) (fun _ i _ => sn - (intOf i).toNat)
            case atStart => exact ⟨0, Nat.zero_le _, rfl, Below.refl _ _, hid (CelsO.nil _ _ _ _)⟩
            case round =>
              obtain ⟨k5, hk5, rfl, hbC, HCO⟩ := hrel
              obtain ⟨oa, oc, rfl, hom, hoc⟩ := HCO.out.reads
              have HOC := hid hoc
              have hsl := someL_len l ss sk k5
              have hstep : someL l ss sk (k5 + 1) = if (k5 : Int) = sk then someL l ss sk k5 else someL l ss sk k5 ++ [cellAt l (ss[k5]?.getD 0)] := rfl
              obtain ⟨ln, hln⟩ : ∃ n, n = (someL l ss sk k5).length := ⟨_, rfl⟩
              rw [← hln] at hom hsl ⊢
              have HLN := hid hln
              have hb6q := chain hb6r (chain hbD hbC)
              have hbfq := chain hbCf hbC
              clear hoc hln hom
              by_cases hlt5 : k5 < sn
              · obtain ⟨sb1, so1, rfl, hsb1, hsc1⟩ := HSI.out _ hb6q k5 hlt5
                obtain ⟨ci, hci⟩ : ∃ c, c = ss[k5]?.getD 0 := ⟨_, rfl⟩
                rw [← hci] at hsc1 hstep
                have hcl : ci < l.length := by
                  rw [hci, List.getElem?_eq_getElem (by rw [HSN.out]; exact hlt5)]
                  exact HSLT.out _ (List.getElem_mem _)
                have hcn : ci < n := by rw [← HN.out]; exact hcl
                have HST := hid hstep
                clear hci hstep
                by_cases hsk : (k5 : Int) = sk
                · have hskb : ((k5 : Int) != sk) = false := by simp [hsk]
                  have HSK := hid hsk
                  clear hsk
                  go_wp2
                  refine ⟨⟨k5 + 1, by omega, by go_num, hbC, hid ?_⟩, by simp [intOf]; omega⟩
                  rw [HST.out, if_pos HSK.out, HLN.out]
                  exact HCO.out
                · have hskb : ((k5 : Int) != sk) = true := by simp [hsk]
                  have HSK := hid hsk
                  clear hsk
                  obtain ⟨b2, off2, qa, qn, qc, rfl, hbs2, h0, h1, h2, hqn, hqm, hqi⟩ := HH.out ci hcl
                  have hce : cellAt l ci = l[ci] := by unfold cellAt; rw [List.getElem?_eq_getElem hcl]; rfl
                  obtain ⟨C, hC⟩ : ∃ C, C = l[ci] := ⟨_, rfl⟩
                  rw [hce, ← hC] at HST
                  rw [← hC] at h1 h2 hqn hqi
                  have hwq := HB.out _ hbfq
                  have c0 : wr.cell? ⟨b2, off2 + ci * 3, none⟩ = some (.slice qa qn qc) := (hwq.cell (p := ⟨b2, _, none⟩) hbs2).trans h0
                  have c1 : wr.cell? ⟨b2, off2 + ci * 3 + 1, none⟩ = some (.int .i64 C.lo) := (hwq.cell (p := ⟨b2, _, none⟩) hbs2).trans h1
                  have c2 : wr.cell? ⟨b2, off2 + ci * 3 + 2, none⟩ = some (.int .i64 C.hi) := (hwq.cell (p := ⟨b2, _, none⟩) hbs2).trans h2
                  obtain ⟨w8', hw8⟩ : ∃ w8, w8 = wr.alloc (.cells #[.slice qa qn qc, .int .i64 C.lo, .int .i64 C.hi] 41) := ⟨_, rfl⟩
                  have hz8 : w8'.heap.size = wr.heap.size + 1 := by rw [hw8]; simp
                  have hb78 : Below wr.heap.size wr w8' := by rw [hw8]; exact (Below.refl _ _).alloc (Nat.le_refl _) _
                  have hnews : ∀ j u, [Value.slice qa qn qc, .int .i64 C.lo, .int .i64 C.hi][j]? = some u → w8'.cell? ((⟨wr.heap.size, 0, none⟩ : Addr).add j) = some u := by
                    intro j u hu
                    rw [hw8]
                    exact news3 wr (.slice qa qn qc) (.int .i64 C.lo) (.int .i64 C.hi) 41 ⟨wr.heap.size, 0, none⟩ rfl j u hu
                  obtain ⟨xs, ho8, hv8, hs8⟩ := HCO.out.below hb78
                  have hbw8 := chain hbC hb78
                  have M1 := hid (show ln + 1 ≤ maxLen by unfold maxLen; omega)
                  have M2 := hid (show (ln + 1) * 40 ≤ 140737488355328 by omega)
                  have M3 := hid (show wC.heap.size ≤ w8'.heap.size from hbw8.size)
                  have hqi8 : IntsAt w8' qa C.row := hqi.below (chain hwq hb78)
                  have M4 := hid (CelVals.one' (CelVals.one (c := C) (W := w8') (cap := qc) hqn hqm hqi8))
                  rw [← HLN.out] at ho8
                  have hown : ∀ k, Value.ownBlock (.slice oa ln oc) = some k → wC.heap.size ≤ k := fun k hk => (ho8.lt k hk).1
                  have hsep : SepA (fun _ => True) (Value.ownBlock (.slice oa ln oc)) C.row qa := by
                    by_cases hnil : C.row = []
                    · exact .inl hnil
                    · right
                      intro ad e
                      obtain ⟨b3, off3, e2, h5, _⟩ := hqi 0 (List.length_pos_iff.2 hnil)
                      rw [e] at e2
                      cases e2
                      refine ⟨fun h => ?_, trivial⟩
                      have h6 := hown b3 h.symm
                      have h7 := (HB.out _ hbCf).size
                      have h8 : b3 < w.heap.size := h5
                      omega
                  have HO8 := hid ho8
                  have HV8 := hid hv8
                  have HS8 := hid hs8
                  have HNW := hid hnews
                  have HW8 := hid hw8
                  have HQ8 := hid (And.intro hqn (And.intro hqi8 hsep))
                  have HBW8 := hid hbw8
                  have HOWN := hid hown
                  have HZ8 := hid hz8
                  clear ho8 hv8 hs8 hnews hw8 hqn hqi8 hsep hqi h0 h1 h2 hce hC hz8 hbw8 hb78 hown
                  go_wp2_with (at_builtin; refine Stop.of ?_)
                  rw [← HW8.out]
                  refine Stop.go ?_
                  refine wpList_append_lies _ rfl (.tmp 138) (.tmp 143) 24 rfl wC.heap.size 41 i0 (.agg #[.slice none 0 0, .int .i64 0, .int .i64 0]) 3 40 Try.underlying24 hi hz0 hz1 hz2 rfl (by decide) (.slice oa ln oc) ln xs rfl HO8.out ⟨wr.heap.size, 0, none⟩ 1 1 [.slice qa qn qc, .int .i64 C.lo, .int .i64 C.hi] rfl rfl HNW.out M4.out (by decide) M1.out M2.out M3.out _ rfl ?_
                  intro g gcap w9' own9 g9 hlies hg9
                  have hcels9 : CelsO 41 (fun _ => True) w9' wC.heap.size (.slice (some ⟨g, 0, none⟩) (ln + 1) gcap) (someL l ss sk k5 ++ [C]) := by
                    have e := HLN.out
                    subst e
                    refine CelsO.snoc HO8.out HV8.out HS8.out HQ8.out.1 hqm HQ8.out.2.1 HQ8.out.2.2 g9 own9 ?_
                    rcases hlies with h | h
                    · exact .inl (by rw [h]; rfl)
                    · exact .inr ⟨g, rfl, by rw [h]; exact Nat.le_refl _⟩
                  have hbw9 : Below wC.heap.size wC w9' := HBW8.out.grown g9 HBW8.out.size HOWN.out
                  have HCL := hid hcels9
                  have HX9 := hid hbw9
                  clear own9 g9 hlies hg9 hcels9 hbw9
                  go_wp2
                  refine ⟨⟨k5 + 1, by omega, by go_num, HX9.out, hid ?_⟩, by simp [intOf]; omega⟩
                  rw [HST.out, if_neg HSK.out]
                  exact HCL.out
              · obtain rfl : k5 = sn := by omega
                have hcv := HC2.out wr oa ln oc (someL l ss sk k5) HLN.out.symm (by unfold maxLen; omega) HOC.out
                rw [HL12.out.1] at hcv
                obtain ⟨CV, hCV⟩ : ∃ C, C = countV p t (someL l ss sk k5) := ⟨_, rfl⟩
                have hcd : CV = 0 ↔ sk < 0 := by rw [hCV]; exact HL12.out.2
                rw [← hCV] at hcv
                have HCV := hid hcv
                obtain ⟨g0, g1⟩ := HF.out _ hbfq
                clear hcv hCV hstep
                have hcase2 : (CV = 0 ∧ sk < 0) ∨ ((CV == 0) = false ∧ ¬ sk < 0) := by
                  by_cases h : sk < 0
                  · exact .inl ⟨hcd.2 h, h⟩
                  · exact .inr ⟨by simp; exact fun h' => h (hcd.1 h'), h⟩
                clear hcd
                rcases hcase2 with ⟨hc1, hc2⟩ | ⟨hc1, hc2⟩
                · subst hc1
                  go_wp2_with (go_at_call 23; refine HCV.out.mono ?_; rintro e w10 ⟨rfl, hb10⟩)
                  refine ⟨⟨sk + 1, rfl, by omega, by omega, chain (chain hbD hbC) hb10⟩, by simp [intOf]; omega⟩
                · go_wp2_with (go_at_call 23; refine HCV.out.mono ?_; rintro e w10 ⟨rfl, hb10⟩)
                  refine ⟨⟨sk + 1, rfl, by omega, by omega, chain (chain hbD hbC) hb10⟩, by simp [intOf]; omega⟩
          · obtain rfl : sk = (sn : Int) := by omega
            go_wp2_with (go_at_call 12; refine (HAW.out _).mono ?_; rintro e w10 ⟨rfl, hb10⟩)
            go_ret
            exact ⟨rfl, chain (HB.out _ (chain hbwr hbD)) hb10⟩
end Go.Proofs.Ytdcflpfaaeijoaa
