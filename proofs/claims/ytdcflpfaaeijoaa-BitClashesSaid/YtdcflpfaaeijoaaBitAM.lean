/- Walk: Idle of the reference. -/
import Derived.Test.YtdcflpfaaeijoaaBitAL
namespace Go.Proofs.Ytdcflpfaaeijoaa
open Go.RowKit Go.Maps
set_option linter.unusedVariables false

/-- the address of a part of a slice, as the model has it -/
def cutA (a : Option Addr) (l m : Nat) : Option Addr := if m = l then a else a.map (·.add (l * 3))
theorem cells_take {W : World} {a : Option Addr} {l : List Cel} (H : CellsAt W a l) (i : Nat) : CellsAt W a (l.take i) := by
  intro j hj
  rw [List.length_take] at hj
  obtain ⟨b, off, ra, n, cap, e, hlt, h0, h1, h2, h3, h4, h5⟩ := H j (by omega)
  rw [List.getElem_take]
  exact ⟨b, off, ra, n, cap, e, hlt, h0, h1, h2, h3, h4, h5⟩
theorem cells_drop {W : World} {a : Option Addr} {l : List Cel} (H : CellsAt W a l) (i m : Nat) (hm : l.length ≤ m) : CellsAt W (cutA a i m) (l.drop i) := by
  intro j hj
  rw [List.length_drop] at hj
  obtain ⟨b, off, ra, n, cap, e, hlt, h0, h1, h2, h3, h4, h5⟩ := H (i + j) (by omega)
  rw [List.getElem_drop]
  refine ⟨b, off + i * 3, ra, n, cap, ?_, hlt, ?_, ?_, ?_, h3, h4, h5⟩
  · unfold cutA
    rw [if_neg (by omega), e, Option.map_some, Addr.add_lit]
  · rw [show off + i * 3 + j * 3 = off + (i + j) * 3 by omega]; exact h0
  · rw [show off + i * 3 + j * 3 + 1 = off + (i + j) * 3 + 1 by omega]; exact h1
  · rw [show off + i * 3 + j * 3 + 2 = off + (i + j) * 3 + 2 by omega]; exact h2

theorem cellIn {w : World} {a : Addr} {v : Value} (h : w.cell? a = some v) : a.block < w.heap.size := by
  unfold World.cell? at h
  split at h
  · rename_i c _ _ hb
    exact (Array.getElem?_eq_some_iff.1 hb).1
  · simp at h

theorem erase_eq (l : List Cel) (i : Nat) : l.eraseIdx i = l.take i ++ l.drop (i + 1) := List.eraseIdx_eq_take_drop_succ l i

def LessR (src : Value) (i n : Nat) (W0 : World) (l : List Cel) (fr fr' : Act) (W : World) : Prop :=
  ∃ v25 v28 v29 v33 a2 c2, fr' = (((((((((((fr.put (some 26) src).put (some 27) (.int .i64 i)).put (some 28) v28).put (some 30) src).put (some 31) (.int .i64 i)).put (some 32) (.int .i64 ((i : Int) + 1))).put (some 33) v33).put (some 25) v25).put (some 29) v29).put (some 34) (.slice a2 (n - 1) c2)).put (some 10) (.slice a2 (n - 1) c2)) ∧ CellsAt W a2 l ∧ Below W0.heap.size W0 W

set_option maxRecDepth 100000 in
set_option maxHeartbeats 4000000 in
theorem refIdle_c (w : World) (p t : Int) (a : Option Addr) (n cap : Nat) (l : List Cel) (hn : l.length = n) (hm : n ≤ maxLen) (hcap : n ≤ cap) (H : CellsAt w a l) :
    Calls Try.prog 42 #[.agg #[.int .i64 p, .int .i64 t], .slice a n cap] w fun e w' => ResInts (cellsE p t l) (idleV p t l) w e w' := by
  obtain ⟨wf, hwf⟩ : ∃ wf, wf = w.alloc (.cells #[.int .i64 p, .int .i64 t] 23) := ⟨_, rfl⟩
  have hb0 : Below w.heap.size w wf := by rw [hwf]; exact (Below.refl _ _).alloc (Nat.le_refl _) _
  have HF := hid (fun (W : World) (hb : Below wf.heap.size wf W) => show W.cell? ⟨w.heap.size, 0, none⟩ = some (.int .i64 p) ∧ W.cell? ⟨w.heap.size, 1, none⟩ = some (.int .i64 t) from by
    have hz : wf.heap.size = w.heap.size + 1 := by rw [hwf]; simp
    refine ⟨(hb.cell (p := ⟨w.heap.size, 0, none⟩) (show w.heap.size < wf.heap.size by omega)).trans ?_, (hb.cell (p := ⟨w.heap.size, 1, none⟩) (show w.heap.size < wf.heap.size by omega)).trans ?_⟩ <;> (rw [hwf, World.cell?_alloc_at _ _ _ _ rfl]; rfl))
  have HB := hid (fun (W : World) (hb : Below wf.heap.size wf W) => chain hb0 hb)
  have HC := hid (fun (W : World) (hb : Below w.heap.size w W) => refCount_c W p t a n cap l hn hm (H.below hb))
  cases hf : okCells p t l
  · have e1 : cellsE p t l = 1 := by simp [cellsE, hf]
    have e2 : idleV p t l = [] := by simp [idleV, hf]
    rw [e1] at HC
    rw [e1, e2]
    clear e1 e2 hn H
    go_enter Try.func42, Try.ntmps42
    go_wp2_with fail
    rw [← hwf]
    clear hwf
    refine (HC.out _ hb0).mono ?_
    rintro e w1 ⟨rfl, hb1⟩
    go_wp2
    go_ret2
    exact ⟨none, 0, 0, rfl, rfl, by decide, fun j hj => by simp at hj, HB.out _ hb1⟩
  obtain ⟨hfd, hrows⟩ := okCells_bd hf
  obtain ⟨p1, p8, t0, t3⟩ := okField_bd hfd
  obtain ⟨P, rfl⟩ := Int.eq_ofNat_of_zero_le (show 0 ≤ p by omega)
  obtain ⟨T, rfl⟩ := Int.eq_ofNat_of_zero_le t0
  have hP : P ≤ 8 := by omega
  have hT : T ≤ 3 := by omega
  have e1 : cellsE (P : Int) (T : Int) l = 0 := by simp [cellsE, hf]
  have e2 : idleV (P : Int) (T : Int) l = (idleN P T l).map (fun i : Nat => (i : Int)) := by simp [idleV, hf]
  have e3 : countV (P : Int) (T : Int) l = (((fitting P T l).length : Nat) : Int) := by simp [countV, hf]
  rw [e1, e3] at HC
  rw [e1, e2]
  have hn30 : n ≤ 30 := by
    simp only [okCells, Bool.and_eq_true, decide_eq_true_eq] at hf
    omega
  have HL := hid (fun (W : World) (a3 : Option Addr) (n3 c3 : Nat) (L : List Cel) (h3 : L.length = n3) (h4 : n3 ≤ maxLen) (H3 : CellsAt W a3 L) (h5 : ∀ c ∈ L, c.row.length ≤ P) => refFitting_c W P T hP hT a3 n3 c3 L h3 h4 H3 h5)
  have HFZ := hid (fun L => fitting_le hP hT L)
  obtain ⟨kl, hkl⟩ : ∃ kl : Nat → List Int, kl = fun k => ((List.range k).filter (fun i => decide ((fitting P T (l.eraseIdx i)).length = (fitting P T l).length))).map (fun i : Nat => (i : Int)) := ⟨_, rfl⟩
  have hfin : kl n = (idleN P T l).map (fun i : Nat => (i : Int)) := by rw [hkl]; unfold idleN; rw [hn]
  have hks : ∀ k, kl (k + 1) = kl k ++ (if (fitting P T (l.eraseIdx k)).length = (fitting P T l).length then [(k : Int)] else []) := by
    intro k
    rw [hkl]
    simp only [List.range_succ, List.filter_append, List.map_append]
    congr 1
    by_cases h : (fitting P T (l.eraseIdx k)).length = (fitting P T l).length <;> simp [h]
  have hkn : ∀ k, (kl k).length ≤ k := by
    intro k
    rw [hkl]
    simp only [List.length_map]
    exact Nat.le_trans (List.length_filter_le _ _) (by simp)
  have hk0 : kl 0 = [] := by rw [hkl]; rfl
  have HKS := hid hks
  have HKN := hid hkn
  have HK0 := hid hk0
  have HFIN := hid hfin
  have HN := hid hn
  have HH := hid H
  have HRW := hid (show ∀ c ∈ l, c.row.length ≤ P from fun c hc => by have := hrows c hc; omega)
  have hfz := fitting_le hP hT l
  obtain ⟨fn, hfn⟩ : ∃ n, n = (fitting P T l).length := ⟨_, rfl⟩
  rw [← hfn] at HC hfz
  have HFN := hid hfn
  clear hkl hks hkn hk0 hfin e1 e2 e3 hn H hrows hfn hm
  go_enter Try.func42, Try.ntmps42
  go_wp2_with fail
  rw [← hwf]
  clear hwf
  refine (HC.out _ hb0).mono ?_
  rintro e w1 ⟨rfl, hb1⟩
  go_wp2
  go_loopw [8, 22] (fun v i wr => ∃ k : Nat, k ≤ n ∧ i = .int .i64 k ∧ wr.ownsRow w1.heap.size 3 1 v (kl k).length ((kl k).map (Value.int .i64)) ∧ Below w1.heap.size w1 wr) (fun _ i _ => n - (intOf i).toNat)
  case atStart => exact ⟨0, Nat.zero_le _, rfl, by rw [HK0.out]; exact World.ownsRow_nil _ _ _ _, Below.refl _ _⟩
  case round =>
    obtain ⟨k, hk, rfl, ho, hb⟩ := hrel
    have HO := hid ho
    obtain ⟨a4, c4, rfl⟩ := ownsRow_slice ho
    clear ho
    have hkl := HKN.out k
    have hks := HKS.out k
    rw [← HFN.out] at hks
    obtain ⟨m, hmE⟩ : ∃ m, m = (kl k).length := ⟨_, rfl⟩
    rw [← hmE] at hkl HO ⊢
    have HM := hid hmE
    clear hmE
    by_cases hlt : k < n
    · have hbr := chain hb1 hb
      have hwr := HB.out _ hbr
      obtain ⟨xs1, hx1, hx1n, hx1c⟩ := vals_of_cells (cells_take (HH.out.below hwr) k)
      obtain ⟨xs2, hx2, hx2n, hx2c⟩ := vals_of_cells (cells_drop (HH.out.below hwr) (k + 1) cap (by rw [HN.out]; exact hcap))
      have hlen1 : (l.take k).length = k := by rw [List.length_take, HN.out]; omega
      have hlen2 : (l.drop (k + 1)).length = n - (k + 1) := by rw [List.length_drop, HN.out]
      obtain ⟨A2, hA2⟩ : ∃ A, A = cutA a (k + 1) cap := ⟨_, rfl⟩
      rw [← hA2] at hx2n hx2c
      rw [hlen1] at hx1n
      rw [hlen2] at hx2n
      have HA2 := hid hA2
      have X1L := hid (show xs1.length = k * 3 by rw [hx1.1, hlen1])
      have X2L := hid (show xs2.length = (n - (k + 1)) * 3 by rw [hx2.1, hlen2])
      have X1N := hid hx1n
      have X2N := hid hx2n
      have X11 := hid hx1.one'
      have X21 := hid hx2.one'
      have CLT := hid (fun (W : World) (hb : Below wr.heap.size wr W) (xs : List Value) (A : Option Addr) (hc : ∀ ad, A = some ad → ∀ j u, xs[j]? = some u → wr.cell? (ad.add j) = some u) (ad : Addr) (ha : A = some ad) (j : Nat) (u : Value) (hu : xs[j]? = some u) => show W.cell? (ad.add j) = some u from by
        have h0 := hc ad ha j u hu
        have hlt := cellIn h0
        exact (hb.cell (p := ad.add j) hlt).trans h0)
      have X1C := hid hx1c
      have X2C := hid hx2c
      have M1 := hid (show 0 + k ≤ maxLen by unfold maxLen; omega)
      have M2 := hid (show (0 + k) * 40 ≤ 140737488355328 by omega)
      have M3 := hid (show k + (n - (k + 1)) ≤ maxLen by unfold maxLen; omega)
      have M4 := hid (show (k + (n - (k + 1))) * 40 ≤ 140737488355328 by omega)
      have hnk : k + (n - (k + 1)) = n - 1 := by omega
      have HNK := hid hnk
      have FIN := hid (fun (W : World) (a2 : Option Addr) (c2 base : Nat) (h : W.ownsRow base 41 3 (.slice a2 (n - 1) c2) (n - 1) (xs1 ++ xs2)) (hb : Below wr.heap.size wr W) => show CellsAt W a2 (l.eraseIdx k) from by
        rw [erase_eq]
        exact cells_of_own h ((hx1.below hb).append (hx2.below hb)) (by rw [List.length_append, hlen1, hlen2]; omega))
      have HELEN := hid (show (l.eraseIdx k).length = n - 1 by rw [erase_eq, List.length_append, hlen1, hlen2]; omega)
      have hkc : k ≤ cap := by omega
      clear hx1 hx2 hx1n hx2n hx1c hx2c hlen1 hlen2 hA2 hnk
      go_wp2
      refine region_cut (LessR (.slice a n cap) k n wr (l.eraseIdx k)) ?_ ?_
      · refine plain_region (fun j w' => (fun _ : Nat => true) j = true → Below wr.heap.size wr w') (by kernel_rfl) ?_
        have hbd : Below wr.heap.size wr wr.drew := (Below.refl _ _).drew
        generalize wr.drew = wd at hbd ⊢
        refine AnyT.takeW (i := 1) (v := .slice a n cap) rfl (by kernel_rfl) (by kernel_rfl) (by kernel_rfl) (fun _ _ _ h => absurd h.1 (by simp)) (by kernel_rfl) (by rfl) (by intro w' hw'; go_simp) hbd ?_
        refine AnyT.takeW (i := 2) (v := .int .i64 k) rfl (by kernel_rfl) (by kernel_rfl) (by kernel_rfl) (fun _ _ _ h => absurd h.1 (by simp)) (by kernel_rfl) (by rfl) (by intro w' hw'; go_simp) hbd ?_
        refine AnyT.takeW (i := 3) (v := .slice a k cap) rfl (by kernel_rfl) (by kernel_rfl) (by kernel_rfl) (fun _ _ _ h => absurd h.1 (by simp)) (by kernel_rfl) (by rfl) (by intro w' hw'; go_simp) hbd ?_
        refine AnyT.takeW (i := 5) (v := .slice a n cap) rfl (by kernel_rfl) (by kernel_rfl) (by kernel_rfl) (fun _ _ _ h => absurd h.1 (by simp)) (by kernel_rfl) (by rfl) (by intro w' hw'; go_simp) hbd ?_
        refine AnyT.takeW (i := 6) (v := .int .i64 k) rfl (by kernel_rfl) (by kernel_rfl) (by kernel_rfl) (fun _ _ _ h => absurd h.1 (by simp)) (by kernel_rfl) (by rfl) (by intro w' hw'; go_simp) hbd ?_
        refine AnyT.takeW (i := 7) (v := .int .i64 ((k : Int) + 1)) rfl (by kernel_rfl) (by kernel_rfl) (by kernel_rfl) (fun _ _ _ h => absurd h.1 (by simp)) (by kernel_rfl) (by rfl) (by intro w' hw'; have q := IntWalk.i64_in ((k : Int) + 1) (by omega); go_simp) hbd ?_
        refine AnyT.takeW (i := 8) (v := .slice A2 (n - (k + 1)) (cap - (k + 1))) rfl (by kernel_rfl) (by kernel_rfl) (by kernel_rfl) (fun _ _ _ h => absurd h.1 (by simp)) (by kernel_rfl) (by rfl) (by intro w' hw'; rw [HA2.out]; unfold cutA; have q1 : 0 ≤ (k : Int) + 1 := (by omega); have q2 : (k : Int) + 1 ≤ (n : Int) := (by omega); have q3 : ((k : Int) + 1).toNat = k + 1 := (by omega); go_simp) hbd ?_
        have hbA := hbd.alloc hbd.size (.cells #[] 41)
        refine AnyT.next (i := 0) (by kernel_rfl) rfl (wpOp_of_list rfl ?_)
        go_wp2
        refine ⟨by first | exact hbA | exact fun _ => hbA, ?_⟩
        have MM := World.ownsRow_made (base := wd.heap.size) (e := 41) (size := 3) wd #[] 0 (Nat.le_refl _) (Nat.zero_le _) rfl
        refine AnyT.next (i := 4) (by kernel_rfl) rfl (wpOp_of_list rfl ?_)
        (refine wpList_app _ rfl (.tmp 25) (.tmp 28) 24 rfl wd.heap.size 41 (.agg #[.slice none 0 0, .int .i64 0, .int .i64 0]) 3 40 Try.underlying24 info_cell rfl (by decide) (.slice (some ⟨wd.heap.size, 0, none⟩) 0 0) 0 [] rfl MM a k cap xs1 rfl X1L.out X1N.out (CLT.out _ hbA xs1 a X1C.out) X11.out M1.out M2.out (by simp) ?_)
        intro a1 c1 w3 own1 g1
        rw [Nat.zero_add] at own1 ⊢
        rw [List.nil_append] at own1
        have hb3 := hbA.grown g1 hbA.size (fun j hj => Nat.le_trans hbd.size ((MM.lt j hj).1))
        have hz3 : wd.heap.size ≤ w3.heap.size := by have := g1.size; simp at this; omega
        refine ⟨by first | exact hb3 | exact fun _ => hb3, ?_⟩
        refine AnyT.next (i := 9) (by kernel_rfl) rfl (wpOp_of_list rfl ?_)
        (refine wpList_app _ rfl (.tmp 29) (.tmp 33) 24 rfl wd.heap.size 41 (.agg #[.slice none 0 0, .int .i64 0, .int .i64 0]) 3 40 Try.underlying24 info_cell rfl (by decide) (.slice a1 k c1) k xs1 rfl own1 A2 (n - (k + 1)) (cap - (k + 1)) xs2 rfl X2L.out X2N.out (CLT.out _ hb3 xs2 A2 X2C.out) X21.out M3.out M4.out hz3 ?_)
        intro a2 c2 w4 own2 g2
        have hb4 := hb3.grown g2 hb3.size (fun j hj => Nat.le_trans hbd.size ((own1.lt j hj).1))
        rw [HNK.out] at own2 ⊢
        refine ⟨by first | exact hb4 | exact fun _ => hb4, ?_⟩
        refine AnyT.next (i := 10) (by kernel_rfl) rfl (wpOp_of_list rfl ?_)
        go_wp2
        refine ⟨by first | exact hb4 | exact fun _ => hb4, ?_⟩
        exact ⟨by kernel_rfl, rfl, .slice (some ⟨wd.heap.size, 0, none⟩) 0 0, .slice a k cap, .slice a1 k c1, .slice A2 (n - (k + 1)) (cap - (k + 1)), a2, c2, (by go_frame), FIN.out _ _ _ _ own2 hb4, hb4⟩
      · rintro fr' w3 ⟨v25, v28, v29, v33, a2, c2, rfl, hcel, hb3⟩
        obtain ⟨f0, f1⟩ := HF.out _ (chain hbr hb3)
        have HLL := hid (HL.out w3 a2 (n - 1) c2 (l.eraseIdx k) HELEN.out (by unfold maxLen; omega) hcel (fun c hc => HRW.out c (List.mem_of_mem_eraseIdx hc)))
        have hfe := HFZ.out (l.eraseIdx k)
        obtain ⟨fe, hfe2⟩ : ∃ f, f = (fitting P T (l.eraseIdx k)).length := ⟨_, rfl⟩
        rw [← hfe2] at hfe hks
        have HFE := hid hfe2
        clear hfe2 hcel
        go_frame
        go_wp2_with (go_at_call 71; refine HLL.out.mono ?_; rintro e w5 ⟨v5, base, rfl, hbase, hR5, hb5⟩; refine Stop.of ?_)
        refine Stop.go ?_
        obtain ⟨pa, pc, rfl, hpm, hpr, _⟩ := hR5.reads
        rw [← HFE.out]
        clear hR5 hpr hpm hbase f0 f1
        have hb35 := chain hb3 hb5
        have ho5 := own_below HO.out hb35
        have N1 := one_news w5 (.int .i64 (k : Int)) 3
        have hbw5 := chain hb hb35
        have N2 := Nat.le_trans hbw5.size (le_alloc w5 (.cells #[.int .i64 (k : Int)] 3))
        have hla : Below w1.heap.size w1 (w5.alloc (.cells #[.int .i64 (k : Int)] 3)) := hbw5.alloc hbw5.size _
        have N3 := ho5.alloc (.cells #[.int .i64 (k : Int)] 3)
        have M5 := hid (show m + 1 ≤ maxLen by unfold maxLen; omega)
        have M6 := hid (show (m + 1) * 8 ≤ 140737488355328 by omega)
        have M7 := hid N2
        have HN1 := hid N1
        have HN3 := hid N3
        have HLA := hid hla
        have HO5 := hid ho5
        clear N1 N2 N3 hla ho5
        by_cases he : fe = fn
        · rw [if_pos he] at hks
          have HK1 := hid hks
          have hee : ((fe : Int) == (fn : Int)) = true := by simp [he]
          have HE := hid he
          clear hks he
          go_wp2_with (at_builtin; refine wpList_app _ rfl (.tmp 41) (.tmp 43) 25 rfl w1.heap.size 3 (.int .i64 0) 1 8 Try.underlying25 info_int rfl Nat.one_pos (.slice a4 m c4) m ((kl k).map (Value.int .i64)) rfl HN3.out (some ⟨w5.heap.size, 0, none⟩) 1 1 [.int .i64 (k : Int)] rfl rfl no_none HN1.out (ints_oneCell .i64 [(k : Int)]) M5.out M6.out M7.out ?_; refine Stop.of ?_)
          refine Stop.go ?_
          intro a5 c5 w6 own6 g6
          have hb6 := HLA.out.grown g6 M7.out (fun j hj => (HN3.out.lt j hj).1)
          have HO6 := hid own6
          clear own6
          go_wp2
          refine ⟨⟨k + 1, by omega, by go_num, ?_, hb6⟩, by simp [intOf]; omega⟩
          have := HO6.out
          rw [HK1.out, List.length_append, List.map_append, ← HM.out]
          exact this
        · rw [if_neg he, List.append_nil] at hks
          have HK1 := hid hks
          have hee : ((fe : Int) == (fn : Int)) = false := by simp; omega
          have HE := hid he
          clear hks he
          go_wp2
          refine ⟨⟨k + 1, by omega, by go_num, ?_, hbw5⟩, by simp [intOf]; omega⟩
          rw [HK1.out, ← HM.out]
          exact HO5.out
    · obtain rfl : k = n := by omega
      go_wp2
      go_ret2
      have hr : ((idleN P T l).map (fun i : Nat => (i : Int))).length = m ∧ m ≤ maxLen ∧ IntsAt wr a4 ((idleN P T l).map (fun i : Nat => (i : Int))) ∧ Below w.heap.size w wr := by
        rw [← HFIN.out]
        exact ⟨HM.out.symm, by unfold maxLen; omega, own_ints_at HO.out HM.out.symm (by unfold maxLen; omega), HB.out _ (chain hb1 hb)⟩
      exact ⟨_, _, _, rfl, hr⟩
end Go.Proofs.Ytdcflpfaaeijoaa
