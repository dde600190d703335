/- Walk: solved (reference 03). · Walks: Solve, SameRatios (reference 03). -/
import Derived.Test.YtfipebkhomppmaaRatE
namespace Go.Proofs.Ytfipebkhomppmaa
section
open Go.RowKit
set_option linter.unusedVariables false

set_option maxRecDepth 100000 in
set_option maxHeartbeats 4000000 in
theorem r3solved_c (w : World) (a a2 a3 : Option Addr) (n cap n2 cap2 cap3 : Nat) (M : Mask) (l y : List Int) (hn : M.length = n) (hn2 : l.length = n2) (hn3 : y.length = n) (H : RowsAt w a M) (H2 : IntsAt w a2 l) (H3 : IntsAt w a3 y)
    (hok : okM M = true) (hmil : milB y = true) (hso : SetOk (colsM M) l) :
    Calls Try.prog 94 #[.slice a n cap, .slice a2 n2 cap2, .slice a3 n cap3] w fun e w' => ∃ v base, e = .returned (.tuple #[v, .int .i64 (solvedR (withY (colsF M l) y) n2).2.1, .bool (solvedR (withY (colsF M l) y) n2).2.2]) ∧ w.heap.size ≤ base ∧ RatsO w' base v (solvedR (withY (colsF M l) y) n2).1 ∧ Below w.heap.size w w' := by
  obtain ⟨hM, h1, h6, hc1, hc10⟩ := okM_ok hok
  have hl10 := set_le hso
  have hn6 : n ≤ 6 := by omega
  have hn1 : 1 ≤ n := by omega
  have hn210 : n2 ≤ 10 := by omega
  have hS : ∀ r ∈ M, ∀ j ∈ l, 0 ≤ j ∧ j < r.length := fun r hr j hj => by rw [hM.wid r hr]; exact hso.2 j hj
  have HCl := hid (r3columnsD_c w a n cap M hn (by omega) H a2 n2 cap2 l hn2 (by omega) H2 hS)
  have hMC : MaskOk (colsF M l) n2 := by rw [← hn2]; exact hM.cols l
  have hB6 := mil_bnd6 hmil
  have hY := hMC.addY (y := y) (by rw [colsF_len]; omega) (Y := 1000000) (by omega) hB6
  have hCl : (colsF M l).length = n := by rw [colsF_len, hn]
  have hClw := hMC.wid
  obtain ⟨L0, hL0⟩ : ∃ L0, L0 = colsF M l := ⟨_, rfl⟩
  rw [← hL0] at HCl hY hCl hClw ⊢
  have hAll := addY_all hCl hn3
  have hCn : (withY L0 y).length = n := by rw [withY_len (by omega), hCl]
  have HAG := hid (fun k (hk : k < n) => addY_get (k := k) hCl hn3 hk)
  have HAS := hid (fun k (hk : k < n) => addY_succ (k := k) hCl hn3 hk)
  have HAL := hid (fun k (hk : k ≤ n) => addY_len (k := k) hCl hn3 hk)
  have HA0 := hid (addY_zero L0 y)
  obtain ⟨C, hC⟩ : ∃ C, C = withY L0 y := ⟨_, rfl⟩
  rw [← hC] at hY hAll hCn ⊢
  have hle : ∀ t, t ≤ n2 + 1 → ∀ r ∈ (rRed C t).done ++ (rRed C t).left, r.length = n2 + 1 ∧ BndL 1073741824 r := fun t ht r hr => by
    have h0 : ∀ t, t ≤ n2 → ∀ r ∈ (rRed C t).done ++ (rRed C t).left, ∀ x ∈ r, -((720 * 1000000 : Nat) : Int) ≤ x ∧ x ≤ ((720 * 1000000 : Nat) : Int) := fun t ht r hr => (rRed_le hY.wid hY.le6 hY.one hY.all ht r hr).2
    refine ⟨(rRed_inv C hY.wid t).1.wid r hr, ?_⟩
    rcases Nat.lt_or_ge n2 t with h | h
    · obtain rfl : t = n2 + 1 := by omega
      intro x hx
      have := rRed_le1 hY.wid (h0 n2 (Nat.le_refl _)) r hr x hx
      omega
    · intro x hx
      have := h0 t h r hr x hx
      omega
  have HRd := hid (fun (X : World) (a5 : Option Addr) (c5 : Nat) (hR : RowsAt X a5 C) => r3reduced_c X a5 n c5 C (n2 + 1) hCn (by omega) hR hY.wid (by omega) (fun r hr x hx => by have := hY.all r hr x hx; omega)
    hle (fun t => by rw [(ref_lens hY.wid t).1, hCn]) (fun t => (ref_lens hY.wid t).2))
  have hinv := (rRed_inv C hY.wid (n2 + 1)).1
  have hdp : (rRed C (n2 + 1)).piv.length = (rRed C (n2 + 1)).done.length := (ref_lens hY.wid (n2 + 1)).2
  have hDw : ∀ r ∈ (rRed C (n2 + 1)).done, r.length = n2 + 1 := fun r hr => (hle _ (Nat.le_refl _) r (List.mem_append_left _ hr)).1
  have hDb : ∀ r ∈ (rRed C (n2 + 1)).done, BndL 1073741824 r := fun r hr => (hle _ (Nat.le_refl _) r (List.mem_append_left _ hr)).2
  have hKn : (rRed C (n2 + 1)).piv.length ≤ n := by have := (ref_lens hY.wid (n2 + 1)).1; omega
  have hJlt : ∀ k, k < (rRed C (n2 + 1)).piv.length → jf (rRed C (n2 + 1)).piv k < n2 + 1 := fun k hk => by
    unfold jf; rw [List.getElem?_eq_getElem hk]; exact hinv.lt _ (List.getElem_mem hk)
  have hJpos : ∀ k, k < (rRed C (n2 + 1)).piv.length → 0 < vec ((rRed C (n2 + 1)).done[k]?.getD []) (jf (rRed C (n2 + 1)).piv k) := fun k hk => by
    have := (hinv.pp k hk).2
    unfold rowv at this
    rw [List.getElem?_append_left (by omega)] at this
    exact this
  have HSV := hid (show solvedR C n2 = if n2 ∈ (rRed C (n2 + 1)).piv then ([], 0, false) else ((List.range (rRed C (n2 + 1)).piv.length).foldl (fun out i => out.set (jf (rRed C (n2 + 1)).piv i) (ratioF (vec ((rRed C (n2 + 1)).done[i]?.getD []) n2) (vec ((rRed C (n2 + 1)).done[i]?.getD []) (jf (rRed C (n2 + 1)).piv i)))) (List.replicate n2 (0, 1)), (n2 : Int) - (rRed C (n2 + 1)).piv.length, true) from rfl)
  obtain ⟨SV, hSV⟩ : ∃ SV, SV = solvedR C n2 := ⟨_, rfl⟩
  rw [← hSV] at HSV ⊢
  obtain ⟨D, hD⟩ : ∃ D, D = (rRed C (n2 + 1)).done := ⟨_, rfl⟩
  obtain ⟨J, hJ⟩ : ∃ J, J = (rRed C (n2 + 1)).piv := ⟨_, rfl⟩
  rw [← hD] at HRd hdp hDw hDb hJpos HSV
  rw [← hJ] at HRd hdp hJpos HSV hKn hJlt
  obtain ⟨K, hK⟩ : ∃ K, K = J.length := ⟨_, rfl⟩
  rw [← hK] at HRd hdp hJpos HSV hKn hJlt
  have HKJ := hid hK
  have HDL := hid (show D.length = K from hdp.symm)
  have HDW := hid hDw
  have HDB := hid hDb
  have HJLT := hid hJlt
  have HJPOS := hid hJpos
  have HALL := hid hAll
  have HN3 := hid hn3
  have HH3 := hid H3
  have HCW := hid hClw
  have HCL := hid hCl
  have HYW := hid hY.wid
  clear hSV hD hJ hK hdp hDw hDb hJlt hJpos hAll hn3 H3 hClw hle hinv hC hL0 hY hMC hB6 hS hCn hCl H H2 hn hn2 hso hmil hok hM h1 h6 hc1 hc10 hl10
  go_enter Try.func94, Try.ntmps94
  go_wp2_with (go_at_call 67; refine HCl.out.mono ?_; rintro e w1 ⟨v1, rfl, hT1, hb1⟩; refine Stop.of ?_)
  refine Stop.go ?_
  have hv1 : ∃ g1 c1, v1 = .slice (some ⟨g1, 0, none⟩) n c1 := by
    obtain ⟨g1, c1, _, e, _⟩ := hT1.at HCL.out (i := 0) (by omega)
    exact ⟨g1, c1, e⟩
  obtain ⟨g1, c1, rfl⟩ := hv1
  have HT1 := hid hT1
  have HB1 := hid hb1
  clear hT1 hb1 HCl
  go_wp2
  go_loopw [22] (fun i wr => ∃ k : Nat, k ≤ n ∧ i = .int .i64 k ∧ TabD wr w.heap.size (.slice (some ⟨g1, 0, none⟩) n c1) (addY L0 y k) ∧ Below w.heap.size w wr) (fun i _ => n - (intOf i).toNat)
  case atStart => exact ⟨0, Nat.zero_le _, rfl, by rw [HA0.out]; exact HT1.out, HB1.out⟩
  case round =>
    obtain ⟨k, hk, rfl, hT, hbk⟩ := hrel
    by_cases hlt : k < n
    · obtain ⟨g0, cap0, u, e, hbg, hg0, hcu, hou, hfu, hune, hset⟩ := hT.at (HAL.out k hk) hlt
      cases e
      rw [HAG.out k hlt] at hou
      obtain ⟨yb, yo, rfl, hys, hyc⟩ := HH3.out k (by rw [HN3.out]; exact hlt)
      have hasu := HAS.out k hlt
      obtain ⟨x, hx⟩ : ∃ x, x = y[k]?.getD 0 := ⟨_, rfl⟩
      rw [← hx] at hyc hasu
      have hrl : (L0[k]?.getD []).length = n2 := by
        rw [List.getElem?_eq_getElem (by rw [HCL.out]; exact hlt)]; exact HCW.out _ (List.getElem_mem _)
      obtain ⟨r, hr⟩ : ∃ r, r = L0[k]?.getD [] := ⟨_, rfl⟩
      rw [← hr] at hou hasu hrl
      unfold OwnR at hou
      rw [hrl] at hou
      obtain ⟨ua, uc, rfl⟩ := ownsRow_slice hou
      have HOU := hid hou
      have HUN := hid hune
      have HSET := hid hset
      have HAU := hid hasu
      have HBK := hid hbk
      have HRL := hid hrl
      have hg0 := hg0
      have HSU := hid (hou.lt)
      have HS := hid (fun (X : World) (hX : Below wr.heap.size wr X) => show X.cell? ⟨g1, k, none⟩ = some (.slice ua n2 uc) ∧ X.cell? ⟨yb, yo + k, none⟩ = some (.int .i64 x) from
        ⟨(hX.cell (p := ⟨g1, k, none⟩) hg0).trans hcu, (hX.cell (p := ⟨yb, yo + k, none⟩) (Nat.lt_of_lt_of_le hys hbk.size)).trans ((hbk.cell (p := ⟨yb, yo + k, none⟩) hys).trans hyc)⟩)
      have i1 : (k : Int) < (n : Int) := by omega
      have M1 := hid (show n2 + 1 ≤ maxLen by unfold maxLen; omega)
      have M2 := hid (show (n2 + 1) * 8 ≤ 140737488355328 by omega)
      clear hou hune hset hasu hbk hrl hx hr hyc hcu hT
      go_wp2
      refine plain_region (fun j' X => decide (j' ≤ 11) = true → X.cell? ⟨g1, k, none⟩ = some (.slice ua n2 uc) ∧ X.cell? ⟨yb, yo + k, none⟩ = some (.int .i64 x)) (by kernel_rfl) ?_
      have hbd : Below wr.heap.size wr wr.drew := (Below.refl _ _).drew
      have HO2 := hid (own_below HOU.out ((Below.refl _ wr).drew))
      have HB3 := hid hbd
      generalize wr.drew = wd at hbd HO2 HB3 ⊢
      refine AnyT.takeD (i := 0) (v := .slice (some ⟨g1, 0, none⟩) n c1) rfl rfl (by kernel_rfl) (by kernel_rfl) (by kernel_rfl) (by first | exact (fun _ _ _ h => h) | exact (fun _ _ _ h => absurd h.1 (by simp))) (by kernel_rfl) (by rfl) (by rintro w' ⟨y1, y2⟩; go_simp) (HS.out _ hbd) ?_; go_frame
      refine AnyT.takeD (i := 1) (v := .int .i64 k) rfl rfl (by kernel_rfl) (by kernel_rfl) (by kernel_rfl) (by first | exact (fun _ _ _ h => h) | exact (fun _ _ _ h => absurd h.1 (by simp))) (by kernel_rfl) (by rfl) (by rintro w' ⟨y1, y2⟩; go_simp) (HS.out _ hbd) ?_; go_frame
      refine AnyT.takeD (i := 2) (v := .slice (some ⟨g1, 0, none⟩) n c1) rfl rfl (by kernel_rfl) (by kernel_rfl) (by kernel_rfl) (by first | exact (fun _ _ _ h => h) | exact (fun _ _ _ h => absurd h.1 (by simp))) (by kernel_rfl) (by rfl) (by rintro w' ⟨y1, y2⟩; go_simp) (HS.out _ hbd) ?_; go_frame
      refine AnyT.takeD (i := 3) (v := .int .i64 k) rfl rfl (by kernel_rfl) (by kernel_rfl) (by kernel_rfl) (by first | exact (fun _ _ _ h => h) | exact (fun _ _ _ h => absurd h.1 (by simp))) (by kernel_rfl) (by rfl) (by rintro w' ⟨y1, y2⟩; go_simp) (HS.out _ hbd) ?_; go_frame
      refine AnyT.takeD (i := 4) (v := .pointer (some ⟨g1, k, none⟩)) rfl rfl (by kernel_rfl) (by kernel_rfl) (by kernel_rfl) (by first | exact (fun _ _ _ h => h) | exact (fun _ _ _ h => absurd h.1 (by simp))) (by kernel_rfl) (by rfl) (by rintro w' ⟨y1, y2⟩; go_simp) (HS.out _ hbd) ?_; go_frame
      refine AnyT.takeD (i := 5) (v := .slice ua n2 uc) rfl rfl (by kernel_rfl) (by kernel_rfl) (by kernel_rfl) (by first | exact (fun _ _ _ h => h) | exact (fun _ _ _ h => absurd h.1 (by simp))) (by kernel_rfl) (by rfl) (by rintro w' ⟨y1, y2⟩; go_simp) (HS.out _ hbd) ?_; go_frame
      refine AnyT.takeD (i := 6) (v := .slice (some ⟨yb, yo, none⟩) n cap3) rfl rfl (by kernel_rfl) (by kernel_rfl) (by kernel_rfl) (by first | exact (fun _ _ _ h => h) | exact (fun _ _ _ h => absurd h.1 (by simp))) (by kernel_rfl) (by rfl) (by rintro w' ⟨y1, y2⟩; go_simp) (HS.out _ hbd) ?_; go_frame
      refine AnyT.takeD (i := 7) (v := .int .i64 k) rfl rfl (by kernel_rfl) (by kernel_rfl) (by kernel_rfl) (by first | exact (fun _ _ _ h => h) | exact (fun _ _ _ h => absurd h.1 (by simp))) (by kernel_rfl) (by rfl) (by rintro w' ⟨y1, y2⟩; go_simp) (HS.out _ hbd) ?_; go_frame
      refine AnyT.takeD (i := 8) (v := .pointer (some ⟨yb, yo + k, none⟩)) rfl rfl (by kernel_rfl) (by kernel_rfl) (by kernel_rfl) (by first | exact (fun _ _ _ h => h) | exact (fun _ _ _ h => absurd h.1 (by simp))) (by kernel_rfl) (by rfl) (by rintro w' ⟨y1, y2⟩; go_simp) (HS.out _ hbd) ?_; go_frame
      refine AnyT.takeD (i := 9) (v := .int .i64 x) rfl rfl (by kernel_rfl) (by kernel_rfl) (by kernel_rfl) (by first | exact (fun _ _ _ h => h) | exact (fun _ _ _ h => absurd h.1 (by simp))) (by kernel_rfl) (by rfl) (by rintro w' ⟨y1, y2⟩; go_simp) (HS.out _ hbd) ?_; go_frame
      have hbA : Below wr.heap.size wr (wd.alloc (.cells #[.int .i64 x] 3)) := HB3.out.alloc HB3.out.size _
      have M3 := hid (Nat.le_trans HBK.out.size hbA.size)
      refine AnyT.next (i := 10) (by kernel_rfl) rfl (wpOp_of_list rfl ?_)
      go_wp2
      refine ⟨fun _ => HS.out _ hbA, ?_⟩
      refine AnyT.next (i := 11) (by kernel_rfl) rfl (wpOp_of_list rfl ?_)
      refine wpList_app_at _ rfl (.tmp 30) (.tmp 35) 31 rfl w.heap.size 3 (.int .i64 0) 1 8 Try.underlying31 li_int rfl Nat.one_pos (.slice ua n2 uc) n2 _ rfl (HO2.out.alloc _) ⟨wd.heap.size, 0, none⟩ 1 1 [.int .i64 x] rfl rfl (one_news wd _ _ _ rfl) (li_one _) M1.out M2.out M3.out ?_
      intro a5 c5 w5 own5 g5 hat
      have hD5 : TabD (w5.setCell ⟨g1, k, none⟩ (.slice a5 (n2 + 1) c5)) w.heap.size (.slice (some ⟨g1, 0, none⟩) n c1) (addY L0 y (k + 1)) := by
        rw [HAU.out]
        exact HSET.out _ w5 _ (r ++ [x]) hbA g5 (by unfold OwnR; simpa [HRL.out] using own5) hat
      have hb5 : Below w.heap.size w w5 := (HBK.out.trans (hbA.mono HBK.out.size)).grown g5 M3.out (fun q hq => (HSU.out q hq).1)
      have hg5 : w5.heap[g1]? = (wd.alloc (.cells #[.int .i64 x] 3)).heap[g1]? := g5.block g1 (Nat.lt_of_lt_of_le hg0 hbA.size) (fun e => HUN.out g1 e.symm rfl)
      have hy5 : w5.heap[yb]? = (wd.alloc (.cells #[.int .i64 x] 3)).heap[yb]? := g5.block yb (Nat.lt_of_lt_of_le hys M3.out) (fun e => by have := (HSU.out yb e.symm).1; omega)
      have q1 : w5.cell? ⟨g1, k, none⟩ = some (.slice ua n2 uc) := (World.cell?_of_block (a := ⟨g1, k, none⟩) hg5).trans (HS.out _ hbA).1
      have q2 : w5.cell? ⟨yb, yo + k, none⟩ = some (.int .i64 x) := (World.cell?_of_block (a := ⟨yb, yo + k, none⟩) hy5).trans (HS.out _ hbA).2
      have q3 : w5.frozen? ⟨g1, k, none⟩ = false := by
        have h5 : w5.heap[g1]? = wr.heap[g1]? := hg5.trans (hbA.block g1 hg0)
        rw [← hfu]; simp [World.frozen?, h5]
      have q4 : g1 < w5.heap.size := by
        rcases Nat.lt_or_ge g1 w5.heap.size with h | h
        · exact h
        · rw [World.cell?, Array.getElem?_eq_none h] at q1; cases q1
      have hbe : Below w.heap.size w (w5.setCell ⟨g1, k, none⟩ (.slice a5 (n2 + 1) c5)) := below_set hb5 hbg k _
      refine ⟨fun _ => ⟨q1, q2⟩, ?_⟩
      have HD5 := hid hD5
      have HBE := hid hbe
      clear own5 g5 hat hD5 hb5 hg5 hy5 hbe hbA
      refine AnyT.next (i := 12) (by kernel_rfl) rfl (wpOp_of_list rfl ?_)
      go_wp2
      refine ⟨fun h => absurd h (by decide), ?_⟩
      refine AnyT.next (i := 13) (by kernel_rfl) rfl (wpOp_of_list rfl ?_)
      go_wp2
      refine ⟨fun h => absurd h (by decide), ?_⟩
      refine AnyT.done (by kernel_rfl) ?_ _
      go_wp2
      exact ⟨⟨k + 1, by omega, by go_num, HD5.out, HBE.out⟩, by simp [intOf]; omega⟩
    · obtain rfl : k = n := by omega
      rw [HALL.out] at hT
      have hRA := hT.tab.rows (by rw [← HALL.out]; exact HAL.out k (Nat.le_refl _)) (fun r hr => by rw [HYW.out r hr]; unfold maxLen; omega)
      have HR1 := hid (HRd.out wr (some ⟨g1, 0, none⟩) c1 hRA)
      have HBK := hid hbk
      clear hT hRA hbk HRd
      go_wp2_with (go_at_call 87; refine HR1.out.mono ?_; rintro e w3 ⟨vD, vP, rfl, hTD, hTP, hb3⟩; refine Stop.of ?_)
      refine Stop.go ?_
      obtain ⟨dA, dc, rfl⟩ : ∃ a c, vD = .slice a K c := by
        obtain ⟨_, ho, _⟩ := hTD
        obtain ⟨a', c', e⟩ := ownsRow_slice ho
        exact ⟨a', c', by rw [e, HDL.out]⟩
      have HDA := hid (hTD.rows HDL.out (fun r hr => by rw [HDW.out r hr]; unfold maxLen; omega))
      obtain ⟨ja, jc, rfl, hJI, hJm⟩ := ints_of_own hTP (by unfold castL; rw [List.length_map, HKJ.out])
      have HJI := hid hJI
      have HBW := hid (show Below w.heap.size w w3 from HBK.out.trans (hb3.mono HBK.out.size))
      clear hTD hTP hJI hb3 HR1 HBK
      have hmk := run_make_rat n2 (by omega)
      obtain ⟨w7, hw7⟩ : ∃ w7, w7 = w3.alloc (.cells (madeCells #[.int .i64 0, .int .i64 0] (n2 * 2)) 46) := ⟨_, rfl⟩
      obtain ⟨g, hg⟩ : ∃ g, g = w3.heap.size := ⟨_, rfl⟩
      have HRB0 := hid (show RatBlk w7 g (List.replicate n2 (0, 0)) by rw [hw7, hg]; exact made_rat w3 n2)
      have HB7 := hid (show Below g w3 w7 by rw [hw7, hg]; exact (Below.refl _ _).alloc (Nat.le_refl _) _)
      go_wp2_with fail
      rw [← hg, ← hw7]
      have HG := hid hg
      clear hg hw7 hmk
      go_wp2
      go_loopw [49] (fun i wr => ∃ t : Nat, t ≤ n2 ∧ i = .int .i64 t ∧ RatBlk wr g (List.replicate t (0, 1) ++ List.replicate (n2 - t) (0, 0)) ∧ Below w3.heap.size w3 wr) (fun i _ => n2 - (intOf i).toNat)
      case atStart => exact ⟨0, Nat.zero_le _, rfl, by simpa using HRB0.out, by rw [← HG.out]; exact HB7.out⟩
      case round =>
        obtain ⟨t, ht, rfl, hr, hbk⟩ := hrel
        by_cases hlt : t < n2
        · have hlen : (List.replicate t ((0, 1) : Rt) ++ List.replicate (n2 - t) (0, 0)).length = n2 := by simp; omega
          obtain ⟨⟨z0, q0⟩, ⟨z1, q1⟩, f0, f1⟩ : (∃ z, wr.cell? ⟨g, t * 2, none⟩ = some (.int .i64 z)) ∧ (∃ z, wr.cell? ⟨g, t * 2 + 1, none⟩ = some (.int .i64 z)) ∧ wr.frozen? ⟨g, t * 2, none⟩ = false ∧ wr.frozen? ⟨g, t * 2 + 1, none⟩ = false := by
            obtain ⟨q0, q1, q2⟩ := hr.cells (k := t) (by rw [hlen]; exact hlt)
            exact ⟨⟨_, q0⟩, ⟨_, q1⟩, q2 _, q2 _⟩
          have hst := hr.set (k := t) (by rw [hlen]; exact hlt) 0 1
          have e1 : (List.replicate t ((0, 1) : Rt) ++ List.replicate (n2 - t) (0, 0)).set t (0, 1) = List.replicate (t + 1) (0, 1) ++ List.replicate (n2 - (t + 1)) (0, 0) := by
            rw [List.set_append_right _ _ (by simp), show n2 - t = n2 - (t + 1) + 1 by omega, List.replicate_succ (n := n2 - (t + 1)), List.replicate_succ' (n := t)]
            simp
          rw [e1] at hst
          have hbe : Below w3.heap.size w3 ((wr.setCell ⟨g, t * 2, none⟩ (.int .i64 0)).setCell ⟨g, t * 2 + 1, none⟩ (.int .i64 1)) := below_set (below_set hbk (by rw [HG.out]; exact Nat.le_refl _) _ _) (by rw [HG.out]; exact Nat.le_refl _) _ _
          have hgl := hr.lt
          have HST := hid hst
          have HBE := hid hbe
          have i1 : (t : Int) < (n2 : Int) := by omega
          clear hst hbe e1 hlen hr hbk
          go_wp2
          exact ⟨⟨t + 1, by omega, by go_num, HST.out, HBE.out⟩, by simp [intOf]; omega⟩
        · obtain rfl : t = n2 := by omega
          rw [Nat.sub_self, List.replicate_zero, List.append_nil] at hr
          have HR := hid hr
          have HBK := hid hbk
          clear hr hbk
          go_wp2
          obtain ⟨outTo, hOT⟩ : ∃ f : Nat → List Rt, f = fun k => (List.range k).foldl (fun out i => out.set (jf J i) (ratioF (vec (D[i]?.getD []) t) (vec (D[i]?.getD []) (jf J i)))) (List.replicate t (0, 1)) := ⟨_, rfl⟩
          have HO0 := hid (show outTo 0 = List.replicate t (0, 1) by rw [hOT]; rfl)
          have HOS := hid (fun k => show outTo (k + 1) = (outTo k).set (jf J k) (ratioF (vec (D[k]?.getD []) t) (vec (D[k]?.getD []) (jf J k))) by rw [hOT]; simp only []; rw [List.range_succ, List.foldl_append]; rfl)
          have HOE := hid (show SV = if t ∈ J then ([], 0, false) else (outTo K, (t : Int) - K, true) by rw [HSV.out, hOT])
          have HOL := hid (fun k => show (outTo k).length = t by
            induction k with
            | zero => rw [HO0.out]; simp
            | succ k ih => rw [HOS.out k]; simpa using ih)
          clear hOT
          go_loopw [59] (fun i wr => ∃ k : Nat, k ≤ K ∧ i = .int .i64 k ∧ RatBlk wr g (outTo k) ∧ Below w3.heap.size w3 wr ∧ Hid (∀ i, i < k → jf J i ≠ t)) (fun i _ => K - (intOf i).toNat)
          case atStart => exact ⟨0, Nat.zero_le _, rfl, by rw [HO0.out]; exact HR.out, HBK.out, hid (fun i h => by omega)⟩
          case round =>
            obtain ⟨k, hk, rfl, hr, hbk, HNE⟩ := hrel
            by_cases hlt : k < K
            · have hkJ : k < J.length := by rw [← HKJ.out]; exact hlt
              obtain ⟨jb, jo, rfl, hjs, hcj⟩ := HJI.out k (by unfold castL; rw [List.length_map]; exact hkJ)
              have hJk : jf J k = J[k] := by unfold jf; rw [List.getElem?_eq_getElem hkJ]; rfl
              have hcv : (castL J)[k]?.getD 0 = ((jf J k : Nat) : Int) := by rw [hJk]; unfold castL; simp [hkJ]
              rw [hcv] at hcj
              have hjw : wr.cell? ⟨jb, jo + k, none⟩ = some (.int .i64 ((jf J k : Nat) : Int)) := (hbk.cell (p := ⟨jb, jo + k, none⟩) hjs).trans hcj
              have hpl := HJLT.out k hlt
              have hzp := HJPOS.out k hlt
              have hos := HOS.out k
              have hmem : jf J k = t → t ∈ J := fun h => by rw [hJk] at h; rw [← h]; exact List.getElem_mem hkJ
              obtain ⟨p, hp⟩ : ∃ p, p = jf J k := ⟨_, rfl⟩
              rw [← hp] at hjw hpl hzp hos hmem
              have HP := hid hp
              clear hcj hcv hJk hp hkJ
              by_cases hpt : p = t
              · have hse := HOE.out
                rw [if_pos (hmem hpt)] at hse
                subst hse
                subst hpt
                have HBK := hid hbk
                clear hr hbk hpl hzp hos hmem
                have i3 : ((p : Int) == (p : Int)) = true := by simp
                go_wp2
                go_ret3
                exact ⟨.slice none 0 0, rfl, w.heap.size, Nat.le_refl _, RatsO.nil _ _, chain HBW.out HBK.out⟩
              · have hp2 : p < t := by omega
                obtain ⟨db, doff, ra, rn, rc, rfl, hds, hdc, hrn, hrm, hri⟩ := HDA.out k (by rw [HDL.out]; exact hlt)
                have hkD : k < D.length := by rw [HDL.out]; exact hlt
                have hrw : rn = t + 1 := by rw [← hrn]; exact HDW.out _ (List.getElem_mem _)
                have hvx : ∀ c, (D[k])[c]?.getD 0 = vec (D[k]?.getD []) c := fun c => by rw [List.getElem?_eq_getElem hkD]; rfl
                obtain ⟨rb, ro, rfl, hrs, hcx⟩ := hri t (by omega)
                obtain ⟨_, _, e2, _, hcz⟩ := hri p (by omega)
                cases e2
                rw [hvx] at hcx hcz
                have hbx := vec_mem (P := fun x => -((1073741824 : Nat) : Int) ≤ x ∧ x ≤ ((1073741824 : Nat) : Int)) (by omega) (HDB.out _ (List.getElem_mem hkD))
                have hbx1 := hbx t
                have hbx2 := hbx p
                have hRk : D[k]?.getD [] = D[k] := by rw [List.getElem?_eq_getElem hkD]; rfl
                rw [← hRk] at hbx1 hbx2
                have HOf := hid (fun (X : World) => r3ratio_c X (vec (D[k]?.getD []) t) (vec (D[k]?.getD []) p) (by omega) (by omega) (by omega))
                obtain ⟨x, hx⟩ : ∃ x, x = vec (D[k]?.getD []) t := ⟨_, rfl⟩
                obtain ⟨z, hz⟩ : ∃ x, x = vec (D[k]?.getD []) p := ⟨_, rfl⟩
                rw [← hx] at hcx HOf hos
                rw [← hz] at hcz HOf hos
                obtain ⟨Q, hQ⟩ : ∃ Q, Q = ratioF x z := ⟨_, rfl⟩
                rw [← hQ] at HOf hos
                obtain ⟨q1, q2⟩ := Q
                have HOSK := hid hos
                have HOLK := hid (HOL.out k)
                have HNE2 := hid (show ∀ i, i < k + 1 → jf J i ≠ t from fun i hi => by
                  rcases Nat.lt_or_ge i k with h | h
                  · exact HNE.out i h
                  · obtain rfl : i = k := by omega
                    rw [← HP.out]; exact hpt)
                have HR := hid hr
                have HBK := hid hbk
                have HS := hid (fun (X : World) (hX : Below w3.heap.size w3 X) => show X.cell? ⟨db, doff + k, none⟩ = some (.slice (some ⟨rb, ro, none⟩) rn rc) ∧ X.cell? ⟨rb, ro + t, none⟩ = some (.int .i64 x) ∧ X.cell? ⟨rb, ro + p, none⟩ = some (.int .i64 z) from
                  ⟨(hX.cell (p := ⟨db, doff + k, none⟩) hds).trans hdc, (hX.cell (p := ⟨rb, ro + t, none⟩) hrs).trans hcx, (hX.cell (p := ⟨rb, ro + p, none⟩) hrs).trans hcz⟩)
                have i1 : (k : Int) < (K : Int) := by omega
                have i2 : (p : Int) < (rn : Int) := by omega
                have i4 : (t : Int) < (rn : Int) := by omega
                have i5 : (p : Int) < (t : Int) := by omega
                have i3 : ((p : Int) == (t : Int)) = false := by simp; omega
                simp only [ratV] at HOf
                clear hr hbk hzp hos hmem hbx hbx1 hbx2 hRk hx hz hQ hcx hcz hvx hri hrn hrw hdc hpl hpt
                go_wp2
                refine plain_region (fun j' X => wAll j' = true → X.cell? ⟨db, doff + k, none⟩ = some (.slice (some ⟨rb, ro, none⟩) rn rc) ∧ X.cell? ⟨rb, ro + t, none⟩ = some (.int .i64 x) ∧ X.cell? ⟨rb, ro + p, none⟩ = some (.int .i64 z)) (by kernel_rfl) ?_
                have hbd : Below w3.heap.size w3 wr.drew := HBK.out.drew
                have HR2 := hid (HR.out.keep (w' := wr.drew) rfl)
                generalize wr.drew = wd at hbd HR2 ⊢
                refine AnyT.takeD (i := 0) (v := .slice (some ⟨g, 0, none⟩) t t) rfl rfl (by kernel_rfl) (by kernel_rfl) (by kernel_rfl) (by first | exact (fun _ _ _ h => h) | exact (fun _ _ _ h => absurd h.1 (by simp))) (by kernel_rfl) (by rfl) (by rintro w' ⟨y1, y2, y3⟩; go_simp) (HS.out _ hbd) ?_; go_frame
                refine AnyT.takeD (i := 1) (v := .int .i64 p) rfl rfl (by kernel_rfl) (by kernel_rfl) (by kernel_rfl) (by first | exact (fun _ _ _ h => h) | exact (fun _ _ _ h => absurd h.1 (by simp))) (by kernel_rfl) (by rfl) (by rintro w' ⟨y1, y2, y3⟩; go_simp) (HS.out _ hbd) ?_; go_frame
                refine AnyT.takeD (i := 2) (v := .slice (some ⟨db, doff, none⟩) K dc) rfl rfl (by kernel_rfl) (by kernel_rfl) (by kernel_rfl) (by first | exact (fun _ _ _ h => h) | exact (fun _ _ _ h => absurd h.1 (by simp))) (by kernel_rfl) (by rfl) (by rintro w' ⟨y1, y2, y3⟩; go_simp) (HS.out _ hbd) ?_; go_frame
                refine AnyT.takeD (i := 3) (v := .int .i64 k) rfl rfl (by kernel_rfl) (by kernel_rfl) (by kernel_rfl) (by first | exact (fun _ _ _ h => h) | exact (fun _ _ _ h => absurd h.1 (by simp))) (by kernel_rfl) (by rfl) (by rintro w' ⟨y1, y2, y3⟩; go_simp) (HS.out _ hbd) ?_; go_frame
                refine AnyT.takeD (i := 4) (v := .pointer (some ⟨db, doff + k, none⟩)) rfl rfl (by kernel_rfl) (by kernel_rfl) (by kernel_rfl) (by first | exact (fun _ _ _ h => h) | exact (fun _ _ _ h => absurd h.1 (by simp))) (by kernel_rfl) (by rfl) (by rintro w' ⟨y1, y2, y3⟩; go_simp) (HS.out _ hbd) ?_; go_frame
                refine AnyT.takeD (i := 5) (v := .slice (some ⟨rb, ro, none⟩) rn rc) rfl rfl (by kernel_rfl) (by kernel_rfl) (by kernel_rfl) (by first | exact (fun _ _ _ h => h) | exact (fun _ _ _ h => absurd h.1 (by simp))) (by kernel_rfl) (by rfl) (by rintro w' ⟨y1, y2, y3⟩; go_simp) (HS.out _ hbd) ?_; go_frame
                refine AnyT.takeD (i := 6) (v := .slice a2 t cap2) rfl rfl (by kernel_rfl) (by kernel_rfl) (by kernel_rfl) (by first | exact (fun _ _ _ h => h) | exact (fun _ _ _ h => absurd h.1 (by simp))) (by kernel_rfl) (by rfl) (by rintro w' ⟨y1, y2, y3⟩; go_simp) (HS.out _ hbd) ?_; go_frame
                refine AnyT.takeD (i := 7) (v := .int .i64 t) rfl rfl (by kernel_rfl) (by kernel_rfl) (by kernel_rfl) (by first | exact (fun _ _ _ h => h) | exact (fun _ _ _ h => absurd h.1 (by simp))) (by kernel_rfl) (by rfl) (by rintro w' ⟨y1, y2, y3⟩; go_simp) (HS.out _ hbd) ?_; go_frame
                refine AnyT.takeD (i := 8) (v := .pointer (some ⟨rb, ro + t, none⟩)) rfl rfl (by kernel_rfl) (by kernel_rfl) (by kernel_rfl) (by first | exact (fun _ _ _ h => h) | exact (fun _ _ _ h => absurd h.1 (by simp))) (by kernel_rfl) (by rfl) (by rintro w' ⟨y1, y2, y3⟩; go_simp) (HS.out _ hbd) ?_; go_frame
                refine AnyT.takeD (i := 9) (v := .int .i64 x) rfl rfl (by kernel_rfl) (by kernel_rfl) (by kernel_rfl) (by first | exact (fun _ _ _ h => h) | exact (fun _ _ _ h => absurd h.1 (by simp))) (by kernel_rfl) (by rfl) (by rintro w' ⟨y1, y2, y3⟩; go_simp) (HS.out _ hbd) ?_; go_frame
                refine AnyT.takeD (i := 10) (v := .slice (some ⟨db, doff, none⟩) K dc) rfl rfl (by kernel_rfl) (by kernel_rfl) (by kernel_rfl) (by first | exact (fun _ _ _ h => h) | exact (fun _ _ _ h => absurd h.1 (by simp))) (by kernel_rfl) (by rfl) (by rintro w' ⟨y1, y2, y3⟩; go_simp) (HS.out _ hbd) ?_; go_frame
                refine AnyT.takeD (i := 11) (v := .int .i64 k) rfl rfl (by kernel_rfl) (by kernel_rfl) (by kernel_rfl) (by first | exact (fun _ _ _ h => h) | exact (fun _ _ _ h => absurd h.1 (by simp))) (by kernel_rfl) (by rfl) (by rintro w' ⟨y1, y2, y3⟩; go_simp) (HS.out _ hbd) ?_; go_frame
                refine AnyT.takeD (i := 12) (v := .pointer (some ⟨db, doff + k, none⟩)) rfl rfl (by kernel_rfl) (by kernel_rfl) (by kernel_rfl) (by first | exact (fun _ _ _ h => h) | exact (fun _ _ _ h => absurd h.1 (by simp))) (by kernel_rfl) (by rfl) (by rintro w' ⟨y1, y2, y3⟩; go_simp) (HS.out _ hbd) ?_; go_frame
                refine AnyT.takeD (i := 13) (v := .slice (some ⟨rb, ro, none⟩) rn rc) rfl rfl (by kernel_rfl) (by kernel_rfl) (by kernel_rfl) (by first | exact (fun _ _ _ h => h) | exact (fun _ _ _ h => absurd h.1 (by simp))) (by kernel_rfl) (by rfl) (by rintro w' ⟨y1, y2, y3⟩; go_simp) (HS.out _ hbd) ?_; go_frame
                refine AnyT.takeD (i := 14) (v := .int .i64 p) rfl rfl (by kernel_rfl) (by kernel_rfl) (by kernel_rfl) (by first | exact (fun _ _ _ h => h) | exact (fun _ _ _ h => absurd h.1 (by simp))) (by kernel_rfl) (by rfl) (by rintro w' ⟨y1, y2, y3⟩; go_simp) (HS.out _ hbd) ?_; go_frame
                refine AnyT.takeD (i := 15) (v := .pointer (some ⟨rb, ro + p, none⟩)) rfl rfl (by kernel_rfl) (by kernel_rfl) (by kernel_rfl) (by first | exact (fun _ _ _ h => h) | exact (fun _ _ _ h => absurd h.1 (by simp))) (by kernel_rfl) (by rfl) (by rintro w' ⟨y1, y2, y3⟩; go_simp) (HS.out _ hbd) ?_; go_frame
                refine AnyT.takeD (i := 16) (v := .int .i64 z) rfl rfl (by kernel_rfl) (by kernel_rfl) (by kernel_rfl) (by first | exact (fun _ _ _ h => h) | exact (fun _ _ _ h => absurd h.1 (by simp))) (by kernel_rfl) (by rfl) (by rintro w' ⟨y1, y2, y3⟩; go_simp) (HS.out _ hbd) ?_; go_frame
                refine AnyT.next (i := 17) (by kernel_rfl) rfl (wpOp_of_list rfl ?_)
                go_wp2_with (go_at_call 138; refine (HOf.out _).mono ?_; rintro e w4 ⟨rfl, hbl4⟩; refine Stop.of ?_)
                refine Stop.go ?_
                have HB4 := hid (chain hbd hbl4)
                have hr4 := HR2.out.keep (hbl4.block g HR2.out.lt)
                obtain ⟨⟨z0, p0⟩, ⟨z1, p1⟩, f0, f1⟩ : (∃ z, w4.cell? ⟨g, p * 2, none⟩ = some (.int .i64 z)) ∧ (∃ z, w4.cell? ⟨g, p * 2 + 1, none⟩ = some (.int .i64 z)) ∧ w4.frozen? ⟨g, p * 2, none⟩ = false ∧ w4.frozen? ⟨g, p * 2 + 1, none⟩ = false := by
                  obtain ⟨q0, q1, q2⟩ := hr4.cells (k := p) (by rw [HOLK.out]; exact hp2)
                  exact ⟨⟨_, q0⟩, ⟨_, q1⟩, q2 _, q2 _⟩
                have hst := hr4.set (k := p) (by rw [HOLK.out]; exact hp2) q1 q2
                have hbe : Below w3.heap.size w3 ((w4.setCell ⟨g, p * 2, none⟩ (.int .i64 q1)).setCell ⟨g, p * 2 + 1, none⟩ (.int .i64 q2)) := below_set (below_set HB4.out (by rw [HG.out]; exact Nat.le_refl _) _ _) (by rw [HG.out]; exact Nat.le_refl _) _ _
                have hgl := hr4.lt
                rw [← HOSK.out] at hst
                have HST := hid hst
                have HBE := hid hbe
                clear hbd hbl4 hst hbe hr4
                go_wp2
                refine ⟨fun _ => HS.out _ HB4.out, ?_⟩
                refine AnyT.next (i := 18) (by kernel_rfl) rfl (wpOp_of_list rfl ?_)
                go_wp2
                refine ⟨fun _ => HS.out _ HB4.out, ?_⟩
                refine AnyT.next (i := 19) (by kernel_rfl) rfl (wpOp_of_list rfl ?_)
                go_wp2
                refine ⟨fun _ => HS.out _ HBE.out, ?_⟩
                refine AnyT.done (by kernel_rfl) ?_ _
                go_wp2
                exact ⟨⟨k + 1, by omega, by go_num, HST.out, HBE.out, HNE2⟩, by simp [intOf]; omega⟩
            · obtain rfl : k = K := by omega
              have htJ : t ∉ J := fun h => by
                obtain ⟨i, hi, e⟩ := List.mem_iff_getElem.1 h
                refine HNE.out i (by rw [HKJ.out]; exact hi) ?_
                unfold jf; rw [List.getElem?_eq_getElem hi]; exact e
              have hse := HOE.out
              rw [if_neg htJ] at hse
              subst hse
              have HRO := hid (hr.own (base := g) (HOL.out k) (by unfold maxLen; omega) (Nat.le_refl _))
              have HBK := hid hbk
              have hsub : IntKind.i64.wrap ((t : Int) - (k : Int)) = (t : Int) - (k : Int) := IntWalk.i64_in _ (by omega)
              clear hr hbk htJ
              go_wp2
              go_ret3
              exact ⟨_, rfl, g, by rw [HG.out]; exact HBW.out.size, HRO.out, chain HBW.out HBK.out⟩
end

section
open Go.RowKit
set_option linter.unusedVariables false

theorem solve_eq {M : Mask} {l y : List Int} (h : checkE M y l = 0) : solveV M l y = solveR (withY (colsF M l) y) l.length := by
  obtain ⟨hok, hyl, hmil, hso⟩ := check_ok h
  obtain ⟨hM, h1, h6, hc1, hc10⟩ := okM_ok hok
  unfold solveV
  rw [if_pos h]
  exact solve_same ((hM.cols l).addY (y := y) (by rw [colsF_len]; omega) (Y := 1000000) (by omega) (mil_bnd6 hmil))

set_option maxHeartbeats 1000000 in
theorem r3Solve_c (w : World) (a a2 a3 : Option Addr) (n cap n2 cap2 n3 cap3 : Nat) (M : Mask) (l y : List Int) (hn : M.length = n) (hn2 : l.length = n2) (hn3 : y.length = n3) (hm : n ≤ maxLen) (hm2 : n2 ≤ maxLen) (hm3 : n3 ≤ maxLen) (H : RowsAt w a M) (H2 : IntsAt w a2 l) (H3 : IntsAt w a3 y) :
    Calls Try.prog 40 #[.slice a n cap, .slice a2 n2 cap2, .slice a3 n3 cap3] w fun e w' => ∃ v base, e = .returned (.tuple #[v, .int .i64 (solveV M l y).2]) ∧ w.heap.size ≤ base ∧ RatsO w' base v (solveV M l y).1 ∧ Below w.heap.size w w' := by
  have HV := hid (r2Valid_c w a n cap M hn hm H)
  have hv : checkE M y l ≠ 0 → solveV M l y = ([], checkE M y l) := fun h => by unfold solveV; rw [if_neg h]
  cases hok : okM M
  · rw [hok] at HV
    have he : checkE M y l = 1 := by unfold checkE; rw [hok]; rfl
    rw [hv (by rw [he]; decide), he]
    clear hn hn2 hn3 H H2 H3 hok he hv
    go_enter Try.func40, Try.ntmps40
    go_wp2_with (go_at_call 64; refine HV.out.mono ?_; rintro e w1 ⟨rfl, rfl⟩)
    go_ret2
    exact ⟨.slice none 0 0, w.heap.size, rfl, Nat.le_refl _, RatsO.nil _ _, Below.refl _ _⟩
  · rw [hok] at HV
    by_cases hl : n3 = n
    · subst hl
      have hdl : ((n3 : Int) != (n3 : Int)) = false := by simp
      have HRD := hid (fun (X : World) (hX : Below w.heap.size w X) => r3reading_c X a3 n3 cap n3 cap3 M y a hn hn3 hm (H3.below hX))
      have HNM := hid (r3Named_c w a a2 n3 cap n2 cap2 M l hn hn2 hm2 H H2 hok)
      have hre : readE M y = if milB y = true then 0 else 7 := by unfold readE; rw [if_pos (by omega)]
      have hce : checkE M y l = if milB y = true then pixE M l else 7 := by unfold checkE; rw [if_pos hok, if_pos (by omega)]
      have hpx : pixE M l = namedE (colsM M) l := by unfold pixE; rw [if_pos hok]
      rw [hre] at HRD
      cases hmil : milB y
      · rw [hmil] at hce HRD
        simp only [Bool.false_eq_true, if_false] at hce HRD
        rw [hv (by rw [hce]; decide), hce]
        have HRD2 := hid (HRD.out w (Below.refl _ _))
        clear hn hn2 hn3 H H2 H3 hok hce hv hmil hre hpx HNM HRD
        go_enter Try.func40, Try.ntmps40
        go_wp2_with (go_at_call 64; refine HV.out.mono ?_; rintro e w1 ⟨rfl, rfl⟩; refine Stop.of ?_)
        refine Stop.go ?_
        go_wp2_with (go_at_call 93; refine HRD2.out.mono ?_; rintro e w1 ⟨rfl, rfl⟩)
        go_ret2
        exact ⟨.slice none 0 0, w.heap.size, rfl, Nat.le_refl _, RatsO.nil _ _, Below.refl _ _⟩
      · rw [hmil] at hce HRD
        simp only [if_true] at hce HRD
        have HRD2 := hid (HRD.out w (Below.refl _ _))
        rw [← hpx] at HNM
        by_cases hp : pixE M l = 0
        · have hc0 : checkE M y l = 0 := by rw [hce, hp]
          rw [solve_eq hc0]
          rw [hp] at HNM
          have HSO := hid (fun (X : World) (hX : Below w.heap.size w X) => r3solved_c X a a2 a3 n3 cap n2 cap2 cap3 M l y hn hn2 hn3 (H.below hX) (H2.below hX) (H3.below hX) hok hmil (pix_ok hp).2)
          have hsr : solveR (withY (colsF M l) y) l.length = if (solvedR (withY (colsF M l) y) n2).2.2 = false then ([], 8) else if 0 < (solvedR (withY (colsF M l) y) n2).2.1 then ([], 11) else ((solvedR (withY (colsF M l) y) n2).1, 0) := by rw [hn2]; rfl
          rw [hsr]
          obtain ⟨⟨S1, S2, S3⟩, hS⟩ : ∃ S, S = solvedR (withY (colsF M l) y) n2 := ⟨_, rfl⟩
          rw [← hS] at HSO ⊢
          simp only [] at HSO ⊢
          obtain ⟨⟨RL, RE⟩, hR⟩ : ∃ R : List Rt × Int, R = if S3 = false then ([], 8) else if 0 < S2 then ([], 11) else (S1, 0) := ⟨_, rfl⟩
          rw [← hR]
          simp only []
          have HRR := hid hR
          clear hR
          clear hn hn2 hn3 H H2 H3 hok hce hv hmil hre hpx HRD hc0 hsr hS hp
          go_enter Try.func40, Try.ntmps40
          go_wp2_with (go_at_call 64; refine HV.out.mono ?_; rintro e w1 ⟨rfl, rfl⟩; refine Stop.of ?_)
          refine Stop.go ?_
          go_wp2_with (go_at_call 93; refine HRD2.out.mono ?_; rintro e w1 ⟨rfl, rfl⟩; refine Stop.of ?_)
          refine Stop.go ?_
          go_wp2_with (go_at_call 88; refine HNM.out.mono ?_; rintro e w2 ⟨rfl, k2, rfl⟩; refine Stop.of ?_)
          refine Stop.go ?_
          have hb2 := below_drewN (Below.refl w.heap.size w) k2
          go_wp2_with (go_at_call 94; refine (HSO.out _ hb2).mono ?_; rintro e w3 ⟨v, base, rfl, hbs, hO, hb3⟩; refine Stop.of ?_)
          refine Stop.go ?_
          have hb := chain hb2 hb3
          have hbs' : w.heap.size ≤ base := Nat.le_trans hb2.size hbs
          obtain ⟨va, vc, rfl⟩ := ownsRow_slice hO
          have HO := hid hO
          clear hb2 hb3 hbs hO
          cases S3
          · obtain ⟨rfl, rfl⟩ := Prod.mk.inj (HRR.out.trans (if_pos rfl))
            go_wp2
            go_ret2
            exact ⟨.slice none 0 0, rfl, w.heap.size, Nat.le_refl _, RatsO.nil _ _, hb⟩
          · by_cases h0 : 0 < S2
            · obtain ⟨rfl, rfl⟩ := Prod.mk.inj (HRR.out.trans ((if_neg (by decide)).trans (if_pos h0)))
              go_wp2
              go_ret2
              first | exact ⟨.slice none 0 0, rfl, w.heap.size, Nat.le_refl _, RatsO.nil _ _, hb⟩ | exact ⟨.slice none 0 0, w.heap.size, rfl, Nat.le_refl _, RatsO.nil _ _, hb⟩
            · obtain ⟨rfl, rfl⟩ := Prod.mk.inj (HRR.out.trans ((if_neg (by decide)).trans (if_neg h0)))
              go_wp2
              go_ret2
              first | exact ⟨_, rfl, base, hbs', HO.out, hb⟩ | exact ⟨_, base, rfl, hbs', HO.out, hb⟩
        · have hc0 : checkE M y l ≠ 0 := by rw [hce]; exact hp
          rw [hv hc0, hce]
          obtain ⟨E, hE⟩ : ∃ E, E = pixE M l := ⟨_, rfl⟩
          rw [← hE] at HNM hp ⊢
          have hpb : (E != 0) = true := by simpa using hp
          clear hn hn2 hn3 H H2 H3 hok hce hv hmil hre hpx HRD hc0 hE
          go_enter Try.func40, Try.ntmps40
          go_wp2_with (go_at_call 64; refine HV.out.mono ?_; rintro e w1 ⟨rfl, rfl⟩; refine Stop.of ?_)
          refine Stop.go ?_
          go_wp2_with (go_at_call 93; refine HRD2.out.mono ?_; rintro e w1 ⟨rfl, rfl⟩; refine Stop.of ?_)
          refine Stop.go ?_
          go_wp2_with (go_at_call 88; refine HNM.out.mono ?_; rintro e w2 ⟨rfl, k2, rfl⟩)
          go_ret2
          exact ⟨.slice none 0 0, w.heap.size, rfl, Nat.le_refl _, RatsO.nil _ _, below_drewN (Below.refl _ _) _⟩
    · have hdl : ((n3 : Int) != (n : Int)) = true := by simp; omega
      have he : checkE M y l = 9 := by unfold checkE; rw [if_pos hok, if_neg (by omega)]
      rw [hv (by rw [he]; decide), he]
      clear hn hn2 hn3 H H2 H3 hok he hv hl
      go_enter Try.func40, Try.ntmps40
      go_wp2_with (go_at_call 64; refine HV.out.mono ?_; rintro e w1 ⟨rfl, rfl⟩)
      go_ret2
      exact ⟨.slice none 0 0, w.heap.size, rfl, Nat.le_refl _, RatsO.nil _ _, Below.refl _ _⟩

theorem sameRatios_c (w : World) (a a2 : Option Addr) (n cap n2 cap2 : Nat) (l l2 : List Rt) (hn : l.length = n) (hn2 : l2.length = n2) (hm : n ≤ maxLen) (hm2 : n2 ≤ maxLen) (H : RatsAt w a l) (H2 : RatsAt w a2 l2) :
    Calls Try.prog 41 #[.slice a n cap, .slice a2 n2 cap2] w fun e w' => e = .returned (.bool (decide (l = l2))) ∧ ∃ k, w' = w.drewN k := by
  have HN := hid hn
  have HN2 := hid hn2
  have HH := hid H
  have HH2 := hid H2
  clear hn hn2 H H2
  unfold maxLen at hm hm2
  by_cases hl : n = n2
  · have hd : ((n : Int) != (n2 : Int)) = false := by simp [hl]
    have HL := hid hl
    clear hl
    go_enter Try.func41, Try.ntmps41
    go_wp2
    go_loopw [13] (fun i wr => ∃ k : Nat, k ≤ n ∧ i = .int .i64 k ∧ (∃ q, wr = w.drewN q) ∧ ∀ j (hj : j < l.length) (hj2 : j < l2.length), j < k → l[j] = l2[j]) (fun i _ => n - (intOf i).toNat)
    case atStart => exact ⟨0, Nat.zero_le _, rfl, ⟨0, rfl⟩, fun i _ _ h => by omega⟩
    case round =>
      obtain ⟨k, hk, rfl, ⟨q, rfl⟩, hno⟩ := hrel
      have HNO := hid hno
      clear hno
      by_cases hlt : k < n
      · have hkl : k < l.length := by rw [HN.out]; exact hlt
        have hkl2 : k < l2.length := by rw [HN2.out, ← HL.out]; exact hlt
        obtain ⟨b, off, rfl, hbs, hc0, hc1⟩ := HH.out k hkl
        obtain ⟨b2, off2, rfl, hbs2, hd0, hd1⟩ := HH2.out k hkl2
        have hlt2 : k < n2 := by have := HL.out; omega
        have HKL := hid hkl
        have HKL2 := hid hkl2
        by_cases he : l[k] = l2[k]
        · have HE := hid he
          obtain ⟨x, hx⟩ : ∃ x, x = l[k]'hkl := ⟨_, rfl⟩
          obtain ⟨y, hy⟩ : ∃ y, y = l2[k]'hkl2 := ⟨_, rfl⟩
          have hxy : x = y := hx.trans (he.trans hy.symm)
          rw [← hx] at hc0 hc1
          rw [← hy] at hd0 hd1
          rw [← hxy] at hd0 hd1
          clear he hx hy hxy
          obtain ⟨x1, x2⟩ := x
          simp only [] at hc0 hc1 hd0 hd1
          go_wp2
          go_quiet (fail)
          go_wp2
          refine ⟨⟨k + 1, by omega, by go_num, ⟨_, rfl⟩, fun j hj hj2 hjk => ?_⟩, by simp [intOf]; omega⟩
          by_cases e : j = k
          · subst e; exact HE.out
          · exact HNO.out j hj hj2 (by omega)
        · have HE := hid he
          obtain ⟨x, hx⟩ : ∃ x, x = l[k]'hkl := ⟨_, rfl⟩
          obtain ⟨y, hy⟩ : ∃ y, y = l2[k]'hkl2 := ⟨_, rfl⟩
          have hxy : x ≠ y := fun e => he (hx.symm.trans (e.trans hy))
          rw [← hx] at hc0 hc1
          rw [← hy] at hd0 hd1
          clear he hx hy
          obtain ⟨x1, x2⟩ := x
          obtain ⟨y1, y2⟩ := y
          simp only [] at hc0 hc1 hd0 hd1
          have hcase : ((x1 == y1) = false) ∨ (x1 = y1 ∧ (x2 == y2) = false) := by
            by_cases e1 : x1 = y1
            · by_cases e2 : x2 = y2
              · exact absurd (by rw [e1, e2]) hxy
              · exact .inr ⟨e1, by simpa using e2⟩
            · exact .inl (by simpa using e1)
          clear hxy
          rcases hcase with h | ⟨rfl, h⟩
          all_goals
            go_wp2
            go_quiet (fail)
            go_wp2
            go_ret
            refine ⟨ret_bool ?_, q + nq, drewN_add _ _ _⟩
            symm
            rw [decide_eq_false_iff_not]
            rintro rfl
            exact HE.out rfl
      · go_wp2
        go_ret
        refine ⟨ret_bool ?_, _, rfl⟩
        symm
        rw [decide_eq_true_iff]
        have h1 := HN.out
        have h2 := HN2.out
        have h3 := HL.out
        exact List.ext_getElem (by omega) fun i g1 g2 => HNO.out i g1 g2 (by omega)
  · have hd : ((n : Int) != (n2 : Int)) = true := by simp; omega
    have HL := hid hl
    clear hl
    go_enter Try.func41, Try.ntmps41
    go_wp2
    go_ret
    refine ⟨ret_bool ?_, 0, rfl⟩
    symm
    rw [decide_eq_false_iff_not]
    rintro rfl
    exact HL.out (HN.out.symm.trans HN2.out)
end
end Go.Proofs.Ytfipebkhomppmaa
