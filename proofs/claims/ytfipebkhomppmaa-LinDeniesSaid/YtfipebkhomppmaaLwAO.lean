/- Walks: Back (of mask and of reference 02), Read and Shown of reference 02, Weighs of both. · Walks: listed, Back (mask), listed, Shown, Read, Back (reference 02). · Walks of reference 02: listed, Shown, Read, Back. · Walks: back, Weighs (package lin), Weighs of the reference. · Walks: Weighs of the reference; plain: what a weight tells. -/
import Derived.Test.YtfipebkhomppmaaLwBA
namespace Go.Proofs.Ytfipebkhomppmaa
section
open Go.RowKit
set_option linter.unusedVariables false

/-- a column -/
def colV (M : List (List Int)) (j : Nat) : List Int := M.map (fun r => vec r j)
theorem colV_take {M : List (List Int)} {k : Nat} (hk : k < M.length) (j : Nat) : (colV M j).take (k + 1) = (colV M j).take k ++ [vec M[k] j] := by
  have hc : k < (colV M j).length := by simp [colV]; exact hk
  rw [List.take_succ_eq_append_getElem hc]
  simp [colV]
theorem colV_len (M : List (List Int)) (j : Nat) : (colV M j).length = M.length := by simp [colV]
theorem colV_bnd {M : Mask} {W : Nat} (h : MaskOk M W) (j : Nat) : BndL 67108864 (colV M j) := fun x hx => by
  obtain ⟨r, hr, rfl⟩ := List.mem_map.1 hx
  have := h.one r hr j
  omega
def backF (M : Mask) (W : Nat) (z : List Int) : List Int := (List.range W).map (fun j => dotV (colV M j) z)
theorem backF_len (M : Mask) (W : Nat) (z : List Int) : (backF M W z).length = W := by simp [backF]
theorem backF_take (M : Mask) {W : Nat} (z : List Int) {k : Nat} (hk : k < W) : (backF M W z).take (k + 1) = (backF M W z).take k ++ [dotV (colV M k) z] := by
  have hc : k < (backF M W z).length := by rw [backF_len]; exact hk
  rw [List.take_succ_eq_append_getElem hc]
  simp [backF]
def readV (M : Mask) (x : List Int) : List Int := M.map (fun r => dotV r x)
theorem readV_take {M : Mask} {k : Nat} (hk : k < M.length) (x : List Int) : (readV M x).take (k + 1) = (readV M x).take k ++ [dotV M[k] x] := by
  have hc : k < (readV M x).length := by simp [readV]; exact hk
  rw [List.take_succ_eq_append_getElem hc]
  simp [readV]

theorem mtimes_c (w : World) (a a2 : Option Addr) (n cap n2 cap2 : Nat) (r h : List Int) (hn : r.length = n) (hn2 : h.length = n2) (hm : n ≤ 1000) (hle : n ≤ n2) (H : IntsAt w a r) (H2 : IntsAt w a2 h) (hr : BndL 67108864 r) (hh : BndL 67108864 h) :
    Calls Try.prog 160 #[.slice a n cap, .slice a2 n2 cap2] w fun e w' => e = .returned (.int .i64 (dotV r h)) ∧ w = w' := by
  have HN := hid hn
  have HN2 := hid hn2
  have HH := hid H
  have HH2 := hid H2
  have HDL := hid (dot_le hr hh)
  have HR := hid hr
  have HHB := hid hh
  have HD := hid (show dotV r h = sm (fun c => vec r c * vec h c) n by unfold dotV; rw [hn])
  clear hn hn2 H H2 hr hh
  go_enter Try.func160, Try.ntmps160
  go_wp2
  go_loop [5, 10] (fun s i => ∃ k : Nat, k ≤ n ∧ i = .int .i64 k ∧ s = .int .i64 (sm (fun c => vec r c * vec h c) k)) (fun _ i => n - (intOf i).toNat)
  case atStart => exact ⟨0, Nat.zero_le _, rfl, rfl⟩
  case round =>
    obtain ⟨k, hk, rfl, rfl⟩ := hrel
    by_cases hlt : k < n
    · have hkl : k < r.length := by rw [HN.out]; exact hlt
      have hkl2 : k < h.length := by rw [HN2.out]; omega
      obtain ⟨b, off, rfl, hbs, hc⟩ := HH.out k hkl
      obtain ⟨b2, off2, rfl, hbs2, hc2⟩ := HH2.out k hkl2
      have g1 := HR.out.get hkl
      have g2 := HHB.out.get hkl2
      have e1 := HDL.out k
      have e2 := HDL.out (k + 1)
      have es : sm (fun c => vec r c * vec h c) (k + 1) = sm (fun c => vec r c * vec h c) k + r[k]?.getD 0 * h[k]?.getD 0 := rfl
      obtain ⟨x, hx⟩ : ∃ x, x = r[k]?.getD 0 := ⟨_, rfl⟩
      obtain ⟨y, hy⟩ : ∃ x, x = h[k]?.getD 0 := ⟨_, rfl⟩
      rw [← hx] at hc g1 es
      rw [← hy] at hc2 g2 es
      obtain ⟨s0, hs0⟩ : ∃ x, x = sm (fun c => vec r c * vec h c) k := ⟨_, rfl⟩
      rw [← hs0] at es e1 ⊢
      rw [es] at e2
      have e3 := mul_bnd (show -(67108864 : Int) ≤ x ∧ x ≤ 67108864 by omega) (show -(67108864 : Int) ≤ y ∧ y ≤ 67108864 by omega)
      obtain ⟨m, hmm⟩ : ∃ m, m = x * y := ⟨_, rfl⟩
      rw [← hmm] at es e2 e3
      have w1 : IntKind.i64.wrap (x * y) = m := by rw [← hmm]; exact IntWalk.i64_in _ (by omega)
      have w2 : IntKind.i64.wrap (s0 + m) = s0 + m := IntWalk.i64_in _ (by omega)
      have HES := hid es
      have i1 : (0 : Int) ≤ (k : Int) := by omega
      have i2 : (k : Int) < (n : Int) := by omega
      have i3 : (k : Int) < (n2 : Int) := by omega
      clear hx hy hs0 hmm es e1 e2 e3 g1 g2 hkl hkl2
      go_wp2
      go_round
      case rel => exact ⟨k + 1, by omega, by go_num, by rw [HES.out]⟩
      case measure => simp [intOf]; omega
    · obtain rfl : n = k := by omega
      go_wp2
      go_ret
      exact ⟨ret_int HD.out.symm, rfl⟩

theorem mcolumn_c (w : World) (a : Option Addr) (n cap : Nat) (M : Mask) (hn : M.length = n) (hm : n ≤ 1000) (H : RowsAt w a M) {W : Nat} (hw : ∀ r ∈ M, r.length = W) (j : Nat) (hj : j < W) :
    Calls Try.prog 161 #[.slice a n cap, .int .i64 j] w fun e w' => ∃ v, e = .returned v ∧ w'.ownsRow w.heap.size 3 1 v n ((colV M j).map (Value.int .i64)) ∧ Below w.heap.size w w' := by
  have HN := hid hn
  have HH := hid H
  have HW := hid hw
  have HCT := hid (fun (k : Nat) (hk : k < M.length) => colV_take hk j)
  have HCL := hid (colV_len M j)
  obtain ⟨C, hC⟩ : ∃ C, C = colV M j := ⟨_, rfl⟩
  rw [← hC] at HCT HCL ⊢
  clear hn H hw hC
  go_enter Try.func161, Try.ntmps161
  go_wp2
  go_loopw [5, 10] (fun v i wr => ∃ k : Nat, k ≤ n ∧ i = .int .i64 k ∧ wr.ownsRow w.heap.size 3 1 v k ((C.take k).map (Value.int .i64)) ∧ Below w.heap.size w wr) (fun _ i _ => n - (intOf i).toNat)
  case atStart => exact ⟨0, Nat.zero_le _, rfl, World.ownsRow_nil _ _ _ _, Below.refl _ _⟩
  case round =>
    obtain ⟨k, hk, rfl, ho, hbk⟩ := hrel
    by_cases hlt : k < n
    · have hkM : k < M.length := by rw [HN.out]; exact hlt
      obtain ⟨b, off, ra, rn, rc, rfl, hbs, hq0, hrn, hrm, hri⟩ := (HH.out.below hbk) k hkM
      have htk := HCT.out k hkM
      have hwd := HW.out M[k] (List.getElem_mem hkM)
      obtain rfl : rn = W := by omega
      obtain ⟨b2, off2, rfl, hbs2, hc2⟩ := hri j (by omega)
      have hxv : M[k][j]?.getD 0 = vec M[k] j := rfl
      rw [hxv] at hc2
      obtain ⟨x, hx⟩ : ∃ x, x = vec M[k] j := ⟨_, rfl⟩
      rw [← hx] at hc2 htk
      obtain ⟨la, lc, rfl⟩ := ownsRow_slice ho
      have HTK := hid htk
      have HO := hid ho
      have M1 := hid (show k + 1 ≤ maxLen by unfold maxLen; omega)
      have M2 := hid (show (k + 1) * 8 ≤ 140737488355328 by omega)
      have M3 := hid (Nat.le_trans hbk.size (le_alloc wr (.cells #[.int .i64 x] 3)))
      have HBK := hid hbk
      have hji : (j : Int) < (rn : Int) := by omega
      have hji0 : (0 : Int) ≤ (j : Int) := by omega
      clear htk hx hxv hwd hrn hrm hri ho hbk hkM hbs2
      go_wp2_with (at_builtin; refine wpList_app _ rfl (.tmp 14) (.tmp 19) 31 rfl w.heap.size 3 (.int .i64 0) 1 8 Try.underlying31 li_int rfl Nat.one_pos (.slice la k lc) k _ rfl (HO.out.alloc _) (some ⟨wr.heap.size, 0, none⟩) 1 1 [.int .i64 x] rfl rfl no_none (one_news wr _ _) (li_one _) M1.out M2.out M3.out ?_; refine Stop.of ?_)
      refine Stop.go ?_
      intro a3 c3 w3 own3 g3
      have hB3 : Below w.heap.size w w3 := (HBK.out.alloc HBK.out.size _).grown g3 M3.out (fun k hk => (HO.out.lt k hk).1)
      go_wp2
      refine ⟨⟨k + 1, by omega, by go_num, ?_, hB3⟩, by simp [intOf]; omega⟩
      rw [HTK.out]
      simpa using own3
    · obtain rfl : n = k := by omega
      rw [List.take_of_length_le (by rw [HCL.out, HN.out]; exact Nat.le_refl _)] at ho
      go_wp2
      go_ret
      exact ⟨_, rfl, ho, hbk⟩

theorem r2column_c (w : World) (a : Option Addr) (n cap : Nat) (M : Mask) (hn : M.length = n) (hm : n ≤ 1000) (H : RowsAt w a M) {W : Nat} (hw : ∀ r ∈ M, r.length = W) (j : Nat) (hj : j < W) :
    Calls Try.prog 98 #[.slice a n cap, .int .i64 j] w fun e w' => ∃ v, e = .returned v ∧ w'.ownsRow w.heap.size 3 1 v n ((colV M j).map (Value.int .i64)) ∧ Below w.heap.size w w' := by
  have HN := hid hn
  have HH := hid H
  have HW := hid hw
  have HCT := hid (fun (k : Nat) (hk : k < M.length) => colV_take hk j)
  have HCL := hid (colV_len M j)
  obtain ⟨C, hC⟩ : ∃ C, C = colV M j := ⟨_, rfl⟩
  rw [← hC] at HCT HCL ⊢
  clear hn H hw hC
  go_enter Try.func98, Try.ntmps98
  go_wp2
  go_loopw [5, 10] (fun v i wr => ∃ k : Nat, k ≤ n ∧ i = .int .i64 k ∧ wr.ownsRow w.heap.size 3 1 v k ((C.take k).map (Value.int .i64)) ∧ Below w.heap.size w wr) (fun _ i _ => n - (intOf i).toNat)
  case atStart => exact ⟨0, Nat.zero_le _, rfl, World.ownsRow_nil _ _ _ _, Below.refl _ _⟩
  case round =>
    obtain ⟨k, hk, rfl, ho, hbk⟩ := hrel
    by_cases hlt : k < n
    · have hkM : k < M.length := by rw [HN.out]; exact hlt
      obtain ⟨b, off, ra, rn, rc, rfl, hbs, hq0, hrn, hrm, hri⟩ := (HH.out.below hbk) k hkM
      have htk := HCT.out k hkM
      have hwd := HW.out M[k] (List.getElem_mem hkM)
      obtain rfl : rn = W := by omega
      obtain ⟨b2, off2, rfl, hbs2, hc2⟩ := hri j (by omega)
      have hxv : M[k][j]?.getD 0 = vec M[k] j := rfl
      rw [hxv] at hc2
      obtain ⟨x, hx⟩ : ∃ x, x = vec M[k] j := ⟨_, rfl⟩
      rw [← hx] at hc2 htk
      obtain ⟨la, lc, rfl⟩ := ownsRow_slice ho
      have HTK := hid htk
      have HO := hid ho
      have M1 := hid (show k + 1 ≤ maxLen by unfold maxLen; omega)
      have M2 := hid (show (k + 1) * 8 ≤ 140737488355328 by omega)
      have M3 := hid (Nat.le_trans hbk.size (le_alloc wr (.cells #[.int .i64 x] 3)))
      have HBK := hid hbk
      have hji : (j : Int) < (rn : Int) := by omega
      have hji0 : (0 : Int) ≤ (j : Int) := by omega
      clear htk hx hxv hwd hrn hrm hri ho hbk hkM hbs2
      go_wp2_with (at_builtin; refine wpList_app _ rfl (.tmp 14) (.tmp 19) 31 rfl w.heap.size 3 (.int .i64 0) 1 8 Try.underlying31 li_int rfl Nat.one_pos (.slice la k lc) k _ rfl (HO.out.alloc _) (some ⟨wr.heap.size, 0, none⟩) 1 1 [.int .i64 x] rfl rfl no_none (one_news wr _ _) (li_one _) M1.out M2.out M3.out ?_; refine Stop.of ?_)
      refine Stop.go ?_
      intro a3 c3 w3 own3 g3
      have hB3 : Below w.heap.size w w3 := (HBK.out.alloc HBK.out.size _).grown g3 M3.out (fun k hk => (HO.out.lt k hk).1)
      go_wp2
      refine ⟨⟨k + 1, by omega, by go_num, ?_, hB3⟩, by simp [intOf]; omega⟩
      rw [HTK.out]
      simpa using own3
    · obtain rfl : n = k := by omega
      rw [List.take_of_length_le (by rw [HCL.out, HN.out]; exact Nat.le_refl _)] at ho
      go_wp2
      go_ret
      exact ⟨_, rfl, ho, hbk⟩
end

section
open Go.RowKit
set_option linter.unusedVariables false

theorem mlisted1 (w : World) (b : Nat) (hb : b < w.heap.size) (hc : w.cell? ⟨b, 0, none⟩ = some (.int .i64 1000000000)) : PredI Try.prog 171 #[.pointer (some ⟨b, 0, none⟩)] w (fun n => inB n (-1000000000) 1000000000) := by
  intro x W hbw
  have hc' : W.cell? ⟨b, 0, none⟩ = some (.int .i64 1000000000) := (hbw.cell (p := ⟨b, 0, none⟩) hb).trans hc
  go_enter Try.func171, Try.ntmps171
  go_wp2_with (go_at_call 123; refine (mwithin_c _ _ _ _).mono ?_; rintro e w1 ⟨rfl, rfl⟩)
  go_ret
  exact ⟨rfl, Below.refl _ _⟩
def bilB (l : List Int) : Bool := l.all (fun n => inB n (-1000000000) 1000000000)
theorem mil_bil {l : List Int} (h : milB l = true) : bilB l = true := List.all_eq_true.2 fun x hx => by
  have := mil_le h x hx
  unfold inB
  simp only [Bool.and_eq_true, decide_eq_true_eq]
  omega
theorem mlisted_c (w : World) (a : Option Addr) (n cap : Nat) (M : Mask) (hn : M.length = n) (hm : n ≤ maxLen) (H : RowsAt w a M) (a2 : Option Addr) (n2 cap2 : Nat) (x : List Int) (hn2 : x.length = n2) (hm2 : n2 ≤ maxLen) (H2 : IntsAt w a2 x)
    (hok : okM M = true) (hx : bilB x = true) (g : Nat) (lb : Array Value) (eg : ∀ args w, (callFunc g args).run Try.prog w = .ok (.enter g args) w) (hg : ∀ W, Below w.heap.size w W → Calls Try.prog g lb W fun e W' => e = .returned (.int .i64 n2) ∧ W = W') :
    Calls Try.prog 158 #[.slice a n cap, .slice a2 n2 cap2, .func (.func g) #[] lb, .int .i64 1000000000] w fun e w' => e = .returned (.int .i64 0) ∧ Below w.heap.size w w' := by
  have hb0 : Below w.heap.size w (w.alloc (.cells #[.int .i64 1000000000] 3)) := (Below.refl _ _).alloc (Nat.le_refl _) _
  have hmf : ∀ (fn : Fn) (first cap : Array Value) (w : World), (Instr.makeFunc fn first cap).run Try.prog w = .ok (.func fn first cap) w := fun _ _ _ _ => rfl
  have HV := hid (maskValid_c (w.alloc (.cells #[.int .i64 1000000000] 3)) a n cap M hn hm (H.below hb0))
  have HA := hid (fun (W : World) (hb : Below w.heap.size w W) (hs : w.heap.size < W.heap.size) (hc : W.cell? ⟨w.heap.size, 0, none⟩ = some (.int .i64 1000000000)) => allI_c W a2 n2 cap2 x hn2 hm2 (H2.below hb) 171 #[.pointer (some ⟨w.heap.size, 0, none⟩)] _ (enters_of Try.func171 (by kernel_rfl) rfl) (mlisted1 W w.heap.size hs hc))
  have hcell : ∀ W, Below (w.alloc (.cells #[.int .i64 1000000000] 3)).heap.size (w.alloc (.cells #[.int .i64 1000000000] 3)) W → w.heap.size < W.heap.size ∧ W.cell? ⟨w.heap.size, 0, none⟩ = some (.int .i64 1000000000) := fun W hb => by
    have h1 := hb.size
    simp at h1
    refine ⟨by omega, (hb.cell (p := ⟨w.heap.size, 0, none⟩) (by simp)).trans ?_⟩
    rw [World.cell?_alloc_at _ _ _ _ rfl]; rfl
  have HC := hid hcell
  have HG2 := hid hg
  have HB := hid hb0
  have hd : ((n2 : Int) != (n2 : Int)) = false := by simp
  rw [hok] at HV
  have hx' : x.all (fun n => inB n (-1000000000) 1000000000) = true := hx
  rw [hx'] at HA
  clear hn H H2 hcell hg hn2 hb0 hok hx hx'
  go_enter Try.func158, Try.ntmps158
  go_wp2_with (first | (go_at_call 69; refine HV.out.mono ?_; rintro e w1 ⟨rfl, hb1⟩) | (go_at_call 151; refine (HA.out _ (chain HB.out hb1) (HC.out _ hb1).1 (HC.out _ hb1).2).mono ?_; rintro e w2 ⟨rfl, hb2⟩) | (refine (HG2.out _ (chain HB.out hb1)).mono ?_; rintro e w3 ⟨rfl, rfl⟩))
  go_ret
  exact ⟨rfl, chain (chain HB.out hb1) hb2⟩

theorem back1 (w : World) (b : Nat) (a : Option Addr) (n cap : Nat) (hb : b < w.heap.size) (hc : w.cell? ⟨b, 0, none⟩ = some (.slice a n cap)) (W : World) (hbw : Below w.heap.size w W) :
    Calls Try.prog 159 #[.pointer (some ⟨b, 0, none⟩)] W fun e W' => e = .returned (.int .i64 n) ∧ W = W' := by
  have hc' : W.cell? ⟨b, 0, none⟩ = some (.slice a n cap) := (hbw.cell (p := ⟨b, 0, none⟩) hb).trans hc
  go_enter Try.func159, Try.ntmps159
  go_wp2
  go_ret
  exact ⟨rfl, rfl⟩

set_option maxHeartbeats 2000000 in
theorem mback_c (w : World) (a a2 : Option Addr) (n cap cap2 : Nat) (M : Mask) (z : List Int) (hn : M.length = n) (hn2 : z.length = n) (H : RowsAt w a M) (H2 : IntsAt w a2 z) (hok : okM M = true) (hz : milB z = true) :
    Calls Try.prog 139 #[.slice a n cap, .slice a2 n cap2] w fun e w' => ∃ v base, e = .returned (.tuple #[v, .int .i64 0]) ∧ w'.ownsRow base 3 1 v (colsM M) ((backF M (colsM M) z).map (Value.int .i64)) ∧ Below w.heap.size w w' := by
  obtain ⟨hM, h1, h6, hc1, hc10⟩ := okM_ok hok
  obtain ⟨b, off, ra, rc, rfl, hb, hc⟩ := rows_head H (by omega)
  have hn6 : n ≤ 6 := by omega
  have hni : (0 : Int) < (n : Int) := by omega
  obtain ⟨w1, hw1⟩ : ∃ w1, w1 = w.alloc (.cells #[.slice (some ⟨b, off, none⟩) n cap] 23) := ⟨_, rfl⟩
  have hb1 : Below w.heap.size w w1 := by rw [hw1]; exact (Below.refl _ _).alloc (Nat.le_refl _) _
  have hs1 : w.heap.size < w1.heap.size := by rw [hw1]; simp
  have hbx : w1.cell? ⟨w.heap.size, 0, none⟩ = some (.slice (some ⟨b, off, none⟩) n cap) := by rw [hw1, World.cell?_alloc_at _ _ _ _ rfl]; rfl
  have HL := hid (mlisted_c w1 (some ⟨b, off, none⟩) n cap M hn (by unfold maxLen; omega) (H.below hb1) a2 n cap2 z hn2 (by unfold maxLen; omega) (H2.below hb1) hok (mil_bil hz) 159 #[.pointer (some ⟨w.heap.size, 0, none⟩)] (enters_of Try.func159 (by kernel_rfl) rfl) (back1 w1 w.heap.size _ n cap hs1 hbx))
  have HBX := hid (fun (X : World) (hX : Below w1.heap.size w1 X) => (hX.cell (p := ⟨w.heap.size, 0, none⟩) hs1).trans hbx)
  obtain ⟨W, hW⟩ : ∃ W, W = colsM M := ⟨_, rfl⟩
  rw [← hW] at hc hc1 hc10 hM ⊢
  have HS := hid (fun (X : World) (hX : Below w1.heap.size w1 X) => show X.cell? ⟨b, off, none⟩ = some (.slice ra W rc) from ((chain hb1 hX).cell (p := ⟨b, off, none⟩) hb).trans hc)
  have HCO := hid (fun (X : World) (hX : Below w1.heap.size w1 X) (j : Nat) (hj : j < W) => mcolumn_c X (some ⟨b, off, none⟩) n cap M hn (by omega) (H.below (chain hb1 hX)) hM.wid j hj)
  have HTI := hid (fun (X : World) (hX : Below w1.heap.size w1 X) (j : Nat) (a5 : Option Addr) (c5 : Nat) (hi : IntsAt X a5 (colV M j)) => mtimes_c X a5 a2 n c5 n cap2 (colV M j) z (by rw [colV_len]; exact hn) hn2 (by omega) (Nat.le_refl _) hi (H2.below (chain hb1 hX)) (colV_bnd hM j) (mil_bnd hz))
  have HCL := hid (fun j => (colV_len M j).trans hn)
  have HTK := hid (fun (k : Nat) (hk : k < W) => backF_take M z hk)
  have HBL := hid (backF_len M W z)
  obtain ⟨Bk, hBk⟩ : ∃ B, B = backF M W z := ⟨_, rfl⟩
  rw [← hBk] at HTK HBL ⊢
  have HB1 := hid hb1
  have HW1 := hid hw1
  rw [hw1] at HL
  clear hn hn2 H H2 hok hz hM hW hBk hc hb1 hw1 h1 h6
  go_enter Try.func139, Try.ntmps139
  go_wp2_with (go_at_call 158; refine HL.out.mono ?_; rintro e w2 ⟨rfl, hb2⟩; refine Stop.of ?_)
  refine Stop.go ?_
  rw [← HW1.out] at hb2
  have hbx2 := HBX.out w2 hb2
  have hc2 := HS.out w2 hb2
  have HB2 := hid hb2
  clear hb2 HL
  go_wp2
  go_loopw [7, 20] (fun v i wr => ∃ k : Nat, k ≤ W ∧ i = .int .i64 k ∧ wr.ownsRow w2.heap.size 3 1 v k ((Bk.take k).map (Value.int .i64)) ∧ Below w2.heap.size w2 wr) (fun _ i _ => W - (intOf i).toNat)
  case atStart => exact ⟨0, Nat.zero_le _, rfl, World.ownsRow_nil _ _ _ _, Below.refl _ _⟩
  case round =>
    obtain ⟨k, hk, rfl, ho, hbk⟩ := hrel
    by_cases hlt : k < W
    · have htk := HTK.out k hlt
      have hbx3 := HBX.out wr (chain HB2.out hbk)
      have HC1 := hid (HCO.out wr (chain HB2.out hbk) k hlt)
      obtain ⟨la, lc, rfl⟩ := ownsRow_slice ho
      have HO := hid ho
      have HBK := hid hbk
      have HTKK := hid htk
      clear ho hbk htk
      go_wp2_with (go_at_call 161; refine HC1.out.mono ?_; rintro e w3 ⟨v3, rfl, ho3, hb3⟩; refine Stop.of ?_)
      refine Stop.go ?_
      obtain ⟨ca, cc, rfl, hci, _⟩ := ints_of_own ho3 (HCL.out k)
      have HT1 := hid (HTI.out w3 (chain HB2.out (chain HBK.out hb3)) k ca cc hci)
      have HB3 := hid (chain HBK.out hb3)
      have HO3 := hid (own_below HO.out hb3)
      obtain ⟨x, hx⟩ : ∃ x, x = dotV (colV M k) z := ⟨_, rfl⟩
      rw [← hx] at HT1 HTKK
      have M1 := hid (show k + 1 ≤ maxLen by unfold maxLen; omega)
      have M2 := hid (show (k + 1) * 8 ≤ 140737488355328 by omega)
      have M3 := hid (Nat.le_trans HB3.out.size (le_alloc w3 (.cells #[.int .i64 x] 3)))
      clear ho3 hci hb3 hx HC1
      go_wp2_with (go_at_call 160; refine HT1.out.mono ?_; rintro e w4 ⟨rfl, rfl⟩; refine Stop.of ?_)
      refine Stop.go ?_
      go_wp2_with (at_builtin; refine wpList_app _ rfl (.tmp 23) (.tmp 29) 31 rfl w2.heap.size 3 (.int .i64 0) 1 8 Try.underlying31 li_int rfl Nat.one_pos (.slice la k lc) k _ rfl (HO3.out.alloc _) (some ⟨w3.heap.size, 0, none⟩) 1 1 [.int .i64 x] rfl rfl no_none (one_news w3 _ _) (li_one _) M1.out M2.out M3.out ?_; refine Stop.of ?_)
      refine Stop.go ?_
      intro a5 c5 w5 own5 g5
      have hB5 : Below w2.heap.size w2 w5 := (HB3.out.alloc HB3.out.size _).grown g5 M3.out (fun k hk => (HO3.out.lt k hk).1)
      go_wp2
      refine ⟨⟨k + 1, by omega, by go_num, ?_, hB5⟩, by simp [intOf]; omega⟩
      rw [HTKK.out]
      simpa using own5
    · obtain rfl : W = k := by omega
      rw [List.take_of_length_le (by rw [HBL.out]; exact Nat.le_refl _)] at ho
      have HO := hid ho
      have HB := hid (chain HB1.out (chain HB2.out hbk))
      clear ho hbk
      go_wp2
      go_ret2
      exact ⟨_, w2.heap.size, rfl, HO.out, HB.out⟩
end

section
open Go.RowKit
set_option linter.unusedVariables false

/-- the error of a list of so many numbers up to a bound -/
def listE (l : List Int) (len most : Int) : Int := if (l.length : Int) = len then (if l.all (fun n => inB n (-most) most) = true then 0 else 7) else 9

theorem r2listed_c (w : World) (a : Option Addr) (n cap : Nat) (l : List Int) (hn : l.length = n) (hm : n ≤ maxLen) (H : IntsAt w a l) (len most : Int) (h0 : 0 ≤ most) (h9 : most ≤ 1000000000) :
    Calls Try.prog 97 #[.slice a n cap, .int .i64 len, .int .i64 most] w fun e w' => e = .returned (.int .i64 (listE l len most)) ∧ w = w' := by
  have HN := hid hn
  have HH := hid H
  clear hn H
  unfold maxLen at hm
  by_cases hl : (n : Int) = len
  · have hd : ((n : Int) != len) = false := by simp [hl]
    have HL := hid hl
    clear hl
    go_enter Try.func97, Try.ntmps97
    go_wp2
    go_loop [15] (fun i => ∃ k : Nat, k ≤ n ∧ i = .int .i64 k ∧ ∀ j (hj : j < l.length), j < k → inB l[j] (-most) most = true) (fun i => n - (intOf i).toNat)
    case atStart => exact ⟨0, Nat.zero_le _, rfl, fun i _ h => by omega⟩
    case round =>
      obtain ⟨k, hk, rfl, hno⟩ := hrel
      have HNO := hid hno
      clear hno
      by_cases hlt : k < n
      · have hkl : k < l.length := by rw [HN.out]; exact hlt
        obtain ⟨b, off, rfl, hbs, hc⟩ := HH.out k hkl
        have hg : l[k]?.getD 0 = l[k] := by rw [List.getElem?_eq_getElem hkl]; rfl
        rw [hg] at hc
        obtain ⟨B, hB⟩ : ∃ B, B = inB l[k] (-most) most := ⟨_, rfl⟩
        have HW := hid (fun W => r2within_c l[k] (-most) most W)
        rw [← hB] at HW
        have HBB := hid hB
        have HKL := hid hkl
        clear hg hB
        cases B
        · go_wp2_with (go_at_call 121; refine (HW.out _).mono ?_; rintro e w1 ⟨rfl, rfl⟩)
          go_ret
          refine ⟨ret_int ?_, rfl⟩
          unfold listE
          rw [all_stop HKL.out HBB.out.symm, HN.out, if_pos HL.out]; simp
        · go_wp2_with (go_at_call 121; refine (HW.out _).mono ?_; rintro e w1 ⟨rfl, rfl⟩)
          go_round
          case rel =>
            refine ⟨k + 1, by omega, by go_num, fun j hj hjk => ?_⟩
            by_cases e : j = k
            · subst e; exact HBB.out.symm
            · exact HNO.out j hj (by omega)
          case measure => simp [intOf]; omega
      · go_wp2
        go_ret
        refine ⟨ret_int ?_, rfl⟩
        unfold listE
        rw [HN.out, if_pos HL.out, all_done (fun j hj => HNO.out j hj (by have := HN.out; omega))]; simp
  · have hd : ((n : Int) != len) = true := by simp [hl]
    have HL := hid hl
    clear hl
    go_enter Try.func97, Try.ntmps97
    go_wp2
    go_ret
    exact ⟨ret_int (by unfold listE; rw [HN.out, if_neg HL.out]), rfl⟩


/-- a shown picture -/
def okShown (M : Mask) (x : List Int) : Bool := okM M && (decide (x.length = colsM M) && milB x)
theorem listE_shown {M : Mask} (hM : okM M = true) (x : List Int) : (listE x (colsM M) 1000000 == 0) = okShown M x := by
  unfold listE okShown milB
  rw [hM]
  by_cases h : x.length = colsM M
  · rw [if_pos (by omega), decide_eq_true h]
    cases h2 : x.all (fun n => inB n (-1000000) 1000000) <;> rfl
  · rw [if_neg (by omega), decide_eq_false h]; rfl
theorem listE_ok {l : List Int} {len most : Int} (h1 : (l.length : Int) = len) (h2 : l.all (fun n => inB n (-most) most) = true) : listE l len most = 0 := by
  unfold listE; rw [if_pos h1, if_pos h2]

theorem r2Shown_c (w : World) (a : Option Addr) (n cap : Nat) (M : Mask) (hn : M.length = n) (hm : n ≤ maxLen) (H : RowsAt w a M) (a2 : Option Addr) (n2 cap2 : Nat) (x : List Int) (hn2 : x.length = n2) (hm2 : n2 ≤ maxLen) (H2 : IntsAt w a2 x) :
    Calls Try.prog 44 #[.slice a n cap, .slice a2 n2 cap2] w fun e w' => e = .returned (.bool (okShown M x)) ∧ w = w' := by
  have HV := hid (r2Valid_c w a n cap M hn hm H)
  cases hv : okM M
  · rw [hv] at HV
    have HE := hid hv
    clear hv hn H hn2 H2
    go_enter Try.func44, Try.ntmps44
    go_wp2_with (go_at_call 64; refine HV.out.mono ?_; rintro e w1 ⟨rfl, rfl⟩)
    go_ret
    exact ⟨ret_bool (by unfold okShown; rw [HE.out]; simp), rfl⟩
  · rw [hv] at HV
    obtain ⟨hM, h1, h6, hc1, hc10⟩ := okM_ok hv
    obtain ⟨b, off, ra, rc, rfl, hb, hc⟩ := rows_head H (by omega)
    have HL := hid (r2listed_c w a2 n2 cap2 x hn2 hm2 H2 ((colsM M : Nat) : Int) 1000000 (by omega) (by omega))
    have HS := hid (listE_shown hv x)
    obtain ⟨W, hW⟩ : ∃ W, W = colsM M := ⟨_, rfl⟩
    rw [← hW] at HL HS hc
    obtain ⟨E, hE⟩ : ∃ E, E = listE x W 1000000 := ⟨_, rfl⟩
    rw [← hE] at HL HS
    have hc0 : w.cell? ⟨b, off, none⟩ = some (.slice ra W rc) := hc
    have h0 : (0 : Int) < (n : Int) := by omega
    clear hv hn H hn2 H2 hE hW hM hc h1 h6
    go_enter Try.func44, Try.ntmps44
    go_wp2_with (first | (go_at_call 64; refine HV.out.mono ?_; rintro e w1 ⟨rfl, rfl⟩) | (go_at_call 97; refine HL.out.mono ?_; rintro e w1 ⟨rfl, rfl⟩))
    go_ret
    exact ⟨ret_bool (by rw [← HS.out]), rfl⟩

set_option maxHeartbeats 2000000 in
/-- Read of the reference, of a shown picture -/
theorem r2Read_c (w : World) (a a2 : Option Addr) (n cap n2 cap2 : Nat) (M : Mask) (x : List Int) (hn : M.length = n) (hn2 : x.length = n2) (H : RowsAt w a M) (H2 : IntsAt w a2 x) (hok : okM M = true) (hx2 : x.length = colsM M) (hx : milB x = true) :
    Calls Try.prog 45 #[.slice a n cap, .slice a2 n2 cap2] w fun e w' => ∃ v, e = .returned (.tuple #[v, .int .i64 0]) ∧ w'.ownsRow w.heap.size 3 1 v n ((readV M x).map (Value.int .i64)) ∧ Below w.heap.size w w' := by
  obtain ⟨hM, h1, h6, hc1, hc10⟩ := okM_ok hok
  obtain ⟨b, off, ra, rc, rfl, hb, hc⟩ := rows_head H (by omega)
  have hn6 : n ≤ 6 := by omega
  have hni : (0 : Int) < (n : Int) := by omega
  have HV := hid (r2Valid_c w (some ⟨b, off, none⟩) n cap M hn (by unfold maxLen; omega) H)
  rw [hok] at HV
  have HL := hid (r2listed_c w a2 n2 cap2 x hn2 (by unfold maxLen; omega) H2 ((colsM M : Nat) : Int) 1000000 (by omega) (by omega))
  rw [listE_ok (by omega) hx] at HL
  obtain ⟨W, hW⟩ : ∃ W, W = colsM M := ⟨_, rfl⟩
  rw [← hW] at hc hc1 hc10 hM HL hx2
  have hc0 : w.cell? ⟨b, off, none⟩ = some (.slice ra W rc) := hc
  have hwx : n2 = W := by omega
  subst hwx
  have HRR := hid (fun (X : World) (hX : Below w.heap.size w X) => H.below hX)
  have HDT := hid (fun (X : World) (hX : Below w.heap.size w X) (r : List Int) (hr : r ∈ M) (a5 : Option Addr) (c5 : Nat) (hi : IntsAt X a5 r) => r2dot_c X a5 a2 n2 c5 n2 cap2 r x (hM.wid r hr) hn2 (by omega) (Nat.le_refl _) hi (H2.below hX) (one_bnd hM r hr) (mil_bnd hx))
  have HWID := hid hM.wid
  have HN := hid hn
  have HTK := hid (fun (k : Nat) (hk : k < M.length) => readV_take hk x)
  have HBL := hid (show (readV M x).length = n by simp [readV]; exact hn)
  obtain ⟨Bk, hBk⟩ : ∃ B, B = readV M x := ⟨_, rfl⟩
  rw [← hBk] at HTK HBL ⊢
  clear hn H H2 hok hx hM hW hBk hc h1 h6 hb hx2 hn2
  go_enter Try.func45, Try.ntmps45
  go_wp2_with (first | (go_at_call 64; refine HV.out.mono ?_; rintro e w1 ⟨rfl, rfl⟩) | (go_at_call 97; refine HL.out.mono ?_; rintro e w1 ⟨rfl, rfl⟩))
  go_loopw [7, 24] (fun v i wr => ∃ k : Nat, k ≤ n ∧ i = .int .i64 k ∧ wr.ownsRow w.heap.size 3 1 v k ((Bk.take k).map (Value.int .i64)) ∧ Below w.heap.size w wr) (fun _ i _ => n - (intOf i).toNat)
  case atStart => exact ⟨0, Nat.zero_le _, rfl, World.ownsRow_nil _ _ _ _, Below.refl _ _⟩
  case round =>
    obtain ⟨k, hk, rfl, ho, hbk⟩ := hrel
    by_cases hlt : k < n
    · have hkM : k < M.length := by rw [HN.out]; exact hlt
      have htk := HTK.out k hkM
      obtain ⟨b5, o5, ra5, rn5, rc5, e5, hbs, hq0, hrn, hrm, hri⟩ := (HRR.out wr hbk) k hkM
      cases e5
      obtain rfl : rn5 = n2 := by rw [← hrn]; exact HWID.out _ (List.getElem_mem hkM)
      have HD := hid (HDT.out wr hbk M[k] (List.getElem_mem hkM) ra5 rc5 hri)
      obtain ⟨la, lc, rfl⟩ := ownsRow_slice ho
      obtain ⟨y, hy⟩ : ∃ y, y = dotV M[k] x := ⟨_, rfl⟩
      rw [← hy] at HD htk
      have HTKK := hid htk
      have HO := hid ho
      have HBK := hid hbk
      have M1 := hid (show k + 1 ≤ maxLen by unfold maxLen; omega)
      have M2 := hid (show (k + 1) * 8 ≤ 140737488355328 by omega)
      have hki : (k : Int) < (n : Int) := by omega
      clear ho hbk htk hy hrn hri hkM
      go_wp2_with (go_at_call 47; refine HD.out.mono ?_; rintro e w4 ⟨rfl, q4, rfl⟩; refine Stop.of ?_)
      refine Stop.go ?_
      have hb4 : Below wr.heap.size wr (wr.drewN q4) := below_drewN (Below.refl _ _) q4
      have HO4 := hid (own_below HO.out hb4)
      have HB4 := hid (chain HBK.out hb4)
      have M3 := hid (Nat.le_trans HB4.out.size (le_alloc (wr.drewN q4) (.cells #[.int .i64 y] 3)))
      clear hb4
      generalize wr.drewN q4 = w4 at HO4 HB4 M3 ⊢
      go_wp2_with (at_builtin; refine wpList_app _ rfl (.tmp 28) (.tmp 32) 31 rfl w.heap.size 3 (.int .i64 0) 1 8 Try.underlying31 li_int rfl Nat.one_pos (.slice la k lc) k _ rfl (HO4.out.alloc _) (some ⟨w4.heap.size, 0, none⟩) 1 1 [.int .i64 y] rfl rfl no_none (one_news w4 _ _) (li_one _) M1.out M2.out M3.out ?_; refine Stop.of ?_)
      refine Stop.go ?_
      intro a6 c6 w6 own6 g6
      have hB6 : Below w.heap.size w w6 := (HB4.out.alloc HB4.out.size _).grown g6 M3.out (fun k hk => (HO4.out.lt k hk).1)
      go_wp2
      refine ⟨⟨k + 1, by omega, by go_num, ?_, hB6⟩, by simp [intOf]; omega⟩
      rw [HTKK.out]
      simpa using own6
    · obtain rfl : n = k := by omega
      rw [List.take_of_length_le (by rw [HBL.out]; exact Nat.le_refl _)] at ho
      have HO := hid ho
      have HB := hid hbk
      clear ho hbk
      go_wp2
      go_ret2
      exact ⟨_, rfl, HO.out, HB.out⟩

set_option maxHeartbeats 2000000 in
/-- Back of the reference -/
theorem r2Back_c (w : World) (a a2 : Option Addr) (n cap cap2 : Nat) (M : Mask) (z : List Int) (hn : M.length = n) (hn2 : z.length = n) (H : RowsAt w a M) (H2 : IntsAt w a2 z) (hok : okM M = true) (hz : milB z = true) :
    Calls Try.prog 46 #[.slice a n cap, .slice a2 n cap2] w fun e w' => ∃ v, e = .returned (.tuple #[v, .int .i64 0]) ∧ w'.ownsRow w.heap.size 3 1 v (colsM M) ((backF M (colsM M) z).map (Value.int .i64)) ∧ Below w.heap.size w w' := by
  obtain ⟨hM, h1, h6, hc1, hc10⟩ := okM_ok hok
  obtain ⟨b, off, ra, rc, rfl, hb, hc⟩ := rows_head H (by omega)
  have hn6 : n ≤ 6 := by omega
  have hni : (0 : Int) < (n : Int) := by omega
  have HV := hid (r2Valid_c w (some ⟨b, off, none⟩) n cap M hn (by unfold maxLen; omega) H)
  rw [hok] at HV
  have HL := hid (r2listed_c w a2 n cap2 z hn2 (by unfold maxLen; omega) H2 (n : Int) 1000000000 (by omega) (by omega))
  rw [listE_ok (by omega) (mil_bil hz)] at HL
  obtain ⟨W, hW⟩ : ∃ W, W = colsM M := ⟨_, rfl⟩
  rw [← hW] at hc hc1 hc10 hM ⊢
  have hc0 : w.cell? ⟨b, off, none⟩ = some (.slice ra W rc) := hc
  have HCO := hid (fun (X : World) (hX : Below w.heap.size w X) (j : Nat) (hj : j < W) => r2column_c X (some ⟨b, off, none⟩) n cap M hn (by omega) (H.below hX) hM.wid j hj)
  have HTI := hid (fun (X : World) (hX : Below w.heap.size w X) (j : Nat) (a5 : Option Addr) (c5 : Nat) (hi : IntsAt X a5 (colV M j)) => r2dot_c X a5 a2 n c5 n cap2 (colV M j) z (by rw [colV_len]; exact hn) hn2 (by omega) (Nat.le_refl _) hi (H2.below hX) (colV_bnd hM j) (mil_bnd hz))
  have HCL := hid (fun j => (colV_len M j).trans hn)
  have HTK := hid (fun (k : Nat) (hk : k < W) => backF_take M z hk)
  have HBL := hid (backF_len M W z)
  obtain ⟨Bk, hBk⟩ : ∃ B, B = backF M W z := ⟨_, rfl⟩
  rw [← hBk] at HTK HBL ⊢
  clear hn hn2 H H2 hok hz hM hW hBk hc h1 h6
  go_enter Try.func46, Try.ntmps46
  go_wp2_with (first | (go_at_call 64; refine HV.out.mono ?_; rintro e w1 ⟨rfl, rfl⟩) | (go_at_call 97; refine HL.out.mono ?_; rintro e w1 ⟨rfl, rfl⟩))
  go_loopw [7, 23] (fun v i wr => ∃ k : Nat, k ≤ W ∧ i = .int .i64 k ∧ wr.ownsRow w.heap.size 3 1 v k ((Bk.take k).map (Value.int .i64)) ∧ Below w.heap.size w wr) (fun _ i _ => W - (intOf i).toNat)
  case atStart => exact ⟨0, Nat.zero_le _, rfl, World.ownsRow_nil _ _ _ _, Below.refl _ _⟩
  case round =>
    obtain ⟨k, hk, rfl, ho, hbk⟩ := hrel
    by_cases hlt : k < W
    · have htk := HTK.out k hlt
      have HC1 := hid (HCO.out wr hbk k hlt)
      obtain ⟨la, lc, rfl⟩ := ownsRow_slice ho
      have HO := hid ho
      have HBK := hid hbk
      have HTKK := hid htk
      clear ho hbk htk
      go_wp2_with (go_at_call 98; refine HC1.out.mono ?_; rintro e w3 ⟨v3, rfl, ho3, hb3⟩; refine Stop.of ?_)
      refine Stop.go ?_
      obtain ⟨ca, cc, rfl, hci, _⟩ := ints_of_own ho3 (HCL.out k)
      have HT1 := hid (HTI.out w3 (chain HBK.out hb3) k ca cc hci)
      have HB3 := hid (chain HBK.out hb3)
      have HO3 := hid (own_below HO.out hb3)
      obtain ⟨x, hx⟩ : ∃ x, x = dotV (colV M k) z := ⟨_, rfl⟩
      rw [← hx] at HT1 HTKK
      have M1 := hid (show k + 1 ≤ maxLen by unfold maxLen; omega)
      have M2 := hid (show (k + 1) * 8 ≤ 140737488355328 by omega)
      clear ho3 hci hb3 hx HC1
      go_wp2_with (go_at_call 47; refine HT1.out.mono ?_; rintro e w4 ⟨rfl, q4, rfl⟩; refine Stop.of ?_)
      refine Stop.go ?_
      have hb4 : Below w3.heap.size w3 (w3.drewN q4) := below_drewN (Below.refl _ _) q4
      have HO4 := hid (own_below HO3.out hb4)
      have HB4 := hid (chain HB3.out hb4)
      have M3 := hid (Nat.le_trans HB4.out.size (le_alloc (w3.drewN q4) (.cells #[.int .i64 x] 3)))
      clear hb4
      generalize w3.drewN q4 = w4 at HO4 HB4 M3 ⊢
      go_wp2_with (at_builtin; refine wpList_app _ rfl (.tmp 26) (.tmp 32) 31 rfl w.heap.size 3 (.int .i64 0) 1 8 Try.underlying31 li_int rfl Nat.one_pos (.slice la k lc) k _ rfl (HO4.out.alloc _) (some ⟨w4.heap.size, 0, none⟩) 1 1 [.int .i64 x] rfl rfl no_none (one_news w4 _ _) (li_one _) M1.out M2.out M3.out ?_; refine Stop.of ?_)
      refine Stop.go ?_
      intro a5 c5 w5 own5 g5
      have hB5 : Below w.heap.size w w5 := (HB4.out.alloc HB4.out.size _).grown g5 M3.out (fun k hk => (HO4.out.lt k hk).1)
      go_wp2
      refine ⟨⟨k + 1, by omega, by go_num, ?_, hB5⟩, by simp [intOf]; omega⟩
      rw [HTKK.out]
      simpa using own5
    · obtain rfl : W = k := by omega
      rw [List.take_of_length_le (by rw [HBL.out]; exact Nat.le_refl _)] at ho
      have HO := hid ho
      have HB := hid hbk
      clear ho hbk
      go_wp2
      go_ret2
      exact ⟨_, rfl, HO.out, HB.out⟩
end

section
open Go.RowKit
set_option linter.unusedVariables false

/-- whether a list is a weight of a pixel -/
def weighB (M : Mask) (p : Int) (z : List Int) : Bool :=
  okM M && (decide (z.length = M.length) && (milB z && (inB p 0 ((colsM M : Int) - 1) && decide (∀ j, j < colsM M → ((j : Int) = p → 0 < vec (backF M (colsM M) z) j) ∧ ((j : Int) ≠ p → vec (backF M (colsM M) z) j = 0)))))
theorem wb_no1 {M : Mask} {p : Int} {z : List Int} (e : okM M = false) : weighB M p z = false := by unfold weighB; rw [e]; rfl
theorem wb_no2 {M : Mask} {p : Int} {z : List Int} (e : z.length ≠ M.length) : weighB M p z = false := by unfold weighB; rw [decide_eq_false e]; simp
theorem wb_no3 {M : Mask} {p : Int} {z : List Int} (e : milB z = false) : weighB M p z = false := by unfold weighB; rw [e]; simp
theorem wb_no4 {M : Mask} {p : Int} {z : List Int} (e : inB p 0 ((colsM M : Int) - 1) = false) : weighB M p z = false := by unfold weighB; rw [e]; simp
theorem wb_no5 {M : Mask} {p : Int} {z : List Int} {j : Nat} (hj : j < colsM M) (e : ¬ (((j : Int) = p → 0 < vec (backF M (colsM M) z) j) ∧ ((j : Int) ≠ p → vec (backF M (colsM M) z) j = 0))) : weighB M p z = false := by
  have hd : decide (∀ j, j < colsM M → ((j : Int) = p → 0 < vec (backF M (colsM M) z) j) ∧ ((j : Int) ≠ p → vec (backF M (colsM M) z) j = 0)) = false := decide_eq_false fun h => e (h j hj)
  unfold weighB; rw [hd]; simp
theorem wb_yes {M : Mask} {p : Int} {z : List Int} (e1 : okM M = true) (e2 : z.length = M.length) (e3 : milB z = true) (e4 : inB p 0 ((colsM M : Int) - 1) = true) (e5 : ∀ j, j < colsM M → ((j : Int) = p → 0 < vec (backF M (colsM M) z) j) ∧ ((j : Int) ≠ p → vec (backF M (colsM M) z) j = 0)) : weighB M p z = true := by
  unfold weighB; rw [e1, decide_eq_true e2, e3, e4, decide_eq_true e5]; rfl
/-- what back says -/
def preB (M : Mask) (z : List Int) : Bool := okM M && (decide (z.length = M.length) && milB z)

set_option maxHeartbeats 1000000 in
theorem lback_c (w : World) (a a2 : Option Addr) (n cap n2 cap2 : Nat) (M : Mask) (z : List Int) (hn : M.length = n) (hn2 : z.length = n2) (hm : n ≤ maxLen) (hm2 : n2 ≤ maxLen) (H : RowsAt w a M) (H2 : IntsAt w a2 z) :
    Calls Try.prog 95 #[.slice a n cap, .slice a2 n2 cap2] w fun e w' => Below w.heap.size w w' ∧ ((preB M z = false ∧ e = .returned (.tuple #[.slice none 0 0, .bool false])) ∨ (preB M z = true ∧ ∃ v base, e = .returned (.tuple #[v, .bool true]) ∧ w'.ownsRow base 3 1 v (colsM M) ((backF M (colsM M) z).map (Value.int .i64)))) := by
  have HV := hid (maskValid_c w a n cap M hn hm H)
  cases hok : okM M
  · rw [hok] at HV
    have hp : preB M z = false := by unfold preB; rw [hok]; rfl
    rw [hp]
    clear hn hn2 H H2 hok hp
    go_enter Try.func95, Try.ntmps95
    go_wp2_with (go_at_call 69; refine HV.out.mono ?_; rintro e w1 ⟨rfl, hb1⟩)
    go_ret2
    exact ⟨hb1, .inl ⟨by first | trivial | rfl, rfl⟩⟩
  · rw [hok] at HV
    by_cases hl : n2 = n
    · subst hl
      have HII := hid (fun (X : World) (hX : Below w.heap.size w X) => H2.below hX)
      have HN2 := hid hn2
      have HBK := hid (fun (hz : milB z = true) (X : World) (hX : Below w.heap.size w X) => mback_c X a a2 n2 cap cap2 M z hn hn2 (H.below hX) (H2.below hX) hok hz)
      have hdl : ((n2 : Int) != (n2 : Int)) = false := by simp
      have hpre : preB M z = milB z := by unfold preB; rw [hok, decide_eq_true (by omega)]; rfl
      rw [hpre]
      obtain ⟨W, hW⟩ : ∃ W, W = colsM M := ⟨_, rfl⟩
      obtain ⟨Bk, hBk⟩ : ∃ B, B = backF M (colsM M) z := ⟨_, rfl⟩
      rw [← hBk, ← hW] at HBK ⊢
      obtain ⟨mz, hmz⟩ : ∃ b, b = milB z := ⟨_, rfl⟩
      have HMZ := hid hmz
      rw [← hmz] at HBK ⊢
      clear hn H H2 hok hn2 hpre hBk hW hmz
      go_enter Try.func95, Try.ntmps95
      go_wp2_with (go_at_call 69; refine HV.out.mono ?_; rintro e w1 ⟨rfl, hb1⟩; refine Stop.of ?_)
      refine Stop.go ?_
      have HBW1 := hid hb1
      clear hb1 HV
      go_wp2_with (go_at_call 72; refine (beyond_c _ 1000000).mono ?_; rintro e w2 ⟨q, rfl, hq, hqs, hb2⟩; refine Stop.of ?_)
      refine Stop.go ?_
      have HB2 := hid (chain HBW1.out hb2)
      have HCF := hid (containsI w2 a2 n2 cap2 z HN2.out hm2 (HII.out w2 HB2.out) 127 #[.pointer (some ⟨q, 0, none⟩)] (fun n => !(inB n (-1000000) 1000000)) (enters_of Try.func127 (by kernel_rfl) rfl) (beyond1 w2 q 1000000 (by decide) hq hqs))
      rw [any_mil, ← HMZ.out] at HCF
      clear hq hqs hb2
      cases mz
      · go_wp2_with (go_at_call 71; refine HCF.out.mono ?_; rintro e w3 ⟨rfl, hb3⟩)
        go_ret2
        exact ⟨chain HB2.out hb3, rfl⟩
      · have HBK2 := hid (HBK.out rfl)
        go_wp2_with (go_at_call 71; refine HCF.out.mono ?_; rintro e w3 ⟨rfl, hb3⟩; refine Stop.of ?_)
        refine Stop.go ?_
        have HB3 := hid (chain HB2.out hb3)
        clear HCF hb3
        go_wp2_with (go_at_call 139; refine (HBK2.out w3 HB3.out).mono ?_; rintro e w4 ⟨v4, base4, rfl, ho4, hb4⟩; refine Stop.of ?_)
        refine Stop.go ?_
        have HO4 := hid ho4
        have HB4 := hid (chain HB3.out hb4)
        clear ho4 hb4
        go_wp2
        go_ret2
        exact ⟨HB4.out, v4, rfl, base4, HO4.out⟩
    · have hp : preB M z = false := by unfold preB; rw [decide_eq_false (by omega)]; simp
      rw [hp]
      have hdl : ((n2 : Int) != (n : Int)) = true := by simp; omega
      clear hn hn2 H H2 hok hp
      go_enter Try.func95, Try.ntmps95
      go_wp2_with (go_at_call 69; refine HV.out.mono ?_; rintro e w1 ⟨rfl, hb1⟩)
      go_ret2
      exact ⟨hb1, .inl ⟨by first | trivial | rfl, rfl⟩⟩
theorem pre_ok {M : Mask} {z : List Int} (h : preB M z = true) : okM M = true ∧ z.length = M.length ∧ milB z = true := by
  unfold preB at h
  simp only [Bool.and_eq_true, decide_eq_true_eq] at h
  exact ⟨h.1, h.2.1, h.2.2⟩
theorem pre_wb {M : Mask} {p : Int} {z : List Int} (h : preB M z = false) : weighB M p z = false := by
  cases h1 : okM M
  · exact wb_no1 h1
  · by_cases h2 : z.length = M.length
    · cases h3 : milB z
      · exact wb_no3 h3
      · unfold preB at h; rw [h1, decide_eq_true h2, h3] at h; cases h
    · exact wb_no2 h2
theorem pix_one {M : Mask} (h : okM M = true) (p : Int) : pixE M [p] = if inB p 0 ((colsM M : Int) - 1) = true then 0 else 5 := by
  unfold pixE namedE
  rw [if_pos h, if_pos (show ascB [p] = true from pair_asc (by simp))]
  simp

set_option maxHeartbeats 2000000 in
theorem weighs_c (w : World) (a a2 : Option Addr) (n cap n2 cap2 : Nat) (M : Mask) (p : Int) (z : List Int) (hn : M.length = n) (hn2 : z.length = n2) (hm : n ≤ maxLen) (hm2 : n2 ≤ maxLen) (H : RowsAt w a M) (H2 : IntsAt w a2 z) :
    Calls Try.prog 42 #[.slice a n cap, .int .i64 p, .slice a2 n2 cap2] w fun e w' => e = .returned (.bool (weighB M p z)) ∧ Below w.heap.size w w' := by
  have HBK := hid (lback_c w a a2 n cap n2 cap2 M z hn hn2 hm hm2 H H2)
  cases hp : preB M z
  · rw [hp] at HBK
    rw [pre_wb hp]
    clear hn hn2 H H2 hp
    go_enter Try.func42, Try.ntmps42
    go_wp2_with (go_at_call 95; refine HBK.out.mono ?_; rintro e w1 ⟨hb1, ⟨_, rfl⟩ | ⟨h, _⟩⟩; rotate_left; cases h)
    go_ret
    exact ⟨rfl, hb1⟩
  · rw [hp] at HBK
    obtain ⟨hok, hzl, hmz⟩ := pre_ok hp
    obtain ⟨hM, h1, h6, hc1, hc10⟩ := okM_ok hok
    have HPX := hid (fun (X : World) (hX : Below w.heap.size w X) => pixels_c (X.alloc (.cells #[.int .i64 p] 3)) a (some ⟨X.heap.size, 0, none⟩) n cap 1 1 M [p] hn rfl hm (by decide) ((H.below hX).below ((Below.refl _ _).alloc (Nat.le_refl _) _)) (fun j hj => by
      match j, hj with
      | 0, _ => exact ⟨X.heap.size, 0, rfl, by simp, by rw [World.cell?_alloc_at _ _ _ _ rfl]; rfl⟩))
    rw [pix_one hok p] at HPX
    obtain ⟨Bb, hBb⟩ : ∃ b, b = weighB M p z := ⟨_, rfl⟩
    rw [← hBb]
    have HBB := hid hBb
    have HNO4 := hid (fun (e : inB p 0 ((colsM M : Int) - 1) = false) => hBb.trans (wb_no4 e))
    have HNO5 := hid (fun (j : Nat) (hj : j < colsM M) e => hBb.trans (wb_no5 hj e))
    have HYES := hid (fun e4 e5 => hBb.trans (wb_yes hok hzl hmz e4 e5))
    have HBL := hid (backF_len M (colsM M) z)
    obtain ⟨Bk, hBk⟩ : ∃ B, B = backF M (colsM M) z := ⟨_, rfl⟩
    rw [← hBk] at HBK HBL HNO5 HYES
    obtain ⟨W, hW⟩ : ∃ W, W = colsM M := ⟨_, rfl⟩
    rw [← hW] at HBK HBL HNO4 HNO5 HYES HPX hc1 hc10
    clear hn hn2 H H2 hok hzl hmz hM hBk hW hp hBb h1 h6
    go_enter Try.func42, Try.ntmps42
    go_wp2_with (go_at_call 95; refine HBK.out.mono ?_; rintro e w1 ⟨hb1, ⟨h, _⟩ | ⟨_, v1, base1, rfl, ho1⟩⟩; cases h; refine Stop.of ?_)
    refine Stop.go ?_
    obtain ⟨la, lc, rfl, hli, _⟩ := ints_of_own ho1 HBL.out
    have HPX1 := hid (HPX.out w1 hb1)
    have HB1 := hid hb1
    have HLI := hid hli
    have hwa : Below w1.heap.size w1 (w1.alloc (.cells #[.int .i64 p] 3)) := (Below.refl _ _).alloc (Nat.le_refl _) _
    have HWA := hid hwa
    clear ho1 hli hb1 HPX HBK hwa
    cases hin : inB p 0 ((W : Int) - 1)
    · obtain rfl : Bb = false := HNO4.out hin
      rw [hin] at HPX1
      clear hin
      have h5 : (if false = true then (0 : Int) else 5) = 5 := rfl
      rw [h5] at HPX1
      clear h5
      go_wp2_with (go_at_call 84; refine HPX1.out.mono ?_; rintro e w2 ⟨rfl, hb2⟩)
      go_ret
      exact ⟨rfl, chain HB1.out (chain HWA.out hb2)⟩
    · rw [hin] at HPX1
      have h5 : (if true = true then (0 : Int) else 5) = 0 := rfl
      rw [h5] at HPX1
      have hpb : 0 ≤ p ∧ p < (W : Int) := by
        unfold inB at hin
        simp only [Bool.and_eq_true, decide_eq_true_eq] at hin
        omega
      have HY := hid (HYES.out hin)
      obtain ⟨q, hq⟩ : ∃ q : Nat, p = (q : Int) := ⟨p.toNat, by omega⟩
      subst hq
      have hqW : q < W := by omega
      obtain ⟨b5, o5, rfl, hb5, hc5⟩ := HLI.out q (by rw [HBL.out]; exact hqW)
      have hbv : Bk[q]?.getD 0 = vec Bk q := rfl
      rw [hbv] at hc5
      clear h5 hin hpb hbv
      go_wp2_with (go_at_call 84; refine HPX1.out.mono ?_; rintro e w2 ⟨rfl, hb2⟩; refine Stop.of ?_)
      refine Stop.go ?_
      have hb12 := chain HWA.out hb2
      have hc5' : w2.cell? ⟨b5, o5 + q, none⟩ = some (.int .i64 (vec Bk q)) := (hb12.cell (p := ⟨b5, o5 + q, none⟩) hb5).trans hc5
      have HL2 := hid (HLI.out.below hb12)
      have HB2 := hid (chain HB1.out hb12)
      have HNQ := hid (fun (h : ¬ 0 < vec Bk q) => HNO5.out q hqW (fun hh => h (hh.1 rfl)))
      have HQ0 := hid (fun (h : 0 < vec Bk q) (j : Nat) (hj : (j : Int) = (q : Int)) => (show 0 < vec Bk j by rw [show j = q by omega]; exact h))
      obtain ⟨x, hx⟩ : ∃ x, x = vec Bk q := ⟨_, rfl⟩
      rw [← hx] at hc5' HNQ HQ0
      have hqi : (q : Int) < (W : Int) := by omega
      have hqi0 : (0 : Int) ≤ (q : Int) := by omega
      clear hc5 hb5 hb2 hb12 hx HPX1 HWA HLI HB1
      by_cases hx0 : x ≤ 0
      · obtain rfl : Bb = false := HNQ.out (by omega)
        go_wp2
        go_ret
        exact ⟨rfl, HB2.out⟩
      · have HQ := hid (HQ0.out (by omega))
        go_wp2
        go_loopw [35] (fun i wr => ∃ k : Nat, k ≤ W ∧ i = .int .i64 k ∧ wr = w2 ∧ Hid (∀ j, j < k → (j : Int) ≠ (q : Int) → vec Bk j = 0)) (fun i _ => W - (intOf i).toNat)
        case atStart => exact ⟨0, Nat.zero_le _, rfl, rfl, hid (fun j h => by omega)⟩
        case round =>
          obtain ⟨k, hk, rfl, rfl, HK0⟩ := hrel
          by_cases hlt : k < W
          · obtain ⟨b6, o6, e6, hb6, hc6⟩ := HL2.out k (by rw [HBL.out]; exact hlt)
            cases e6
            have hbv : Bk[k]?.getD 0 = vec Bk k := rfl
            rw [hbv] at hc6
            have HN6 := hid (fun (h : (k : Int) ≠ (q : Int)) (h2 : vec Bk k ≠ 0) => HNO5.out k hlt (fun hh => h2 (hh.2 h)))
            have HX6 := hid (fun (h : (k : Int) = (q : Int) ∨ vec Bk k = 0) => (show ∀ j, j < k + 1 → (j : Int) ≠ (q : Int) → vec Bk j = 0 from fun j hj hne => by
              rcases Nat.lt_or_ge j k with h1 | h1
              · exact HK0.out j h1 hne
              · have : j = k := by omega
                subst this
                rcases h with h | h
                · exact absurd h hne
                · exact h))
            obtain ⟨y, hy⟩ : ∃ x, x = vec Bk k := ⟨_, rfl⟩
            rw [← hy] at hc6 HN6 HX6
            clear hbv hy hb6
            by_cases hy0 : y = 0
            · have HX := hid (HX6.out (.inr hy0))
              subst hy0
              clear HN6 HX6
              go_wp2
              exact ⟨⟨k + 1, by omega, by go_num, by first | trivial | rfl, HX⟩, by simp [intOf]; omega⟩
            · have hyb : (y != 0) = true := by simpa using hy0
              by_cases hkq : (k : Int) = (q : Int)
              · have hkb : ((k : Int) != (q : Int)) = false := by simpa using hkq
                have HX := hid (HX6.out (.inl hkq))
                clear HN6 HX6 hkq
                go_wp2
                exact ⟨⟨k + 1, by omega, by go_num, by first | trivial | rfl, HX⟩, by simp [intOf]; omega⟩
              · have hkb : ((k : Int) != (q : Int)) = true := by simpa using hkq
                obtain rfl : Bb = false := HN6.out hkq hy0
                clear HN6 HX6 hkq
                go_wp2
                go_ret
                exact ⟨rfl, HB2.out⟩
          · obtain rfl : W = k := by omega
            obtain rfl : Bb = true := HY.out fun j hj => ⟨fun h => HQ.out j h, fun h => HK0.out j hj h⟩
            go_wp2
            go_ret
            exact ⟨rfl, HB2.out⟩
end

section
open Go.RowKit
set_option linter.unusedVariables false

set_option maxHeartbeats 2000000 in
theorem r3Weighs_c (w : World) (a a2 : Option Addr) (n cap n2 cap2 : Nat) (M : Mask) (p : Int) (z : List Int) (hn : M.length = n) (hn2 : z.length = n2) (hm : n ≤ maxLen) (hm2 : n2 ≤ maxLen) (H : RowsAt w a M) (H2 : IntsAt w a2 z) :
    Calls Try.prog 43 #[.slice a n cap, .int .i64 p, .slice a2 n2 cap2] w fun e w' => e = .returned (.bool (weighB M p z)) ∧ Below w.heap.size w w' := by
  have HV := hid (r2Valid_c w a n cap M hn hm H)
  cases hok : okM M
  · rw [hok] at HV
    rw [wb_no1 hok]
    clear hn hn2 H H2 hok
    go_enter Try.func43, Try.ntmps43
    go_wp2_with (go_at_call 64; refine HV.out.mono ?_; rintro e w1 ⟨rfl, rfl⟩)
    go_ret
    exact ⟨rfl, Below.refl _ _⟩
  · rw [hok] at HV
    obtain ⟨hM, h1, h6, hc1, hc10⟩ := okM_ok hok
    obtain ⟨b, off, ra, rc, rfl, hb, hc⟩ := rows_head H (by omega)
    have hz : (0 : Int) < (n : Int) := by omega
    have HMC := hid (million_c w a2 n2 cap2 z hn2 hm2 H2)
    obtain ⟨Bb, hBb⟩ : ∃ b, b = weighB M p z := ⟨_, rfl⟩
    rw [← hBb]
    have HNO2 := hid (fun (e : n2 ≠ n) => hBb.trans (wb_no2 (by rw [hn, hn2]; exact e)))
    have HNO3 := hid (fun (e : milB z = false) => hBb.trans (wb_no3 e))
    have HNO4 := hid (fun (e : inB p 0 ((colsM M : Int) - 1) = false) => hBb.trans (wb_no4 e))
    have HNO5 := hid (fun (j : Nat) (hj : j < colsM M) e => hBb.trans (wb_no5 hj e))
    have HYES := hid (fun (e2 : n2 = n) e3 e4 e5 => hBb.trans (wb_yes hok (by rw [hn, hn2]; exact e2) e3 e4 e5))
    have HBK := hid (fun (e2 : n2 = n) (e3 : milB z = true) => r2Back_c w (some ⟨b, off, none⟩) a2 n cap cap2 M z hn (by rw [hn2]; exact e2) H H2 hok e3)
    have HBL := hid (backF_len M (colsM M) z)
    obtain ⟨Bk, hBk⟩ : ∃ B, B = backF M (colsM M) z := ⟨_, rfl⟩
    rw [← hBk] at HBK HBL HNO5 HYES
    obtain ⟨W, hW⟩ : ∃ W, W = colsM M := ⟨_, rfl⟩
    rw [← hW] at HBK HBL HNO4 HNO5 HYES hc hc1 hc10
    have hc0 : w.cell? ⟨b, off, none⟩ = some (.slice ra W rc) := hc
    obtain ⟨Wm, hWm⟩ : ∃ q, q = (W : Int) - 1 := ⟨_, rfl⟩
    have hwm : IntKind.i64.wrap ((W : Int) - 1) = Wm := by rw [hWm]; exact IntWalk.i64_in _ (by omega)
    have HWI := hid (fun X => r3within_c p 0 Wm X)
    rw [← hWm] at HNO4 HYES
    obtain ⟨bi, hbi⟩ : ∃ q, q = inB p 0 Wm := ⟨_, rfl⟩
    rw [← hbi] at HWI HNO4 HYES
    have HBI := hid hbi
    obtain ⟨mz, hmz⟩ : ∃ q, q = milB z := ⟨_, rfl⟩
    rw [← hmz] at HMC HNO3 HYES HBK
    have HWM := hid hWm
    clear hn hn2 H H2 hok hM hBk hW hBb hc hbi hmz hb h1 h6 hWm
    go_enter Try.func43, Try.ntmps43
    go_wp2_with (first | (go_at_call 64; refine HV.out.mono ?_; rintro e w1 ⟨rfl, rfl⟩) | (go_at_call 96; refine (HWI.out _).mono ?_; rintro e w1 ⟨rfl, rfl⟩; refine Stop.of ?_))
    refine Stop.go ?_
    cases bi
    · obtain rfl : Bb = false := HNO4.out rfl
      go_wp2
      go_ret
      exact ⟨rfl, Below.refl _ _⟩
    · by_cases hl : n2 = n
      · subst hl
        have hdl : ((n2 : Int) != (n2 : Int)) = false := by simp
        go_wp2_with (go_at_call 74; refine HMC.out.mono ?_; rintro e w1 ⟨rfl, rfl⟩; refine Stop.of ?_)
        refine Stop.go ?_
        cases mz
        · obtain rfl : Bb = false := HNO3.out rfl
          go_wp2
          go_ret
          exact ⟨rfl, Below.refl _ _⟩
        · have HB1 := hid (HBK.out (by first | trivial | rfl) (by first | trivial | rfl))
          have HY := hid (HYES.out (by first | trivial | rfl) (by first | trivial | rfl) (by first | trivial | rfl))
          clear HBK HYES HNO2 HNO3 HNO4
          go_wp2_with (go_at_call 46; refine HB1.out.mono ?_; rintro e w2 ⟨v2, rfl, ho2, hb2⟩; refine Stop.of ?_)
          refine Stop.go ?_
          obtain ⟨la, lc, rfl, hli, _⟩ := ints_of_own ho2 HBL.out
          have HLI := hid hli
          have HB2 := hid hb2
          clear ho2 hli hb2 HB1
          go_wp2
          go_loopw [46] (fun i wr => ∃ k : Nat, k ≤ W ∧ i = .int .i64 k ∧ wr = w2 ∧ Hid (∀ j, j < k → ((j : Int) = p → 0 < vec Bk j) ∧ ((j : Int) ≠ p → vec Bk j = 0))) (fun i _ => W - (intOf i).toNat)
          case atStart => exact ⟨0, Nat.zero_le _, rfl, rfl, hid (fun j h => by omega)⟩
          case round =>
            obtain ⟨k, hk, rfl, rfl, HK0⟩ := hrel
            by_cases hlt : k < W
            · obtain ⟨b6, o6, rfl, hb6, hc6⟩ := HLI.out k (by rw [HBL.out]; exact hlt)
              have hbv : Bk[k]?.getD 0 = vec Bk k := rfl
              rw [hbv] at hc6
              have HN6 := hid (fun (h : ¬ (((k : Int) = p → 0 < vec Bk k) ∧ ((k : Int) ≠ p → vec Bk k = 0))) => HNO5.out k hlt h)
              have HX6 := hid (fun (h : ((k : Int) = p → 0 < vec Bk k) ∧ ((k : Int) ≠ p → vec Bk k = 0)) => (show ∀ j, j < k + 1 → ((j : Int) = p → 0 < vec Bk j) ∧ ((j : Int) ≠ p → vec Bk j = 0) from fun j hj => by
                rcases Nat.lt_or_ge j k with h1 | h1
                · exact HK0.out j h1
                · have : j = k := by omega
                  subst this; exact h))
              obtain ⟨y, hy⟩ : ∃ x, x = vec Bk k := ⟨_, rfl⟩
              rw [← hy] at hc6 HN6 HX6
              clear hbv hy hb6
              by_cases hkq : (k : Int) = p
              · have hkb : ((k : Int) == p) = true := by simpa using hkq
                have hkb2 : ((k : Int) != p) = false := by simpa using hkq
                by_cases hy0 : y ≤ 0
                · obtain rfl : Bb = false := HN6.out fun h => by have := h.1 hkq; omega
                  clear HN6 HX6 hkq
                  go_wp2
                  go_ret
                  exact ⟨rfl, HB2.out⟩
                · have HX := hid (HX6.out ⟨fun _ => by omega, fun h => absurd hkq h⟩)
                  clear HN6 HX6 hkq
                  go_wp2
                  exact ⟨⟨k + 1, by omega, by go_num, by first | trivial | rfl, HX⟩, by simp [intOf]; omega⟩
              · have hkb : ((k : Int) == p) = false := by simpa using hkq
                have hkb2 : ((k : Int) != p) = true := by simpa using hkq
                by_cases hy0 : y = 0
                · have HX := hid (HX6.out ⟨fun h => absurd h hkq, fun _ => hy0⟩)
                  subst hy0
                  clear HN6 HX6 hkq
                  go_wp2
                  exact ⟨⟨k + 1, by omega, by go_num, by first | trivial | rfl, HX⟩, by simp [intOf]; omega⟩
                · have hyb : (y != 0) = true := by simpa using hy0
                  obtain rfl : Bb = false := HN6.out fun h => hy0 (h.2 hkq)
                  clear HN6 HX6 hkq
                  go_wp2
                  go_ret
                  exact ⟨rfl, HB2.out⟩
            · obtain rfl : W = k := by omega
              obtain rfl : Bb = true := HY.out fun j hj => HK0.out j hj
              go_wp2
              go_ret
              exact ⟨rfl, HB2.out⟩
      · obtain rfl : Bb = false := HNO2.out hl
        have hdl : ((n2 : Int) != (n : Int)) = true := by simp; omega
        go_wp2
        go_ret
        exact ⟨rfl, Below.refl _ _⟩

theorem sm_swap (m : Nat → Nat → Int) (x z : Nat → Int) (n : Nat) : ∀ k, sm (fun i => z i * sm (fun j => m i j * x j) n) k = sm (fun j => sm (fun i => m i j * z i) k * x j) n
  | 0 => by
    show 0 = _
    rw [← sm_zero n]
    exact sm_congr fun j _ => by show (0 : Int) = 0 * x j; simp
  | k + 1 => by
    show sm (fun i => z i * sm (fun j => m i j * x j) n) k + z k * sm (fun j => m k j * x j) n = _
    rw [sm_swap m x z n k, ← sm_mul, ← sm_add]
    refine sm_congr fun j _ => ?_
    show sm (fun i => m i j * z i) k * x j + z k * (m k j * x j) = (sm (fun i => m i j * z i) k + m k j * z k) * x j
    grind
theorem vec_map_list {α : Type} (f : α → Int) (l : List α) {i : Nat} (hi : i < l.length) : vec (l.map f) i = f l[i] := by
  unfold vec; rw [List.getElem?_map, List.getElem?_eq_getElem hi]; rfl
/-- what a weight tells -/
theorem weigh_tells {M : Mask} {p : Int} {z x : List Int} (h : weighB M p z = true) (hx : okShown M x = true) : ∃ q : Nat, p = (q : Int) ∧ q < colsM M ∧ dotV z (readV M x) = vec (backF M (colsM M) z) q * vec x q := by
  unfold weighB at h
  simp only [Bool.and_eq_true, decide_eq_true_eq] at h
  obtain ⟨h1, h2, h3, h4, h5⟩ := h
  unfold inB at h4
  simp only [Bool.and_eq_true, decide_eq_true_eq] at h4
  obtain ⟨hM, m1, m6, hc1, hc10⟩ := okM_ok h1
  unfold okShown at hx
  simp only [Bool.and_eq_true, decide_eq_true_eq] at hx
  refine ⟨p.toNat, by omega, by omega, ?_⟩
  have e1 : dotV z (readV M x) = sm (fun i => vec z i * sm (fun j => rowv M i j * vec x j) (colsM M)) M.length := by
    unfold dotV
    rw [h2]
    refine sm_congr fun i hi => ?_
    congr 1
    unfold readV
    rw [vec_map_list _ _ hi]
    unfold dotV rowv
    rw [hM.wid _ (List.getElem_mem hi), List.getElem?_eq_getElem hi]
    rfl
  rw [e1, sm_swap (fun i j => rowv M i j) (vec x) (vec z) (colsM M) M.length]
  have e2 : ∀ j, j < colsM M → sm (fun i => rowv M i j * vec z i) M.length = vec (backF M (colsM M) z) j := fun j hj => by
    unfold backF
    rw [vec_map_list _ _ (by simpa using hj)]
    simp only [List.getElem_range]
    unfold dotV
    rw [colV_len]
    refine sm_congr fun i hi => ?_
    congr 1
    unfold colV rowv
    rw [vec_map_list _ _ hi, List.getElem?_eq_getElem hi]
    rfl
  have hq : p.toNat < colsM M := by omega
  rw [sm_single (q := p.toNat) hq (fun j hj hne => by
    rw [e2 j hj, (h5 j hj).2 (by omega)]; simp), e2 _ hq]
theorem readV_bnd {M : Mask} {x : List Int} (hM : MaskOk M (colsM M)) (hc : colsM M ≤ 10) (hx : milB x = true) : BndL 67108864 (readV M x) := by
  intro y hy
  obtain ⟨r, hr, rfl⟩ := List.mem_map.1 hy
  have hl := hM.wid r hr
  have key : ∀ k : Nat, (sm (fun c => vec r c * vec x c) k).natAbs ≤ k * 1000000 := by
    intro k
    induction k with
    | zero => simp [sm]
    | succ k ih =>
      have h1 := hM.one r hr k
      have h2 := vec_mem (P := fun q => -1000000 ≤ q ∧ q ≤ 1000000) (by decide) (mil_le hx) k
      have h4 : (vec r k * vec x k).natAbs ≤ 1 * 1000000 := by rw [Int.natAbs_mul]; exact Nat.mul_le_mul (by omega) (by omega)
      show (sm (fun c => vec r c * vec x c) k + vec r k * vec x k).natAbs ≤ _
      omega
  have := key r.length
  have h3 : r.length * 1000000 ≤ 10 * 1000000 := Nat.mul_le_mul_right _ (by omega)
  show -((67108864 : Nat) : Int) ≤ dotV r x ∧ dotV r x ≤ ((67108864 : Nat) : Int)
  unfold dotV
  omega
theorem backF_bnd {M : Mask} {z : List Int} (hM : MaskOk M (colsM M)) (h6 : M.length ≤ 6) (hz : milB z = true) (q : Nat) : -6000000 ≤ vec (backF M (colsM M) z) q ∧ vec (backF M (colsM M) z) q ≤ 6000000 := by
  refine vec_mem (P := fun y => -6000000 ≤ y ∧ y ≤ 6000000) (by decide) (fun y hy => ?_) q
  obtain ⟨j, _, rfl⟩ := List.mem_map.1 hy
  have key : ∀ k : Nat, (sm (fun c => vec (colV M j) c * vec z c) k).natAbs ≤ k * 1000000 := by
    intro k
    induction k with
    | zero => simp [sm]
    | succ k ih =>
      have h1 : -1 ≤ vec (colV M j) k ∧ vec (colV M j) k ≤ 1 := vec_mem (P := fun q => -1 ≤ q ∧ q ≤ 1) (by decide) (fun y hy => by
        obtain ⟨r, hr, rfl⟩ := List.mem_map.1 hy
        exact hM.one r hr j) k
      have h2 := vec_mem (P := fun q => -1000000 ≤ q ∧ q ≤ 1000000) (by decide) (mil_le hz) k
      have h4 : (vec (colV M j) k * vec z k).natAbs ≤ 1 * 1000000 := by rw [Int.natAbs_mul]; exact Nat.mul_le_mul (by omega) (by omega)
      show (sm (fun c => vec (colV M j) c * vec z c) k + vec (colV M j) k * vec z k).natAbs ≤ _
      omega
  have := key (colV M j).length
  rw [colV_len] at this
  have h3 : M.length * 1000000 ≤ 6 * 1000000 := Nat.mul_le_mul_right _ h6
  unfold dotV
  rw [colV_len]
  omega
end
end Go.Proofs.Ytfipebkhomppmaa
