/- Walks: Back (of mask and of reference 02), Read and Shown of reference 02, Weighs of both. -/
import Derived.Test.YtfipebkhomppmaaLwAI
namespace Go.Proofs.Ytfipebkhomppmaa
open Go.RowKit
set_option linter.unusedVariables false

/-- a column -/
def colV (M : List (List Int)) (j : Nat) : List Int := M.map (fun r => vec r j)
theorem colV_take {M : List (List Int)} {k : Nat} (hk : k < M.length) (j : Nat) : (colV M j).take (k + 1) = (colV M j).take k ++ [vec M[k] j] := by
  have hc : k < (colV M j).length := by simp [colV]; exact hk
  rw [List.take_succ_eq_append_getElem hc]
  simp [colV]
theorem colV_len (M : List (List Int)) (j : Nat) : (colV M j).length = M.length := by simp [colV]
theorem colV_bnd {M : Mask} {W : Nat} (h : MaskOk M W) (j : Nat) : BndL 67108864 (colV M j) := fun x hx => by
  obtain ⟨r, hr, rfl⟩ := List.mem_map.1 hx
  have := h.one r hr j
  omega
def backF (M : Mask) (W : Nat) (z : List Int) : List Int := (List.range W).map (fun j => dotV (colV M j) z)
theorem backF_len (M : Mask) (W : Nat) (z : List Int) : (backF M W z).length = W := by simp [backF]
theorem backF_take (M : Mask) {W : Nat} (z : List Int) {k : Nat} (hk : k < W) : (backF M W z).take (k + 1) = (backF M W z).take k ++ [dotV (colV M k) z] := by
  have hc : k < (backF M W z).length := by rw [backF_len]; exact hk
  rw [List.take_succ_eq_append_getElem hc]
  simp [backF]
def readV (M : Mask) (x : List Int) : List Int := M.map (fun r => dotV r x)
theorem readV_take {M : Mask} {k : Nat} (hk : k < M.length) (x : List Int) : (readV M x).take (k + 1) = (readV M x).take k ++ [dotV M[k] x] := by
  have hc : k < (readV M x).length := by simp [readV]; exact hk
  rw [List.take_succ_eq_append_getElem hc]
  simp [readV]

theorem mtimes_c (w : World) (a a2 : Option Addr) (n cap n2 cap2 : Nat) (r h : List Int) (hn : r.length = n) (hn2 : h.length = n2) (hm : n ≤ 1000) (hle : n ≤ n2) (H : IntsAt w a r) (H2 : IntsAt w a2 h) (hr : BndL 67108864 r) (hh : BndL 67108864 h) :
    Calls Try.prog 160 #[.slice a n cap, .slice a2 n2 cap2] w fun e w' => e = .returned (.int .i64 (dotV r h)) ∧ w = w' := by
  have HN := hid hn
  have HN2 := hid hn2
  have HH := hid H
  have HH2 := hid H2
  have HDL := hid (dot_le hr hh)
  have HR := hid hr
  have HHB := hid hh
  have HD := hid (show dotV r h = sm (fun c => vec r c * vec h c) n by unfold dotV; rw [hn])
  clear hn hn2 H H2 hr hh
  go_enter Try.func160, Try.ntmps160
  go_wp2
  go_loop [5, 10] (fun s i => ∃ k : Nat, k ≤ n ∧ i = .int .i64 k ∧ s = .int .i64 (sm (fun c => vec r c * vec h c) k)) (fun _ i => n - (intOf i).toNat)
  case atStart => exact ⟨0, Nat.zero_le _, rfl, rfl⟩
  case round =>
    obtain ⟨k, hk, rfl, rfl⟩ := hrel
    by_cases hlt : k < n
    · have hkl : k < r.length := by rw [HN.out]; exact hlt
      have hkl2 : k < h.length := by rw [HN2.out]; omega
      obtain ⟨b, off, rfl, hbs, hc⟩ := HH.out k hkl
      obtain ⟨b2, off2, rfl, hbs2, hc2⟩ := HH2.out k hkl2
      have g1 := HR.out.get hkl
      have g2 := HHB.out.get hkl2
      have e1 := HDL.out k
      have e2 := HDL.out (k + 1)
      have es : sm (fun c => vec r c * vec h c) (k + 1) = sm (fun c => vec r c * vec h c) k + r[k]?.getD 0 * h[k]?.getD 0 := rfl
      obtain ⟨x, hx⟩ : ∃ x, x = r[k]?.getD 0 := ⟨_, rfl⟩
      obtain ⟨y, hy⟩ : ∃ x, x = h[k]?.getD 0 := ⟨_, rfl⟩
      rw [← hx] at hc g1 es
      rw [← hy] at hc2 g2 es
      obtain ⟨s0, hs0⟩ : ∃ x, x = sm (fun c => vec r c * vec h c) k := ⟨_, rfl⟩
      rw [← hs0] at es e1 ⊢
      rw [es] at e2
      have e3 := mul_bnd (show -(67108864 : Int) ≤ x ∧ x ≤ 67108864 by omega) (show -(67108864 : Int) ≤ y ∧ y ≤ 67108864 by omega)
      obtain ⟨m, hmm⟩ : ∃ m, m = x * y := ⟨_, rfl⟩
      rw [← hmm] at es e2 e3
      have w1 : IntKind.i64.wrap (x * y) = m := by rw [← hmm]; exact IntWalk.i64_in _ (by omega)
      have w2 : IntKind.i64.wrap (s0 + m) = s0 + m := IntWalk.i64_in _ (by omega)
      have HES := hid es
      have i1 : (0 : Int) ≤ (k : Int) := by omega
      have i2 : (k : Int) < (n : Int) := by omega
      have i3 : (k : Int) < (n2 : Int) := by omega
      clear hx hy hs0 hmm es e1 e2 e3 g1 g2 hkl hkl2
      go_wp2
      go_round
      case rel => exact ⟨k + 1, by omega, by go_num, by rw [HES.out]⟩
      case measure => simp [intOf]; omega
    · obtain rfl : n = k := by omega
      go_wp2
      go_ret
      exact ⟨ret_int HD.out.symm, rfl⟩

theorem mcolumn_c (w : World) (a : Option Addr) (n cap : Nat) (M : Mask) (hn : M.length = n) (hm : n ≤ 1000) (H : RowsAt w a M) {W : Nat} (hw : ∀ r ∈ M, r.length = W) (j : Nat) (hj : j < W) :
    Calls Try.prog 161 #[.slice a n cap, .int .i64 j] w fun e w' => ∃ v, e = .returned v ∧ w'.ownsRow w.heap.size 3 1 v n ((colV M j).map (Value.int .i64)) ∧ Below w.heap.size w w' := by
  have HN := hid hn
  have HH := hid H
  have HW := hid hw
  have HCT := hid (fun (k : Nat) (hk : k < M.length) => colV_take hk j)
  have HCL := hid (colV_len M j)
  obtain ⟨C, hC⟩ : ∃ C, C = colV M j := ⟨_, rfl⟩
  rw [← hC] at HCT HCL ⊢
  clear hn H hw hC
  go_enter Try.func161, Try.ntmps161
  go_wp2
  go_loopw [5, 10] (fun v i wr => ∃ k : Nat, k ≤ n ∧ i = .int .i64 k ∧ wr.ownsRow w.heap.size 3 1 v k ((C.take k).map (Value.int .i64)) ∧ Below w.heap.size w wr) (fun _ i _ => n - (intOf i).toNat)
  case atStart => exact ⟨0, Nat.zero_le _, rfl, World.ownsRow_nil _ _ _ _, Below.refl _ _⟩
  case round =>
    obtain ⟨k, hk, rfl, ho, hbk⟩ := hrel
    by_cases hlt : k < n
    · have hkM : k < M.length := by rw [HN.out]; exact hlt
      obtain ⟨b, off, ra, rn, rc, rfl, hbs, hq0, hrn, hrm, hri⟩ := (HH.out.below hbk) k hkM
      have htk := HCT.out k hkM
      have hwd := HW.out M[k] (List.getElem_mem hkM)
      obtain rfl : rn = W := by omega
      obtain ⟨b2, off2, rfl, hbs2, hc2⟩ := hri j (by omega)
      have hxv : M[k][j]?.getD 0 = vec M[k] j := rfl
      rw [hxv] at hc2
      obtain ⟨x, hx⟩ : ∃ x, x = vec M[k] j := ⟨_, rfl⟩
      rw [← hx] at hc2 htk
      obtain ⟨la, lc, rfl⟩ := ownsRow_slice ho
      have HTK := hid htk
      have HO := hid ho
      have M1 := hid (show k + 1 ≤ maxLen by unfold maxLen; omega)
      have M2 := hid (show (k + 1) * 8 ≤ 140737488355328 by omega)
      have M3 := hid (Nat.le_trans hbk.size (le_alloc wr (.cells #[.int .i64 x] 3)))
      have HBK := hid hbk
      have hji : (j : Int) < (rn : Int) := by omega
      have hji0 : (0 : Int) ≤ (j : Int) := by omega
      clear htk hx hxv hwd hrn hrm hri ho hbk hkM hbs2
      go_wp2_with (at_builtin; refine wpList_app _ rfl (.tmp 14) (.tmp 19) 31 rfl w.heap.size 3 (.int .i64 0) 1 8 Try.underlying31 li_int rfl Nat.one_pos (.slice la k lc) k _ rfl (HO.out.alloc _) (some ⟨wr.heap.size, 0, none⟩) 1 1 [.int .i64 x] rfl rfl no_none (one_news wr _ _) (li_one _) M1.out M2.out M3.out ?_; refine Stop.of ?_)
      refine Stop.go ?_
      intro a3 c3 w3 own3 g3
      have hB3 : Below w.heap.size w w3 := (HBK.out.alloc HBK.out.size _).grown g3 M3.out (fun k hk => (HO.out.lt k hk).1)
      go_wp2
      refine ⟨⟨k + 1, by omega, by go_num, ?_, hB3⟩, by simp [intOf]; omega⟩
      rw [HTK.out]
      simpa using own3
    · obtain rfl : n = k := by omega
      rw [List.take_of_length_le (by rw [HCL.out, HN.out]; exact Nat.le_refl _)] at ho
      go_wp2
      go_ret
      exact ⟨_, rfl, ho, hbk⟩

theorem r2column_c (w : World) (a : Option Addr) (n cap : Nat) (M : Mask) (hn : M.length = n) (hm : n ≤ 1000) (H : RowsAt w a M) {W : Nat} (hw : ∀ r ∈ M, r.length = W) (j : Nat) (hj : j < W) :
    Calls Try.prog 98 #[.slice a n cap, .int .i64 j] w fun e w' => ∃ v, e = .returned v ∧ w'.ownsRow w.heap.size 3 1 v n ((colV M j).map (Value.int .i64)) ∧ Below w.heap.size w w' := by
  have HN := hid hn
  have HH := hid H
  have HW := hid hw
  have HCT := hid (fun (k : Nat) (hk : k < M.length) => colV_take hk j)
  have HCL := hid (colV_len M j)
  obtain ⟨C, hC⟩ : ∃ C, C = colV M j := ⟨_, rfl⟩
  rw [← hC] at HCT HCL ⊢
  clear hn H hw hC
  go_enter Try.func98, Try.ntmps98
  go_wp2
  go_loopw [5, 10] (fun v i wr => ∃ k : Nat, k ≤ n ∧ i = .int .i64 k ∧ wr.ownsRow w.heap.size 3 1 v k ((C.take k).map (Value.int .i64)) ∧ Below w.heap.size w wr) (fun _ i _ => n - (intOf i).toNat)
  case atStart => exact ⟨0, Nat.zero_le _, rfl, World.ownsRow_nil _ _ _ _, Below.refl _ _⟩
  case round =>
    obtain ⟨k, hk, rfl, ho, hbk⟩ := hrel
    by_cases hlt : k < n
    · have hkM : k < M.length := by rw [HN.out]; exact hlt
      obtain ⟨b, off, ra, rn, rc, rfl, hbs, hq0, hrn, hrm, hri⟩ := (HH.out.below hbk) k hkM
      have htk := HCT.out k hkM
      have hwd := HW.out M[k] (List.getElem_mem hkM)
      obtain rfl : rn = W := by omega
      obtain ⟨b2, off2, rfl, hbs2, hc2⟩ := hri j (by omega)
      have hxv : M[k][j]?.getD 0 = vec M[k] j := rfl
      rw [hxv] at hc2
      obtain ⟨x, hx⟩ : ∃ x, x = vec M[k] j := ⟨_, rfl⟩
      rw [← hx] at hc2 htk
      obtain ⟨la, lc, rfl⟩ := ownsRow_slice ho
      have HTK := hid htk
      have HO := hid ho
      have M1 := hid (show k + 1 ≤ maxLen by unfold maxLen; omega)
      have M2 := hid (show (k + 1) * 8 ≤ 140737488355328 by omega)
      have M3 := hid (Nat.le_trans hbk.size (le_alloc wr (.cells #[.int .i64 x] 3)))
      have HBK := hid hbk
      have hji : (j : Int) < (rn : Int) := by omega
      have hji0 : (0 : Int) ≤ (j : Int) := by omega
      clear htk hx hxv hwd hrn hrm hri ho hbk hkM hbs2
      go_wp2_with (at_builtin; refine wpList_app _ rfl (.tmp 14) (.tmp 19) 31 rfl w.heap.size 3 (.int .i64 0) 1 8 Try.underlying31 li_int rfl Nat.one_pos (.slice la k lc) k _ rfl (HO.out.alloc _) (some ⟨wr.heap.size, 0, none⟩) 1 1 [.int .i64 x] rfl rfl no_none (one_news wr _ _) (li_one _) M1.out M2.out M3.out ?_; refine Stop.of ?_)
      refine Stop.go ?_
      intro a3 c3 w3 own3 g3
      have hB3 : Below w.heap.size w w3 := (HBK.out.alloc HBK.out.size _).grown g3 M3.out (fun k hk => (HO.out.lt k hk).1)
      go_wp2
      refine ⟨⟨k + 1, by omega, by go_num, ?_, hB3⟩, by simp [intOf]; omega⟩
      rw [HTK.out]
      simpa using own3
    · obtain rfl : n = k := by omega
      rw [List.take_of_length_le (by rw [HCL.out, HN.out]; exact Nat.le_refl _)] at ho
      go_wp2
      go_ret
      exact ⟨_, rfl, ho, hbk⟩
end Go.Proofs.Ytfipebkhomppmaa
