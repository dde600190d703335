/- Walks: listed, Back (mask), listed, Shown, Read, Back (reference 02). -/
import Derived.Test.YtfipebkhomppmaaLwAK
namespace Go.Proofs.Ytfipebkhomppmaa
open Go.RowKit
set_option linter.unusedVariables false

theorem mlisted1 (w : World) (b : Nat) (hb : b < w.heap.size) (hc : w.cell? ⟨b, 0, none⟩ = some (.int .i64 1000000000)) : PredI Try.prog 171 #[.pointer (some ⟨b, 0, none⟩)] w (fun n => inB n (-1000000000) 1000000000) := by
  intro x W hbw
  have hc' : W.cell? ⟨b, 0, none⟩ = some (.int .i64 1000000000) := (hbw.cell (p := ⟨b, 0, none⟩) hb).trans hc
  go_enter Try.func171, Try.ntmps171
  go_wp2_with (go_at_call 123; refine (mwithin_c _ _ _ _).mono ?_; rintro e w1 ⟨rfl, rfl⟩)
  go_ret
  exact ⟨rfl, Below.refl _ _⟩
def bilB (l : List Int) : Bool := l.all (fun n => inB n (-1000000000) 1000000000)
theorem mil_bil {l : List Int} (h : milB l = true) : bilB l = true := List.all_eq_true.2 fun x hx => by
  have := mil_le h x hx
  unfold inB
  simp only [Bool.and_eq_true, decide_eq_true_eq]
  omega
theorem mlisted_c (w : World) (a : Option Addr) (n cap : Nat) (M : Mask) (hn : M.length = n) (hm : n ≤ maxLen) (H : RowsAt w a M) (a2 : Option Addr) (n2 cap2 : Nat) (x : List Int) (hn2 : x.length = n2) (hm2 : n2 ≤ maxLen) (H2 : IntsAt w a2 x)
    (hok : okM M = true) (hx : bilB x = true) (g : Nat) (lb : Array Value) (eg : ∀ args w, (callFunc g args).run Try.prog w = .ok (.enter g args) w) (hg : ∀ W, Below w.heap.size w W → Calls Try.prog g lb W fun e W' => e = .returned (.int .i64 n2) ∧ W = W') :
    Calls Try.prog 158 #[.slice a n cap, .slice a2 n2 cap2, .func (.func g) #[] lb, .int .i64 1000000000] w fun e w' => e = .returned (.int .i64 0) ∧ Below w.heap.size w w' := by
  have hb0 : Below w.heap.size w (w.alloc (.cells #[.int .i64 1000000000] 3)) := (Below.refl _ _).alloc (Nat.le_refl _) _
  have hmf : ∀ (fn : Fn) (first cap : Array Value) (w : World), (Instr.makeFunc fn first cap).run Try.prog w = .ok (.func fn first cap) w := fun _ _ _ _ => rfl
  have HV := hid (maskValid_c (w.alloc (.cells #[.int .i64 1000000000] 3)) a n cap M hn hm (H.below hb0))
  have HA := hid (fun (W : World) (hb : Below w.heap.size w W) (hs : w.heap.size < W.heap.size) (hc : W.cell? ⟨w.heap.size, 0, none⟩ = some (.int .i64 1000000000)) => allI_c W a2 n2 cap2 x hn2 hm2 (H2.below hb) 171 #[.pointer (some ⟨w.heap.size, 0, none⟩)] _ (enters_of Try.func171 (by kernel_rfl) rfl) (mlisted1 W w.heap.size hs hc))
  have hcell : ∀ W, Below (w.alloc (.cells #[.int .i64 1000000000] 3)).heap.size (w.alloc (.cells #[.int .i64 1000000000] 3)) W → w.heap.size < W.heap.size ∧ W.cell? ⟨w.heap.size, 0, none⟩ = some (.int .i64 1000000000) := fun W hb => by
    have h1 := hb.size
    simp at h1
    refine ⟨by omega, (hb.cell (p := ⟨w.heap.size, 0, none⟩) (by simp)).trans ?_⟩
    rw [World.cell?_alloc_at _ _ _ _ rfl]; rfl
  have HC := hid hcell
  have HG2 := hid hg
  have HB := hid hb0
  have hd : ((n2 : Int) != (n2 : Int)) = false := by simp
  rw [hok] at HV
  have hx' : x.all (fun n => inB n (-1000000000) 1000000000) = true := hx
  rw [hx'] at HA
  clear hn H H2 hcell hg hn2 hb0 hok hx hx'
  go_enter Try.func158, Try.ntmps158
  go_wp2_with (first | (go_at_call 69; refine HV.out.mono ?_; rintro e w1 ⟨rfl, hb1⟩) | (go_at_call 151; refine (HA.out _ (chain HB.out hb1) (HC.out _ hb1).1 (HC.out _ hb1).2).mono ?_; rintro e w2 ⟨rfl, hb2⟩) | (refine (HG2.out _ (chain HB.out hb1)).mono ?_; rintro e w3 ⟨rfl, rfl⟩))
  go_ret
  exact ⟨rfl, chain (chain HB.out hb1) hb2⟩

theorem back1 (w : World) (b : Nat) (a : Option Addr) (n cap : Nat) (hb : b < w.heap.size) (hc : w.cell? ⟨b, 0, none⟩ = some (.slice a n cap)) (W : World) (hbw : Below w.heap.size w W) :
    Calls Try.prog 159 #[.pointer (some ⟨b, 0, none⟩)] W fun e W' => e = .returned (.int .i64 n) ∧ W = W' := by
  have hc' : W.cell? ⟨b, 0, none⟩ = some (.slice a n cap) := (hbw.cell (p := ⟨b, 0, none⟩) hb).trans hc
  go_enter Try.func159, Try.ntmps159
  go_wp2
  go_ret
  exact ⟨rfl, rfl⟩

set_option maxHeartbeats 2000000 in
theorem mback_c (w : World) (a a2 : Option Addr) (n cap cap2 : Nat) (M : Mask) (z : List Int) (hn : M.length = n) (hn2 : z.length = n) (H : RowsAt w a M) (H2 : IntsAt w a2 z) (hok : okM M = true) (hz : milB z = true) :
    Calls Try.prog 139 #[.slice a n cap, .slice a2 n cap2] w fun e w' => ∃ v base, e = .returned (.tuple #[v, .int .i64 0]) ∧ w'.ownsRow base 3 1 v (colsM M) ((backF M (colsM M) z).map (Value.int .i64)) ∧ Below w.heap.size w w' := by
  obtain ⟨hM, h1, h6, hc1, hc10⟩ := okM_ok hok
  obtain ⟨b, off, ra, rc, rfl, hb, hc⟩ := rows_head H (by omega)
  have hn6 : n ≤ 6 := by omega
  have hni : (0 : Int) < (n : Int) := by omega
  obtain ⟨w1, hw1⟩ : ∃ w1, w1 = w.alloc (.cells #[.slice (some ⟨b, off, none⟩) n cap] 23) := ⟨_, rfl⟩
  have hb1 : Below w.heap.size w w1 := by rw [hw1]; exact (Below.refl _ _).alloc (Nat.le_refl _) _
  have hs1 : w.heap.size < w1.heap.size := by rw [hw1]; simp
  have hbx : w1.cell? ⟨w.heap.size, 0, none⟩ = some (.slice (some ⟨b, off, none⟩) n cap) := by rw [hw1, World.cell?_alloc_at _ _ _ _ rfl]; rfl
  have HL := hid (mlisted_c w1 (some ⟨b, off, none⟩) n cap M hn (by unfold maxLen; omega) (H.below hb1) a2 n cap2 z hn2 (by unfold maxLen; omega) (H2.below hb1) hok (mil_bil hz) 159 #[.pointer (some ⟨w.heap.size, 0, none⟩)] (enters_of Try.func159 (by kernel_rfl) rfl) (back1 w1 w.heap.size _ n cap hs1 hbx))
  have HBX := hid (fun (X : World) (hX : Below w1.heap.size w1 X) => (hX.cell (p := ⟨w.heap.size, 0, none⟩) hs1).trans hbx)
  obtain ⟨W, hW⟩ : ∃ W, W = colsM M := ⟨_, rfl⟩
  rw [← hW] at hc hc1 hc10 hM ⊢
  have HS := hid (fun (X : World) (hX : Below w1.heap.size w1 X) => show X.cell? ⟨b, off, none⟩ = some (.slice ra W rc) from ((chain hb1 hX).cell (p := ⟨b, off, none⟩) hb).trans hc)
  have HCO := hid (fun (X : World) (hX : Below w1.heap.size w1 X) (j : Nat) (hj : j < W) => mcolumn_c X (some ⟨b, off, none⟩) n cap M hn (by omega) (H.below (chain hb1 hX)) hM.wid j hj)
  have HTI := hid (fun (X : World) (hX : Below w1.heap.size w1 X) (j : Nat) (a5 : Option Addr) (c5 : Nat) (hi : IntsAt X a5 (colV M j)) => mtimes_c X a5 a2 n c5 n cap2 (colV M j) z (by rw [colV_len]; exact hn) hn2 (by omega) (Nat.le_refl _) hi (H2.below (chain hb1 hX)) (colV_bnd hM j) (mil_bnd hz))
  have HCL := hid (fun j => (colV_len M j).trans hn)
  have HTK := hid (fun (k : Nat) (hk : k < W) => backF_take M z hk)
  have HBL := hid (backF_len M W z)
  obtain ⟨Bk, hBk⟩ : ∃ B, B = backF M W z := ⟨_, rfl⟩
  rw [← hBk] at HTK HBL ⊢
  have HB1 := hid hb1
  have HW1 := hid hw1
  rw [hw1] at HL
  clear hn hn2 H H2 hok hz hM hW hBk hc hb1 hw1 h1 h6
  go_enter Try.func139, Try.ntmps139
  go_wp2_with (go_at_call 158; refine HL.out.mono ?_; rintro e w2 ⟨rfl, hb2⟩; refine Stop.of ?_)
  refine Stop.go ?_
  rw [← HW1.out] at hb2
  have hbx2 := HBX.out w2 hb2
  have hc2 := HS.out w2 hb2
  have HB2 := hid hb2
  clear hb2 HL
  go_wp2
  go_loopw [7, 20] (fun v i wr => ∃ k : Nat, k ≤ W ∧ i = .int .i64 k ∧ wr.ownsRow w2.heap.size 3 1 v k ((Bk.take k).map (Value.int .i64)) ∧ Below w2.heap.size w2 wr) (fun _ i _ => W - (intOf i).toNat)
  case atStart => exact ⟨0, Nat.zero_le _, rfl, World.ownsRow_nil _ _ _ _, Below.refl _ _⟩
  case round =>
    obtain ⟨k, hk, rfl, ho, hbk⟩ := hrel
    by_cases hlt : k < W
    · have htk := HTK.out k hlt
      have hbx3 := HBX.out wr (chain HB2.out hbk)
      have HC1 := hid (HCO.out wr (chain HB2.out hbk) k hlt)
      obtain ⟨la, lc, rfl⟩ := ownsRow_slice ho
      have HO := hid ho
      have HBK := hid hbk
      have HTKK := hid htk
      clear ho hbk htk
      go_wp2_with (go_at_call 161; refine HC1.out.mono ?_; rintro e w3 ⟨v3, rfl, ho3, hb3⟩; refine Stop.of ?_)
      refine Stop.go ?_
      obtain ⟨ca, cc, rfl, hci, _⟩ := ints_of_own ho3 (HCL.out k)
      have HT1 := hid (HTI.out w3 (chain HB2.out (chain HBK.out hb3)) k ca cc hci)
      have HB3 := hid (chain HBK.out hb3)
      have HO3 := hid (own_below HO.out hb3)
      obtain ⟨x, hx⟩ : ∃ x, x = dotV (colV M k) z := ⟨_, rfl⟩
      rw [← hx] at HT1 HTKK
      have M1 := hid (show k + 1 ≤ maxLen by unfold maxLen; omega)
      have M2 := hid (show (k + 1) * 8 ≤ 140737488355328 by omega)
      have M3 := hid (Nat.le_trans HB3.out.size (le_alloc w3 (.cells #[.int .i64 x] 3)))
      clear ho3 hci hb3 hx HC1
      go_wp2_with (go_at_call 160; refine HT1.out.mono ?_; rintro e w4 ⟨rfl, rfl⟩; refine Stop.of ?_)
      refine Stop.go ?_
      go_wp2_with (at_builtin; refine wpList_app _ rfl (.tmp 23) (.tmp 29) 31 rfl w2.heap.size 3 (.int .i64 0) 1 8 Try.underlying31 li_int rfl Nat.one_pos (.slice la k lc) k _ rfl (HO3.out.alloc _) (some ⟨w3.heap.size, 0, none⟩) 1 1 [.int .i64 x] rfl rfl no_none (one_news w3 _ _) (li_one _) M1.out M2.out M3.out ?_; refine Stop.of ?_)
      refine Stop.go ?_
      intro a5 c5 w5 own5 g5
      have hB5 : Below w2.heap.size w2 w5 := (HB3.out.alloc HB3.out.size _).grown g5 M3.out (fun k hk => (HO3.out.lt k hk).1)
      go_wp2
      refine ⟨⟨k + 1, by omega, by go_num, ?_, hB5⟩, by simp [intOf]; omega⟩
      rw [HTKK.out]
      simpa using own5
    · obtain rfl : W = k := by omega
      rw [List.take_of_length_le (by rw [HBL.out]; exact Nat.le_refl _)] at ho
      have HO := hid ho
      have HB := hid (chain HB1.out (chain HB2.out hbk))
      clear ho hbk
      go_wp2
      go_ret2
      exact ⟨_, w2.heap.size, rfl, HO.out, HB.out⟩
end Go.Proofs.Ytfipebkhomppmaa
