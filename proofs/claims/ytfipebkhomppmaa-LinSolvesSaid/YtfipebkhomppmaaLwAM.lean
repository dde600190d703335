/- Walks of reference 02: listed, Shown, Read, Back. -/
import Derived.Test.YtfipebkhomppmaaLwAL
namespace Go.Proofs.Ytfipebkhomppmaa
open Go.RowKit
set_option linter.unusedVariables false

/-- the error of a list of so many numbers up to a bound -/
def listE (l : List Int) (len most : Int) : Int := if (l.length : Int) = len then (if l.all (fun n => inB n (-most) most) = true then 0 else 7) else 9

theorem r2listed_c (w : World) (a : Option Addr) (n cap : Nat) (l : List Int) (hn : l.length = n) (hm : n ≤ maxLen) (H : IntsAt w a l) (len most : Int) (h0 : 0 ≤ most) (h9 : most ≤ 1000000000) :
    Calls Try.prog 97 #[.slice a n cap, .int .i64 len, .int .i64 most] w fun e w' => e = .returned (.int .i64 (listE l len most)) ∧ w = w' := by
  have HN := hid hn
  have HH := hid H
  clear hn H
  unfold maxLen at hm
  by_cases hl : (n : Int) = len
  · have hd : ((n : Int) != len) = false := by simp [hl]
    have HL := hid hl
    clear hl
    go_enter Try.func97, Try.ntmps97
    go_wp2
    go_loop [15] (fun i => ∃ k : Nat, k ≤ n ∧ i = .int .i64 k ∧ ∀ j (hj : j < l.length), j < k → inB l[j] (-most) most = true) (fun i => n - (intOf i).toNat)
    case atStart => exact ⟨0, Nat.zero_le _, rfl, fun i _ h => by omega⟩
    case round =>
      obtain ⟨k, hk, rfl, hno⟩ := hrel
      have HNO := hid hno
      clear hno
      by_cases hlt : k < n
      · have hkl : k < l.length := by rw [HN.out]; exact hlt
        obtain ⟨b, off, rfl, hbs, hc⟩ := HH.out k hkl
        have hg : l[k]?.getD 0 = l[k] := by rw [List.getElem?_eq_getElem hkl]; rfl
        rw [hg] at hc
        obtain ⟨B, hB⟩ : ∃ B, B = inB l[k] (-most) most := ⟨_, rfl⟩
        have HW := hid (fun W => r2within_c l[k] (-most) most W)
        rw [← hB] at HW
        have HBB := hid hB
        have HKL := hid hkl
        clear hg hB
        cases B
        · go_wp2_with (go_at_call 121; refine (HW.out _).mono ?_; rintro e w1 ⟨rfl, rfl⟩)
          go_ret
          refine ⟨ret_int ?_, rfl⟩
          unfold listE
          rw [all_stop HKL.out HBB.out.symm, HN.out, if_pos HL.out]; simp
        · go_wp2_with (go_at_call 121; refine (HW.out _).mono ?_; rintro e w1 ⟨rfl, rfl⟩)
          go_round
          case rel =>
            refine ⟨k + 1, by omega, by go_num, fun j hj hjk => ?_⟩
            by_cases e : j = k
            · subst e; exact HBB.out.symm
            · exact HNO.out j hj (by omega)
          case measure => simp [intOf]; omega
      · go_wp2
        go_ret
        refine ⟨ret_int ?_, rfl⟩
        unfold listE
        rw [HN.out, if_pos HL.out, all_done (fun j hj => HNO.out j hj (by have := HN.out; omega))]; simp
  · have hd : ((n : Int) != len) = true := by simp [hl]
    have HL := hid hl
    clear hl
    go_enter Try.func97, Try.ntmps97
    go_wp2
    go_ret
    exact ⟨ret_int (by unfold listE; rw [HN.out, if_neg HL.out]), rfl⟩


/-- a shown picture -/
def okShown (M : Mask) (x : List Int) : Bool := okM M && (decide (x.length = colsM M) && milB x)
theorem listE_shown {M : Mask} (hM : okM M = true) (x : List Int) : (listE x (colsM M) 1000000 == 0) = okShown M x := by
  unfold listE okShown milB
  rw [hM]
  by_cases h : x.length = colsM M
  · rw [if_pos (by omega), decide_eq_true h]
    cases h2 : x.all (fun n => inB n (-1000000) 1000000) <;> rfl
  · rw [if_neg (by omega), decide_eq_false h]; rfl
theorem listE_ok {l : List Int} {len most : Int} (h1 : (l.length : Int) = len) (h2 : l.all (fun n => inB n (-most) most) = true) : listE l len most = 0 := by
  unfold listE; rw [if_pos h1, if_pos h2]

theorem r2Shown_c (w : World) (a : Option Addr) (n cap : Nat) (M : Mask) (hn : M.length = n) (hm : n ≤ maxLen) (H : RowsAt w a M) (a2 : Option Addr) (n2 cap2 : Nat) (x : List Int) (hn2 : x.length = n2) (hm2 : n2 ≤ maxLen) (H2 : IntsAt w a2 x) :
    Calls Try.prog 44 #[.slice a n cap, .slice a2 n2 cap2] w fun e w' => e = .returned (.bool (okShown M x)) ∧ w = w' := by
  have HV := hid (r2Valid_c w a n cap M hn hm H)
  cases hv : okM M
  · rw [hv] at HV
    have HE := hid hv
    clear hv hn H hn2 H2
    go_enter Try.func44, Try.ntmps44
    go_wp2_with (go_at_call 64; refine HV.out.mono ?_; rintro e w1 ⟨rfl, rfl⟩)
    go_ret
    exact ⟨ret_bool (by unfold okShown; rw [HE.out]; simp), rfl⟩
  · rw [hv] at HV
    obtain ⟨hM, h1, h6, hc1, hc10⟩ := okM_ok hv
    obtain ⟨b, off, ra, rc, rfl, hb, hc⟩ := rows_head H (by omega)
    have HL := hid (r2listed_c w a2 n2 cap2 x hn2 hm2 H2 ((colsM M : Nat) : Int) 1000000 (by omega) (by omega))
    have HS := hid (listE_shown hv x)
    obtain ⟨W, hW⟩ : ∃ W, W = colsM M := ⟨_, rfl⟩
    rw [← hW] at HL HS hc
    obtain ⟨E, hE⟩ : ∃ E, E = listE x W 1000000 := ⟨_, rfl⟩
    rw [← hE] at HL HS
    have hc0 : w.cell? ⟨b, off, none⟩ = some (.slice ra W rc) := hc
    have h0 : (0 : Int) < (n : Int) := by omega
    clear hv hn H hn2 H2 hE hW hM hc h1 h6
    go_enter Try.func44, Try.ntmps44
    go_wp2_with (first | (go_at_call 64; refine HV.out.mono ?_; rintro e w1 ⟨rfl, rfl⟩) | (go_at_call 97; refine HL.out.mono ?_; rintro e w1 ⟨rfl, rfl⟩))
    go_ret
    exact ⟨ret_bool (by rw [← HS.out]), rfl⟩

set_option maxHeartbeats 2000000 in
/-- Read of the reference, of a shown picture -/
theorem r2Read_c (w : World) (a a2 : Option Addr) (n cap n2 cap2 : Nat) (M : Mask) (x : List Int) (hn : M.length = n) (hn2 : x.length = n2) (H : RowsAt w a M) (H2 : IntsAt w a2 x) (hok : okM M = true) (hx2 : x.length = colsM M) (hx : milB x = true) :
    Calls Try.prog 45 #[.slice a n cap, .slice a2 n2 cap2] w fun e w' => ∃ v, e = .returned (.tuple #[v, .int .i64 0]) ∧ w'.ownsRow w.heap.size 3 1 v n ((readV M x).map (Value.int .i64)) ∧ Below w.heap.size w w' := by
  obtain ⟨hM, h1, h6, hc1, hc10⟩ := okM_ok hok
  obtain ⟨b, off, ra, rc, rfl, hb, hc⟩ := rows_head H (by omega)
  have hn6 : n ≤ 6 := by omega
  have hni : (0 : Int) < (n : Int) := by omega
  have HV := hid (r2Valid_c w (some ⟨b, off, none⟩) n cap M hn (by unfold maxLen; omega) H)
  rw [hok] at HV
  have HL := hid (r2listed_c w a2 n2 cap2 x hn2 (by unfold maxLen; omega) H2 ((colsM M : Nat) : Int) 1000000 (by omega) (by omega))
  rw [listE_ok (by omega) hx] at HL
  obtain ⟨W, hW⟩ : ∃ W, W = colsM M := ⟨_, rfl⟩
  rw [← hW] at hc hc1 hc10 hM HL hx2
  have hc0 : w.cell? ⟨b, off, none⟩ = some (.slice ra W rc) := hc
  have hwx : n2 = W := by omega
  subst hwx
  have HRR := hid (fun (X : World) (hX : Below w.heap.size w X) => H.below hX)
  have HDT := hid (fun (X : World) (hX : Below w.heap.size w X) (r : List Int) (hr : r ∈ M) (a5 : Option Addr) (c5 : Nat) (hi : IntsAt X a5 r) => r2dot_c X a5 a2 n2 c5 n2 cap2 r x (hM.wid r hr) hn2 (by omega) (Nat.le_refl _) hi (H2.below hX) (one_bnd hM r hr) (mil_bnd hx))
  have HWID := hid hM.wid
  have HN := hid hn
  have HTK := hid (fun (k : Nat) (hk : k < M.length) => readV_take hk x)
  have HBL := hid (show (readV M x).length = n by simp [readV]; exact hn)
  obtain ⟨Bk, hBk⟩ : ∃ B, B = readV M x := ⟨_, rfl⟩
  rw [← hBk] at HTK HBL ⊢
  clear hn H H2 hok hx hM hW hBk hc h1 h6 hb hx2 hn2
  go_enter Try.func45, Try.ntmps45
  go_wp2_with (first | (go_at_call 64; refine HV.out.mono ?_; rintro e w1 ⟨rfl, rfl⟩) | (go_at_call 97; refine HL.out.mono ?_; rintro e w1 ⟨rfl, rfl⟩))
  go_loopw [7, 24] (fun v i wr => ∃ k : Nat, k ≤ n ∧ i = .int .i64 k ∧ wr.ownsRow w.heap.size 3 1 v k ((Bk.take k).map (Value.int .i64)) ∧ Below w.heap.size w wr) (fun _ i _ => n - (intOf i).toNat)
  case atStart => exact ⟨0, Nat.zero_le _, rfl, World.ownsRow_nil _ _ _ _, Below.refl _ _⟩
  case round =>
    obtain ⟨k, hk, rfl, ho, hbk⟩ := hrel
    by_cases hlt : k < n
    · have hkM : k < M.length := by rw [HN.out]; exact hlt
      have htk := HTK.out k hkM
      obtain ⟨b5, o5, ra5, rn5, rc5, e5, hbs, hq0, hrn, hrm, hri⟩ := (HRR.out wr hbk) k hkM
      cases e5
      obtain rfl : rn5 = n2 := by rw [← hrn]; exact HWID.out _ (List.getElem_mem hkM)
      have HD := hid (HDT.out wr hbk M[k] (List.getElem_mem hkM) ra5 rc5 hri)
      obtain ⟨la, lc, rfl⟩ := ownsRow_slice ho
      obtain ⟨y, hy⟩ : ∃ y, y = dotV M[k] x := ⟨_, rfl⟩
      rw [← hy] at HD htk
      have HTKK := hid htk
      have HO := hid ho
      have HBK := hid hbk
      have M1 := hid (show k + 1 ≤ maxLen by unfold maxLen; omega)
      have M2 := hid (show (k + 1) * 8 ≤ 140737488355328 by omega)
      have hki : (k : Int) < (n : Int) := by omega
      clear ho hbk htk hy hrn hri hkM
      go_wp2_with (go_at_call 47; refine HD.out.mono ?_; rintro e w4 ⟨rfl, q4, rfl⟩; refine Stop.of ?_)
      refine Stop.go ?_
      have hb4 : Below wr.heap.size wr (wr.drewN q4) := below_drewN (Below.refl _ _) q4
      have HO4 := hid (own_below HO.out hb4)
      have HB4 := hid (chain HBK.out hb4)
      have M3 := hid (Nat.le_trans HB4.out.size (le_alloc (wr.drewN q4) (.cells #[.int .i64 y] 3)))
      clear hb4
      generalize wr.drewN q4 = w4 at HO4 HB4 M3 ⊢
      go_wp2_with (at_builtin; refine wpList_app _ rfl (.tmp 28) (.tmp 32) 31 rfl w.heap.size 3 (.int .i64 0) 1 8 Try.underlying31 li_int rfl Nat.one_pos (.slice la k lc) k _ rfl (HO4.out.alloc _) (some ⟨w4.heap.size, 0, none⟩) 1 1 [.int .i64 y] rfl rfl no_none (one_news w4 _ _) (li_one _) M1.out M2.out M3.out ?_; refine Stop.of ?_)
      refine Stop.go ?_
      intro a6 c6 w6 own6 g6
      have hB6 : Below w.heap.size w w6 := (HB4.out.alloc HB4.out.size _).grown g6 M3.out (fun k hk => (HO4.out.lt k hk).1)
      go_wp2
      refine ⟨⟨k + 1, by omega, by go_num, ?_, hB6⟩, by simp [intOf]; omega⟩
      rw [HTKK.out]
      simpa using own6
    · obtain rfl : n = k := by omega
      rw [List.take_of_length_le (by rw [HBL.out]; exact Nat.le_refl _)] at ho
      have HO := hid ho
      have HB := hid hbk
      clear ho hbk
      go_wp2
      go_ret2
      exact ⟨_, rfl, HO.out, HB.out⟩

set_option maxHeartbeats 2000000 in
/-- Back of the reference -/
theorem r2Back_c (w : World) (a a2 : Option Addr) (n cap cap2 : Nat) (M : Mask) (z : List Int) (hn : M.length = n) (hn2 : z.length = n) (H : RowsAt w a M) (H2 : IntsAt w a2 z) (hok : okM M = true) (hz : milB z = true) :
    Calls Try.prog 46 #[.slice a n cap, .slice a2 n cap2] w fun e w' => ∃ v, e = .returned (.tuple #[v, .int .i64 0]) ∧ w'.ownsRow w.heap.size 3 1 v (colsM M) ((backF M (colsM M) z).map (Value.int .i64)) ∧ Below w.heap.size w w' := by
  obtain ⟨hM, h1, h6, hc1, hc10⟩ := okM_ok hok
  obtain ⟨b, off, ra, rc, rfl, hb, hc⟩ := rows_head H (by omega)
  have hn6 : n ≤ 6 := by omega
  have hni : (0 : Int) < (n : Int) := by omega
  have HV := hid (r2Valid_c w (some ⟨b, off, none⟩) n cap M hn (by unfold maxLen; omega) H)
  rw [hok] at HV
  have HL := hid (r2listed_c w a2 n cap2 z hn2 (by unfold maxLen; omega) H2 (n : Int) 1000000000 (by omega) (by omega))
  rw [listE_ok (by omega) (mil_bil hz)] at HL
  obtain ⟨W, hW⟩ : ∃ W, W = colsM M := ⟨_, rfl⟩
  rw [← hW] at hc hc1 hc10 hM ⊢
  have hc0 : w.cell? ⟨b, off, none⟩ = some (.slice ra W rc) := hc
  have HCO := hid (fun (X : World) (hX : Below w.heap.size w X) (j : Nat) (hj : j < W) => r2column_c X (some ⟨b, off, none⟩) n cap M hn (by omega) (H.below hX) hM.wid j hj)
  have HTI := hid (fun (X : World) (hX : Below w.heap.size w X) (j : Nat) (a5 : Option Addr) (c5 : Nat) (hi : IntsAt X a5 (colV M j)) => r2dot_c X a5 a2 n c5 n cap2 (colV M j) z (by rw [colV_len]; exact hn) hn2 (by omega) (Nat.le_refl _) hi (H2.below hX) (colV_bnd hM j) (mil_bnd hz))
  have HCL := hid (fun j => (colV_len M j).trans hn)
  have HTK := hid (fun (k : Nat) (hk : k < W) => backF_take M z hk)
  have HBL := hid (backF_len M W z)
  obtain ⟨Bk, hBk⟩ : ∃ B, B = backF M W z := ⟨_, rfl⟩
  rw [← hBk] at HTK HBL ⊢
  clear hn hn2 H H2 hok hz hM hW hBk hc h1 h6
  go_enter Try.func46, Try.ntmps46
  go_wp2_with (first | (go_at_call 64; refine HV.out.mono ?_; rintro e w1 ⟨rfl, rfl⟩) | (go_at_call 97; refine HL.out.mono ?_; rintro e w1 ⟨rfl, rfl⟩))
  go_loopw [7, 23] (fun v i wr => ∃ k : Nat, k ≤ W ∧ i = .int .i64 k ∧ wr.ownsRow w.heap.size 3 1 v k ((Bk.take k).map (Value.int .i64)) ∧ Below w.heap.size w wr) (fun _ i _ => W - (intOf i).toNat)
  case atStart => exact ⟨0, Nat.zero_le _, rfl, World.ownsRow_nil _ _ _ _, Below.refl _ _⟩
  case round =>
    obtain ⟨k, hk, rfl, ho, hbk⟩ := hrel
    by_cases hlt : k < W
    · have htk := HTK.out k hlt
      have HC1 := hid (HCO.out wr hbk k hlt)
      obtain ⟨la, lc, rfl⟩ := ownsRow_slice ho
      have HO := hid ho
      have HBK := hid hbk
      have HTKK := hid htk
      clear ho hbk htk
      go_wp2_with (go_at_call 98; refine HC1.out.mono ?_; rintro e w3 ⟨v3, rfl, ho3, hb3⟩; refine Stop.of ?_)
      refine Stop.go ?_
      obtain ⟨ca, cc, rfl, hci, _⟩ := ints_of_own ho3 (HCL.out k)
      have HT1 := hid (HTI.out w3 (chain HBK.out hb3) k ca cc hci)
      have HB3 := hid (chain HBK.out hb3)
      have HO3 := hid (own_below HO.out hb3)
      obtain ⟨x, hx⟩ : ∃ x, x = dotV (colV M k) z := ⟨_, rfl⟩
      rw [← hx] at HT1 HTKK
      have M1 := hid (show k + 1 ≤ maxLen by unfold maxLen; omega)
      have M2 := hid (show (k + 1) * 8 ≤ 140737488355328 by omega)
      clear ho3 hci hb3 hx HC1
      go_wp2_with (go_at_call 47; refine HT1.out.mono ?_; rintro e w4 ⟨rfl, q4, rfl⟩; refine Stop.of ?_)
      refine Stop.go ?_
      have hb4 : Below w3.heap.size w3 (w3.drewN q4) := below_drewN (Below.refl _ _) q4
      have HO4 := hid (own_below HO3.out hb4)
      have HB4 := hid (chain HB3.out hb4)
      have M3 := hid (Nat.le_trans HB4.out.size (le_alloc (w3.drewN q4) (.cells #[.int .i64 x] 3)))
      clear hb4
      generalize w3.drewN q4 = w4 at HO4 HB4 M3 ⊢
      go_wp2_with (at_builtin; refine wpList_app _ rfl (.tmp 26) (.tmp 32) 31 rfl w.heap.size 3 (.int .i64 0) 1 8 Try.underlying31 li_int rfl Nat.one_pos (.slice la k lc) k _ rfl (HO4.out.alloc _) (some ⟨w4.heap.size, 0, none⟩) 1 1 [.int .i64 x] rfl rfl no_none (one_news w4 _ _) (li_one _) M1.out M2.out M3.out ?_; refine Stop.of ?_)
      refine Stop.go ?_
      intro a5 c5 w5 own5 g5
      have hB5 : Below w.heap.size w w5 := (HB4.out.alloc HB4.out.size _).grown g5 M3.out (fun k hk => (HO4.out.lt k hk).1)
      go_wp2
      refine ⟨⟨k + 1, by omega, by go_num, ?_, hB5⟩, by simp [intOf]; omega⟩
      rw [HTKK.out]
      simpa using own5
    · obtain rfl : W = k := by omega
      rw [List.take_of_length_le (by rw [HBL.out]; exact Nat.le_refl _)] at ho
      have HO := hid ho
      have HB := hid hbk
      clear ho hbk
      go_wp2
      go_ret2
      exact ⟨_, rfl, HO.out, HB.out⟩
end Go.Proofs.Ytfipebkhomppmaa
