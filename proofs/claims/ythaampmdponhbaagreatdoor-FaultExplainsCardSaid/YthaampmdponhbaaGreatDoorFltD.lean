/- Walk of mask.Format, and what its text says. -/
import Derived.Test.YthaampmdponhbaaGreatDoorFltC
import Derived.Test.YthaampmdponhbaaGreatDoorFltA
namespace Go.Proofs.YthaampmdponhbaaGreatDoor
open Go.RowKit Go.Shelf
set_option linter.unusedVariables false

/-- the sign of a number of a mask -/
def sgnB (n : Int) : UInt8 := if n = -1 then 45 else if n = 0 then 46 else 43
/-- the text of a mask -/
def fmtM (M : Mask) : List UInt8 := M.flatMap (fun r => r.map sgnB ++ [10])
def textM (M : Mask) : List UInt8 := if okM M = true then fmtM M else []

theorem fmtM_take (M : Mask) (k : Nat) (hk : k < M.length) : fmtM (M.take (k + 1)) = fmtM (M.take k) ++ M[k].map sgnB ++ [10] := by
  unfold fmtM
  rw [List.take_succ_eq_append_getElem hk, List.flatMap_append]
  simp
theorem row_take (r : List Int) (j : Nat) (hj : j < r.length) : (r.take (j + 1)).map sgnB = (r.take j).map sgnB ++ [sgnB (r[j]?.getD 0)] := by
  rw [List.take_succ_eq_append_getElem hj, List.map_append, List.getElem?_eq_getElem hj]; rfl
theorem fmtM_length (M : Mask) (c : Nat) (h : ∀ r ∈ M, r.length ≤ c) : (fmtM M).length ≤ M.length * (c + 1) := by
  induction M with
  | nil => simp [fmtM]
  | cons r M ih =>
    have h1 := h r (by simp)
    have h2 := ih (fun s hs => h s (by simp [hs]))
    have e : fmtM (r :: M) = r.map sgnB ++ [10] ++ fmtM M := by simp [fmtM]
    rw [e]
    simp only [List.length_append, List.length_map, List.length_cons, List.length_nil]
    rw [Nat.add_mul]; omega

theorem byte_snoc (l : List UInt8) (c : UInt8) (n : Int) (h : (c.toNat : Int) = n) : Lib.byteCells l ++ [Value.int .u8 n] = Lib.byteCells (l ++ [c]) := by
  subst h; simp [Lib.byteCells]

set_option maxHeartbeats 4000000 in
set_option maxRecDepth 100000 in
theorem maskFormat_c (w : World) (a : Option Addr) (n cap : Nat) (M : Mask) (hn : M.length = n) (hm : n ≤ maxLen) (H : RowsAt w a M) :
    Calls Tryz.prog 82 #[.slice a n cap] w fun e w' => e = .returned (.string ⟨(textM M).toArray⟩) ∧ Below w.heap.size w w' := by
  have HV := hid (maskValid_c w a n cap M hn hm H)
  cases hv : okM M
  · rw [hv] at HV
    have HE := hid hv
    clear hv hn H
    go_enter Tryz.func82, Tryz.ntmps82
    go_wp2_with (go_at_call 62; refine HV.out.mono ?_; rintro e w1 ⟨rfl, hb1⟩)
    go_ret
    exact ⟨by unfold textM; rw [HE.out]; rfl, hb1⟩
  · rw [hv] at HV
    obtain ⟨m1, m6, c1, c10, hrows⟩ := okM_len hv
    have HE := hid hv
    have HN := hid hn
    have HH := hid H
    have HR := hid hrows
    have hn6 : n ≤ 6 := by omega
    clear hv hn H hrows c1 c10 m1 m6
    go_enter Tryz.func82, Tryz.ntmps82
    go_wp2_with (go_at_call 62; refine HV.out.mono ?_; rintro e w1 ⟨rfl, hb1⟩)
    go_loopw [13] (fun i wr => ∃ k : Nat, k ≤ n ∧ i = .int .i64 k ∧ Lib.IsBuilder 90 5 w1.heap.size w1.heap.size (Lib.byteCells (fmtM (M.take k))) wr ∧ Below w1.heap.size w1 wr) (fun i _ => n - (intOf i).toNat)
    case atStart => exact ⟨0, Nat.zero_le _, rfl, Lib.fresh_isBuilder _ _ w1, (Below.refl _ _).alloc (Nat.le_refl _) _⟩
    case round =>
      obtain ⟨k, hk, rfl, hI, hbk⟩ := hrel
      by_cases hlt : k < n
      · have hkM : k < M.length := by rw [HN.out]; exact hlt
        have hbw := chain hb1 hbk
        obtain ⟨b, off, ra, rn, rc, rfl, hbs, hq0w, hrn, hrm, hri⟩ := HH.out k hkM
        have hq0 : wr.cell? ⟨b, off + k, none⟩ = some (.slice ra rn rc) := (hbw.cell (p := ⟨b, off + k, none⟩) hbs).trans hq0w
        have hrow := HR.out M[k] (List.getElem_mem hkM)
        have htk := fmtM_take M k hkM
        have hlen := fmtM_length (M.take k) 10 (fun r hr => by have := (HR.out r (List.mem_of_mem_take hr)).1; have := (okM_len HE.out).2.2.2.1; omega)
        have hcol := (okM_len HE.out).2.2.2.1
        obtain ⟨r, hr⟩ : ∃ r, r = M[k] := ⟨_, rfl⟩
        obtain ⟨T, hT⟩ : ∃ T, T = fmtM (M.take k) := ⟨_, rfl⟩
        rw [← hr] at hrn hri hrow htk
        rw [← hT] at htk hlen hI
        have hT66 : T.length ≤ 66 := by
          rw [List.length_take] at hlen
          have : min k M.length ≤ 6 := by omega
          calc T.length ≤ min k M.length * (10 + 1) := hlen
            _ ≤ 6 * 11 := Nat.mul_le_mul this (Nat.le_refl _)
        have hr10 : rn ≤ 10 := by omega
        have HTK := hid htk
        have HRow := hid hrow
        have HRI := hid hri
        have HRN := hid hrn
        have hI' := hid hI
        obtain ⟨wk, hwk⟩ : ∃ wk, wk = wr := ⟨_, rfl⟩
        rw [← hwk] at hbk hbw hI' hq0 ⊢
        clear htk hrow hri hrn hlen hcol hT hkM hI hq0w hwk hr
        go_wp2
        go_loopw [19] (fun i wr => ∃ j : Nat, j ≤ rn ∧ i = .int .i64 j ∧ Lib.IsBuilder 90 5 w1.heap.size w1.heap.size (Lib.byteCells (T ++ (r.take j).map sgnB)) wr ∧ Below w1.heap.size w1 wr) (fun i _ => rn - (intOf i).toNat)
        case atStart => exact ⟨0, Nat.zero_le _, rfl, by simpa using hI'.out, hbk⟩
        case round =>
          obtain ⟨j, hj, rfl, hJ, hbj⟩ := hrel
          have hjM : (Lib.byteCells (T ++ (r.take j).map sgnB)).length ≤ 1000 := by
            rw [Lib.byteCells_length, List.length_append, List.length_map, List.length_take]; omega
          by_cases hjl : j < rn
          · have hjr : j < r.length := by rw [HRN.out]; exact hjl
            have hrt := row_take r j hjr
            have hv3 := HRow.out.2 r[j] (List.getElem_mem hjr)
            have hget : r[j]?.getD 0 = r[j] := by rw [List.getElem?_eq_getElem hjr]; rfl
            obtain ⟨b2, off2, rfl, hbs2, hc0⟩ := HRI.out j hjr
            have hc : wr.cell? ⟨b2, off2 + j, none⟩ = some (.int .i64 (r[j]?.getD 0)) := ((chain hb1 hbj).cell (p := ⟨b2, off2 + j, none⟩) hbs2).trans hc0
            rw [← hget] at hv3
            obtain ⟨V, hV⟩ : ∃ V, V = r[j]?.getD 0 := ⟨_, rfl⟩
            rw [← hV] at hc hrt hv3
            have HRT := hid hrt
            have hBJ := hid hJ
            have HM := hid hjM
            clear hrt hget hc0 hJ hjM hV hjr
            have h3 : V = -1 ∨ V = 0 ∨ V = 1 := by omega
            have HS := hid (hb1.size)
            have M1 := hid (show w1.heap.size ≤ wr.heap.size from hbj.size)
            rcases h3 with rfl | rfl | rfl
            all_goals
              clear hv3
              go_wp2_with (go_at_call 109; refine (writeByte_c w1.heap.size w1.heap.size _ _ wr hBJ.out (by have := HM.out; omega) M1.out).mono ?_; rintro e w2 ⟨rfl, hI2, hb2⟩)
              refine ⟨⟨j + 1, by omega, by go_num, ?_, hbj.trans hb2⟩, by simp [intOf]; omega⟩
              rw [HRT.out, ← List.append_assoc]
              rw [byte_snoc _ _ _ rfl] at hI2
              exact hI2
          · obtain rfl : j = rn := by omega
            have hall : r.take j = r := List.take_of_length_le (by have := HRN.out; omega)
            rw [hall] at hJ hjM
            have hBJ := hid hJ
            have HM := hid hjM
            have M1 := hid (show w1.heap.size ≤ wr.heap.size from hbj.size)
            clear hJ hjM hall
            go_wp2_with (go_at_call 109; refine (writeByte_c w1.heap.size w1.heap.size _ _ wr hBJ.out (by have := HM.out; omega) M1.out).mono ?_; rintro e w2 ⟨rfl, hI2, hb2⟩)
            refine ⟨⟨k + 1, by omega, by go_num, ?_, hbj.trans hb2⟩, by simp [intOf]; omega⟩
            rw [HTK.out]
            rw [show Lib.byteCells (T ++ r.map sgnB) ++ [Value.int .u8 10] = Lib.byteCells (T ++ r.map sgnB ++ [10]) from byte_snoc _ 10 10 rfl] at hI2
            exact hI2
      · obtain rfl : k = n := by omega
        have hall : M.take k = M := List.take_of_length_le (by have := HN.out; omega)
        rw [hall] at hI
        have hI' := hid hI
        have M1 := hid (show w1.heap.size ≤ wr.heap.size from hbk.size)
        clear hI hall
        go_wp2_with (go_at_call 60; refine (Tryz.Builder_String_any w1.heap.size w1.heap.size (fmtM M) wr hI'.out M1.out).mono ?_; rintro e w2 ⟨rfl, hb2⟩)
        go_ret
        exact ⟨by unfold textM; rw [if_pos HE.out]; rfl, chain hb1 (hbk.trans hb2)⟩
end Go.Proofs.YthaampmdponhbaaGreatDoor
