/- Walks of reference 03: without. -/
import Derived.Test.YtfipebkhomppmaaLwS
import Derived.Test.YtfipebkhomppmaaLwF
namespace Go.Proofs.Ytfipebkhomppmaa
open Go.RowKit
set_option linter.unusedVariables false

/-- a row without its number at j, not yet made primitive, to column k -/
def mixTo (p : List Int) (j : Nat) (r : List Int) (k : Nat) : List Int := (List.range k).map (fun c => vec r c * vec p j - vec p c * vec r j)
theorem mixTo_len (p : List Int) (j : Nat) (r : List Int) (k : Nat) : (mixTo p j r k).length = k := by simp [mixTo]
theorem mixTo_succ (p : List Int) (j : Nat) (r : List Int) (k : Nat) : mixTo p j r (k + 1) = mixTo p j r k ++ [vec r k * vec p j - vec p k * vec r j] := by
  unfold mixTo; rw [List.range_succ, List.map_append]; rfl
theorem mixTo_all {p r : List Int} (j : Nat) (h : p.length = r.length) : withoutF p j r = primF (mixTo p j r r.length) := by
  unfold withoutF mixTo
  congr 1
  refine List.ext_getElem (by simp [h]) fun i h1 h2 => ?_
  simp only [List.length_zipWith, List.length_map, List.length_range] at h1 h2
  simp only [List.getElem_zipWith, List.getElem_map, List.getElem_range]
  rw [vec_lt (show i < r.length by omega), vec_lt (show i < p.length by omega)]

set_option maxRecDepth 100000 in
set_option maxHeartbeats 4000000 in
theorem r3without_c (w : World) (a a2 : Option Addr) (n cap cap2 : Nat) (r p : List Int) (hn : r.length = n) (hn2 : p.length = n) (hm : n ≤ 1000) (H : IntsAt w a r) (H2 : IntsAt w a2 p) (hB : BndL 1073741824 r) (hB2 : BndL 1073741824 p) (j : Nat) (hj : j < n) :
    Calls Try.prog 136 #[.slice a n cap, .slice a2 n cap2, .int .i64 j] w fun e w' => ∃ v base, e = .returned v ∧ w.heap.size ≤ base ∧ w'.ownsRow base 3 1 v n ((withoutF p j r).map (Value.int .i64)) ∧ Below w.heap.size w w' := by
  rw [mixTo_all j (show p.length = r.length by omega), hn]
  have HN := hid hn
  have HN2 := hid hn2
  have HH := hid H
  have HH2 := hid H2
  have HB := hid hB
  have HB2 := hid hB2
  clear hn hn2 H H2 hB hB2
  go_enter Try.func136, Try.ntmps136
  go_wp2
  go_loopw [7, 11] (fun v i wr => ∃ k : Nat, k ≤ n ∧ i = .int .i64 k ∧ wr.ownsRow w.heap.size 3 1 v k ((mixTo p j r k).map (Value.int .i64)) ∧ Below w.heap.size w wr) (fun _ i _ => n - (intOf i).toNat)
  case atStart => exact ⟨0, Nat.zero_le _, rfl, World.ownsRow_nil _ _ _ _, Below.refl _ _⟩
  case round =>
    obtain ⟨k, hk, rfl, hown, hbt⟩ := hrel
    by_cases hlt : k < n
    · obtain ⟨b, off, rfl, hbs, hc1⟩ := HH.out k (by rw [HN.out]; exact hlt)
      obtain ⟨b', off', e', _, hc2⟩ := HH.out j (by rw [HN.out]; exact hj)
      cases e'
      obtain ⟨b2, off2, rfl, hbs2, hc3⟩ := HH2.out k (by rw [HN2.out]; exact hlt)
      obtain ⟨b2', off2', e', _, hc4⟩ := HH2.out j (by rw [HN2.out]; exact hj)
      cases e'
      have d1 := HB.out.get (show k < r.length by rw [HN.out]; exact hlt)
      have d2 := HB.out.get (show j < r.length by rw [HN.out]; exact hj)
      have d3 := HB2.out.get (show k < p.length by rw [HN2.out]; exact hlt)
      have d4 := HB2.out.get (show j < p.length by rw [HN2.out]; exact hj)
      have hsn : (mixTo p j r (k + 1)).map (Value.int .i64) = (mixTo p j r k).map (Value.int .i64) ++ [.int .i64 (r[k]?.getD 0 * p[j]?.getD 0 - p[k]?.getD 0 * r[j]?.getD 0)] := by rw [mixTo_succ, List.map_append]; rfl
      obtain ⟨x, hx⟩ : ∃ x, x = r[k]?.getD 0 := ⟨_, rfl⟩
      obtain ⟨rj, hrj⟩ : ∃ x, x = r[j]?.getD 0 := ⟨_, rfl⟩
      obtain ⟨y, hy⟩ : ∃ x, x = p[k]?.getD 0 := ⟨_, rfl⟩
      obtain ⟨pj, hpj⟩ : ∃ x, x = p[j]?.getD 0 := ⟨_, rfl⟩
      rw [← hx] at hc1 d1 hsn
      rw [← hrj] at hc2 d2 hsn
      rw [← hy] at hc3 d3 hsn
      rw [← hpj] at hc4 d4 hsn
      have e1 := mul_bnd (show -(1073741824 : Int) ≤ x ∧ x ≤ 1073741824 by omega) (show -(1073741824 : Int) ≤ pj ∧ pj ≤ 1073741824 by omega)
      have e2 := mul_bnd (show -(1073741824 : Int) ≤ y ∧ y ≤ 1073741824 by omega) (show -(1073741824 : Int) ≤ rj ∧ rj ≤ 1073741824 by omega)
      obtain ⟨m1, hm1⟩ : ∃ m, m = x * pj := ⟨_, rfl⟩
      obtain ⟨m2, hm2⟩ : ∃ m, m = y * rj := ⟨_, rfl⟩
      rw [← hm1, ← hm2] at hsn
      rw [← hm1] at e1
      rw [← hm2] at e2
      obtain ⟨z, hz⟩ : ∃ m, m = m1 - m2 := ⟨_, rfl⟩
      rw [← hz] at hsn
      have w1 : IntKind.i64.wrap (x * pj) = m1 := by rw [← hm1]; exact IntWalk.i64_in _ (by omega)
      have w2 : IntKind.i64.wrap (y * rj) = m2 := by rw [← hm2]; exact IntWalk.i64_in _ (by omega)
      have w3 : IntKind.i64.wrap (m1 - m2) = z := by rw [← hz]; exact IntWalk.i64_in _ (by omega)
      obtain ⟨va, vc, rfl⟩ := ownsRow_slice hown
      have HSN := hid hsn
      have HO := hid hown
      have HBT := hid hbt
      have HS := hid (fun (X : World) (hX : Below w.heap.size w X) => show X.cell? ⟨b, off + k, none⟩ = some (.int .i64 x) ∧ X.cell? ⟨b, off + j, none⟩ = some (.int .i64 rj) ∧ X.cell? ⟨b2, off2 + k, none⟩ = some (.int .i64 y) ∧ X.cell? ⟨b2, off2 + j, none⟩ = some (.int .i64 pj) from
        have hbw := hX
        ⟨(hbw.cell (p := ⟨b, off + k, none⟩) hbs).trans hc1, (hbw.cell (p := ⟨b, off + j, none⟩) hbs).trans hc2, (hbw.cell (p := ⟨b2, off2 + k, none⟩) hbs2).trans hc3, (hbw.cell (p := ⟨b2, off2 + j, none⟩) hbs2).trans hc4⟩)
      have M1 := hid (show k + 1 ≤ maxLen by unfold maxLen; omega)
      have M2 := hid (show (k + 1) * 8 ≤ 140737488355328 by omega)
      have M3 := hid hbt.size
      have i1 : (0 : Int) ≤ (k : Int) := by omega
      have i2 : (k : Int) < (n : Int) := by omega
      have i3 : (0 : Int) ≤ (j : Int) := by omega
      have i4 : (j : Int) < (n : Int) := by omega
      have hbsw : b < w.heap.size ∧ b2 < w.heap.size := ⟨hbs, hbs2⟩
      clear hown hbt hsn hx hrj hy hpj hm1 hm2 hz hc1 hc2 hc3 hc4 d1 d2 d3 d4 e1 e2
      go_wp2
      refine region_cut (fun fr fr' X => ∃ v14 v15 v16 v17 v18 v19 v20 v21 v22 v23 v24 v25 v26 v27 v28 v29 v30 v31 v32 v33 v34 v35, fr' = (((((((((((((((((((((((fr.put (some 14) v14).put (some 15) v15).put (some 16) v16).put (some 17) v17).put (some 18) v18).put (some 19) v19).put (some 20) v20).put (some 21) v21).put (some 22) v22).put (some 23) v23).put (some 24) v24).put (some 25) v25).put (some 26) v26).put (some 27) v27).put (some 28) v28).put (some 29) v29).put (some 30) v30).put (some 31) v31).put (some 32) v32).put (some 33) v33).put (some 34) v34).put (some 35) v35).put (some 7) v35) ∧ (∃ a3 c3, v35 = .slice a3 (k + 1) c3) ∧ X.ownsRow w.heap.size 3 1 v35 (k + 1) ((mixTo p j r (k + 1)).map (Value.int .i64)) ∧ Below w.heap.size w X) ?_ ?_
      · refine plain_region (fun j' X => wAll j' = true → X.cell? ⟨b, off + k, none⟩ = some (.int .i64 x) ∧ X.cell? ⟨b, off + j, none⟩ = some (.int .i64 rj) ∧ X.cell? ⟨b2, off2 + k, none⟩ = some (.int .i64 y) ∧ X.cell? ⟨b2, off2 + j, none⟩ = some (.int .i64 pj)) (by kernel_rfl) ?_
        have hbd : Below w.heap.size w wr.drew := HBT.out.drew
        have HO2 := hid (own_below HO.out ((Below.refl _ wr).drew))
        have HB3 := hid hbd
        generalize wr.drew = wd at hbd HO2 HB3 ⊢
        refine AnyT.takeD (i := 0) (v := .slice va k vc) rfl rfl (by kernel_rfl) (by kernel_rfl) (by kernel_rfl) (by first | exact (fun _ _ _ h => h) | exact (fun _ _ _ h => absurd h.1 (by simp))) (by kernel_rfl) (by rfl) (by rintro w' ⟨q1, q2, q3, q4⟩; go_simp) (HS.out _ hbd) ?_; go_frame
        refine AnyT.takeD (i := 1) (v := .slice (some ⟨b, off, none⟩) n cap) rfl rfl (by kernel_rfl) (by kernel_rfl) (by kernel_rfl) (by first | exact (fun _ _ _ h => h) | exact (fun _ _ _ h => absurd h.1 (by simp))) (by kernel_rfl) (by rfl) (by rintro w' ⟨q1, q2, q3, q4⟩; go_simp) (HS.out _ hbd) ?_; go_frame
        refine AnyT.takeD (i := 2) (v := .int .i64 k) rfl rfl (by kernel_rfl) (by kernel_rfl) (by kernel_rfl) (by first | exact (fun _ _ _ h => h) | exact (fun _ _ _ h => absurd h.1 (by simp))) (by kernel_rfl) (by rfl) (by rintro w' ⟨q1, q2, q3, q4⟩; go_simp) (HS.out _ hbd) ?_; go_frame
        refine AnyT.takeD (i := 3) (v := .pointer (some ⟨b, off + k, none⟩)) rfl rfl (by kernel_rfl) (by kernel_rfl) (by kernel_rfl) (by first | exact (fun _ _ _ h => h) | exact (fun _ _ _ h => absurd h.1 (by simp))) (by kernel_rfl) (by rfl) (by rintro w' ⟨q1, q2, q3, q4⟩; go_simp) (HS.out _ hbd) ?_; go_frame
        refine AnyT.takeD (i := 4) (v := .int .i64 x) rfl rfl (by kernel_rfl) (by kernel_rfl) (by kernel_rfl) (by first | exact (fun _ _ _ h => h) | exact (fun _ _ _ h => absurd h.1 (by simp))) (by kernel_rfl) (by rfl) (by rintro w' ⟨q1, q2, q3, q4⟩; go_simp) (HS.out _ hbd) ?_; go_frame
        refine AnyT.takeD (i := 5) (v := .slice (some ⟨b2, off2, none⟩) n cap2) rfl rfl (by kernel_rfl) (by kernel_rfl) (by kernel_rfl) (by first | exact (fun _ _ _ h => h) | exact (fun _ _ _ h => absurd h.1 (by simp))) (by kernel_rfl) (by rfl) (by rintro w' ⟨q1, q2, q3, q4⟩; go_simp) (HS.out _ hbd) ?_; go_frame
        refine AnyT.takeD (i := 6) (v := .int .i64 j) rfl rfl (by kernel_rfl) (by kernel_rfl) (by kernel_rfl) (by first | exact (fun _ _ _ h => h) | exact (fun _ _ _ h => absurd h.1 (by simp))) (by kernel_rfl) (by rfl) (by rintro w' ⟨q1, q2, q3, q4⟩; go_simp) (HS.out _ hbd) ?_; go_frame
        refine AnyT.takeD (i := 7) (v := .pointer (some ⟨b2, off2 + j, none⟩)) rfl rfl (by kernel_rfl) (by kernel_rfl) (by kernel_rfl) (by first | exact (fun _ _ _ h => h) | exact (fun _ _ _ h => absurd h.1 (by simp))) (by kernel_rfl) (by rfl) (by rintro w' ⟨q1, q2, q3, q4⟩; go_simp) (HS.out _ hbd) ?_; go_frame
        refine AnyT.takeD (i := 8) (v := .int .i64 pj) rfl rfl (by kernel_rfl) (by kernel_rfl) (by kernel_rfl) (by first | exact (fun _ _ _ h => h) | exact (fun _ _ _ h => absurd h.1 (by simp))) (by kernel_rfl) (by rfl) (by rintro w' ⟨q1, q2, q3, q4⟩; go_simp) (HS.out _ hbd) ?_; go_frame
        refine AnyT.takeD (i := 9) (v := .int .i64 m1) rfl rfl (by kernel_rfl) (by kernel_rfl) (by kernel_rfl) (by first | exact (fun _ _ _ h => h) | exact (fun _ _ _ h => absurd h.1 (by simp))) (by kernel_rfl) (by rfl) (by rintro w' ⟨q1, q2, q3, q4⟩; go_simp) (HS.out _ hbd) ?_; go_frame
        refine AnyT.takeD (i := 10) (v := .slice (some ⟨b2, off2, none⟩) n cap2) rfl rfl (by kernel_rfl) (by kernel_rfl) (by kernel_rfl) (by first | exact (fun _ _ _ h => h) | exact (fun _ _ _ h => absurd h.1 (by simp))) (by kernel_rfl) (by rfl) (by rintro w' ⟨q1, q2, q3, q4⟩; go_simp) (HS.out _ hbd) ?_; go_frame
        refine AnyT.takeD (i := 11) (v := .int .i64 k) rfl rfl (by kernel_rfl) (by kernel_rfl) (by kernel_rfl) (by first | exact (fun _ _ _ h => h) | exact (fun _ _ _ h => absurd h.1 (by simp))) (by kernel_rfl) (by rfl) (by rintro w' ⟨q1, q2, q3, q4⟩; go_simp) (HS.out _ hbd) ?_; go_frame
        refine AnyT.takeD (i := 12) (v := .pointer (some ⟨b2, off2 + k, none⟩)) rfl rfl (by kernel_rfl) (by kernel_rfl) (by kernel_rfl) (by first | exact (fun _ _ _ h => h) | exact (fun _ _ _ h => absurd h.1 (by simp))) (by kernel_rfl) (by rfl) (by rintro w' ⟨q1, q2, q3, q4⟩; go_simp) (HS.out _ hbd) ?_; go_frame
        refine AnyT.takeD (i := 13) (v := .int .i64 y) rfl rfl (by kernel_rfl) (by kernel_rfl) (by kernel_rfl) (by first | exact (fun _ _ _ h => h) | exact (fun _ _ _ h => absurd h.1 (by simp))) (by kernel_rfl) (by rfl) (by rintro w' ⟨q1, q2, q3, q4⟩; go_simp) (HS.out _ hbd) ?_; go_frame
        refine AnyT.takeD (i := 14) (v := .slice (some ⟨b, off, none⟩) n cap) rfl rfl (by kernel_rfl) (by kernel_rfl) (by kernel_rfl) (by first | exact (fun _ _ _ h => h) | exact (fun _ _ _ h => absurd h.1 (by simp))) (by kernel_rfl) (by rfl) (by rintro w' ⟨q1, q2, q3, q4⟩; go_simp) (HS.out _ hbd) ?_; go_frame
        refine AnyT.takeD (i := 15) (v := .int .i64 j) rfl rfl (by kernel_rfl) (by kernel_rfl) (by kernel_rfl) (by first | exact (fun _ _ _ h => h) | exact (fun _ _ _ h => absurd h.1 (by simp))) (by kernel_rfl) (by rfl) (by rintro w' ⟨q1, q2, q3, q4⟩; go_simp) (HS.out _ hbd) ?_; go_frame
        refine AnyT.takeD (i := 16) (v := .pointer (some ⟨b, off + j, none⟩)) rfl rfl (by kernel_rfl) (by kernel_rfl) (by kernel_rfl) (by first | exact (fun _ _ _ h => h) | exact (fun _ _ _ h => absurd h.1 (by simp))) (by kernel_rfl) (by rfl) (by rintro w' ⟨q1, q2, q3, q4⟩; go_simp) (HS.out _ hbd) ?_; go_frame
        refine AnyT.takeD (i := 17) (v := .int .i64 rj) rfl rfl (by kernel_rfl) (by kernel_rfl) (by kernel_rfl) (by first | exact (fun _ _ _ h => h) | exact (fun _ _ _ h => absurd h.1 (by simp))) (by kernel_rfl) (by rfl) (by rintro w' ⟨q1, q2, q3, q4⟩; go_simp) (HS.out _ hbd) ?_; go_frame
        refine AnyT.takeD (i := 18) (v := .int .i64 m2) rfl rfl (by kernel_rfl) (by kernel_rfl) (by kernel_rfl) (by first | exact (fun _ _ _ h => h) | exact (fun _ _ _ h => absurd h.1 (by simp))) (by kernel_rfl) (by rfl) (by rintro w' ⟨q1, q2, q3, q4⟩; go_simp) (HS.out _ hbd) ?_; go_frame
        refine AnyT.takeD (i := 19) (v := .int .i64 z) rfl rfl (by kernel_rfl) (by kernel_rfl) (by kernel_rfl) (by first | exact (fun _ _ _ h => h) | exact (fun _ _ _ h => absurd h.1 (by simp))) (by kernel_rfl) (by rfl) (by rintro w' ⟨q1, q2, q3, q4⟩; go_simp) (HS.out _ hbd) ?_; go_frame
        refine AnyT.next (i := 20) (by kernel_rfl) rfl (wpOp_of_list rfl ?_)
        go_wp2
        have hbA := hbd.alloc hbd.size (.cells #[.int .i64 z] 3)
        refine ⟨fun _ => HS.out _ hbA, ?_⟩
        refine AnyT.next (i := 21) (by kernel_rfl) rfl (wpOp_of_list rfl ?_)
        (refine wpList_app _ rfl (.tmp 14) (.tmp 34) 31 rfl w.heap.size 3 (.int .i64 0) 1 8 Try.underlying31 li_int rfl Nat.one_pos (.slice va k vc) k _ rfl (HO2.out.alloc _) (some ⟨wd.heap.size, 0, none⟩) 1 1 [.int .i64 z] rfl rfl no_none (one_news wd _ _) (li_one _) M1.out M2.out (Nat.le_trans HB3.out.size (le_alloc _ _)) ?_)
        intro a3 c3 w3 own3 g3
        have hb3 := hbA.grown g3 hbA.size (fun q hq => (HO2.out.lt q hq).1)
        refine ⟨fun _ => HS.out _ hb3, ?_⟩
        refine AnyT.takeD (i := 22) (v := .slice a3 (k + 1) c3) rfl rfl (by kernel_rfl) (by kernel_rfl) (by kernel_rfl) (by first | exact (fun _ _ _ h => h) | exact (fun _ _ _ h => absurd h.1 (by simp))) (by kernel_rfl) (by rfl) (by rintro w' ⟨q1, q2, q3, q4⟩; go_simp) (HS.out _ hb3) ?_; go_frame
        exact ⟨by kernel_rfl, rfl, .slice va k vc, .slice (some ⟨b, off, none⟩) n cap, .int .i64 k, .pointer (some ⟨b, off + k, none⟩), .int .i64 x, .slice (some ⟨b2, off2, none⟩) n cap2, .int .i64 j, .pointer (some ⟨b2, off2 + j, none⟩), .int .i64 pj, .int .i64 m1, .slice (some ⟨b2, off2, none⟩) n cap2, .int .i64 k, .pointer (some ⟨b2, off2 + k, none⟩), .int .i64 y, .slice (some ⟨b, off, none⟩) n cap, .int .i64 j, .pointer (some ⟨b, off + j, none⟩), .int .i64 rj, .int .i64 m2, .int .i64 z, .slice (some ⟨wd.heap.size, 0, none⟩) 1 1, .slice a3 (k + 1) c3, (by first | rfl | go_frame), ⟨a3, c3, rfl⟩, by rw [HSN.out]; exact own3, hb3⟩
      · rintro a5 w5 ⟨v14, v15, v16, v17, v18, v19, v20, v21, v22, v23, v24, v25, v26, v27, v28, v29, v30, v31, v32, v33, v34, v35, rfl, ⟨a3, c3, rfl⟩, ho5, hb5⟩
        go_frame
        go_wp2
        exact ⟨⟨k + 1, by omega, by go_num, ho5, hb5⟩, by simp [intOf]; omega⟩
    · obtain rfl : k = n := by omega
      have hmb : BndL 4611686018427387904 (mixTo p j r k) := by
        intro x hx
        unfold mixTo at hx
        obtain ⟨c, hc, rfl⟩ := List.mem_map.1 hx
        have hck := List.mem_range.1 hc
        have d1 := HB.out.get (show c < r.length by rw [HN.out]; exact hck)
        have d2 := HB.out.get (show j < r.length by rw [HN.out]; exact hj)
        have d3 := HB2.out.get (show c < p.length by rw [HN2.out]; exact hck)
        have d4 := HB2.out.get (show j < p.length by rw [HN2.out]; exact hj)
        have e1 := mul_bnd (show -(1073741824 : Int) ≤ r[c]?.getD 0 ∧ r[c]?.getD 0 ≤ 1073741824 by omega) (show -(1073741824 : Int) ≤ p[j]?.getD 0 ∧ p[j]?.getD 0 ≤ 1073741824 by omega)
        have e2 := mul_bnd (show -(1073741824 : Int) ≤ p[c]?.getD 0 ∧ p[c]?.getD 0 ≤ 1073741824 by omega) (show -(1073741824 : Int) ≤ r[j]?.getD 0 ∧ r[j]?.getD 0 ≤ 1073741824 by omega)
        show -((4611686018427387904 : Nat) : Int) ≤ r[c]?.getD 0 * p[j]?.getD 0 - p[c]?.getD 0 * r[j]?.getD 0 ∧ r[c]?.getD 0 * p[j]?.getD 0 - p[c]?.getD 0 * r[j]?.getD 0 ≤ ((4611686018427387904 : Nat) : Int)
        omega
      obtain ⟨va, vc, rfl, hi, _⟩ := ints_of_own hown (mixTo_len p j r k)
      have HP := hid (r3primitive_c wr va k vc (mixTo p j r k) (mixTo_len p j r k) hm hi hmb)
      have HBT := hid hbt
      clear hown hi hmb hbt
      go_wp2_with (go_at_call 77; refine HP.out.mono ?_; rintro e w4 ⟨v4, rfl, ho4, hb4⟩; refine Stop.of ?_)
      refine Stop.go ?_
      have HO4 := hid ho4
      have hb := chain HBT.out hb4
      clear ho4 hb4
      go_wp2
      go_ret
      exact ⟨v4, wr.heap.size, rfl, HBT.out.size, HO4.out, hb⟩
end Go.Proofs.Ytfipebkhomppmaa
