/- Walks of fault.classes, fault.Classes and fault.Enough. -/
import Derived.Test.YthaampmdponhbaaGreatDoorFltP
namespace Go.Proofs.YthaampmdponhbaaGreatDoor
open Go.RowKit Go.Maps
set_option linter.unusedVariables false

theorem told_len {M : Mask} (hM : okM M = true) (f : Flt) (L : List (List Int)) : (toldT M f L).length ≤ 132 * L.length := by
  induction L with
  | nil => simp [toldT]
  | cons x L ih =>
    have h1 := numT_length (readF M f x) (readM_isInt _ _)
    have h2 := (okM_len hM).2.1
    rw [readF_length] at h1
    have e : toldT M f (x :: L) = numT (readF M f x) ++ toldT M f L := by simp [toldT]
    rw [e, List.length_append, List.length_cons]
    omega

/-- the first of some faults of which a text is told -/
def firstI (M : Mask) (L : List (List Int)) (xs : List Flt) (s : List UInt8) : Option Int :=
  if xs.any (fun g => decide (toldT M g L = s)) then some (xs.findIdx (fun g => decide (toldT M g L = s)) : Nat) else none
theorem firstI_snoc (M : Mask) (L : List (List Int)) (xs : List Flt) (f : Flt) (t : List UInt8) :
    firstI M L (xs ++ [f]) t = if t = toldT M f L then some ((firstI M L xs t).getD xs.length) else firstI M L xs t := by
  unfold firstI
  rw [List.any_append, List.findIdx_append]
  cases h : xs.any (fun g => decide (toldT M g L = t))
  · have h2 : ¬ xs.findIdx (fun g => decide (toldT M g L = t)) < xs.length := by
      rw [List.findIdx_lt_length]
      rintro ⟨g, hg, e⟩
      have := List.any_eq_false.1 h g hg
      exact this e
    rw [if_neg h2]
    by_cases e : t = toldT M f L
    · subst e; simp
    · have e' : ¬ toldT M f L = t := fun h => e h.symm
      simp [e, e']
  · have h2 : xs.findIdx (fun g => decide (toldT M g L = t)) < xs.length := by
      rw [List.findIdx_lt_length]
      obtain ⟨g, hg, e⟩ := List.any_eq_true.1 h
      exact ⟨g, hg, e⟩
    rw [if_pos h2]
    by_cases e : t = toldT M f L <;> simp [e]
theorem firstI_self (M : Mask) (L : List (List Int)) (A : List Flt) (k : Nat) (hk : k < A.length) : (firstI M L (A.take (k + 1)) (toldT M A[k] L)).getD 0 = (idxR M L A A[k] : Nat) := by
  rw [← idxR_take hk]
  unfold firstI idxR
  have hp : (fun g => decide (toldT M g L = toldT M A[k] L)) = (fun g => sameR M L A[k] g) := by
    funext g
    rw [Bool.eq_iff_iff, decide_eq_true_iff, toldT_iff]
    exact ⟨sameR_symm, sameR_symm⟩
  rw [hp, if_pos]
  · rfl
  · rw [List.any_eq_true]
    exact ⟨A[k], by rw [List.mem_take_iff_getElem]; exact ⟨k, by omega, rfl⟩, sameR_refl _ _ _⟩

def classTo (M : Mask) (L : List (List Int)) (k : Nat) : List Int := ((allF M).take k).map (fun f => (idxR M L (allF M) f : Int))
theorem classTo_succ (M : Mask) (L : List (List Int)) (k : Nat) (hk : k < (allF M).length) : classTo M L (k + 1) = classTo M L k ++ [(idxR M L (allF M) (allF M)[k] : Int)] := by
  unfold classTo; rw [List.take_succ_eq_append_getElem hk, List.map_append]; rfl
theorem classTo_all (M : Mask) (L : List (List Int)) : classTo M L (allF M).length = classF M L := by
  unfold classTo classF; rw [List.take_length]
theorem classTo_length (M : Mask) (L : List (List Int)) (k : Nat) (hk : k ≤ (allF M).length) : (classTo M L k).length = k := by
  unfold classTo; rw [List.length_map, List.length_take]; omega

theorem own_keep {S : Nat → Prop} {W W' : World} {base size n : Nat} {T : TypeId} {v : Value} {xs : List Value} (h : W.ownsRow base T size v n xs) (hk : Keep S W W') (h1 : ∀ k, base ≤ k → S k) : W'.ownsRow base T size v n xs := by
  refine ⟨h.1, ?_⟩
  rcases h.2 with hn | ⟨g, cap, cur, rfl, hbg, hgg, rest⟩
  · exact .inl hn
  · exact .inr ⟨g, cap, cur, rfl, hbg, (hk.block g (Array.getElem?_eq_some_iff.1 hgg).1 (h1 g hbg)).trans hgg, rest⟩
theorem own_below {W W' : World} {base size n : Nat} {T : TypeId} {v : Value} {xs : List Value} (h : W.ownsRow base T size v n xs) (hb : Below W.heap.size W W') : W'.ownsRow base T size v n xs :=
  own_keep (S := fun _ => True) h (Keep.of_below hb) (fun _ _ => trivial)
theorem keep_cut {S : Nat → Prop} {A B C : World} (h : Keep S A B) (h2 : Keep (fun q => S q ∧ q < A.heap.size) B C) : Keep S A C :=
  ⟨h2.os.trans h.os, h2.tape.trans h.tape, h2.output.trans h.output, Nat.le_trans h.size h2.size, fun i hi hs => (h2.block i (Nat.lt_of_lt_of_le hi h.size) ⟨hs, hi⟩).trans (h.block i hi hs)⟩
theorem wf_nat (k : Nat) (h : k ≤ 9223372036854775807) : (Lit.int .i64 (k : Int)).wf = true := by
  simp [Lit.wf, IntKind.min, IntKind.max, IntKind.signed, IntKind.bits]
  omega

set_option maxRecDepth 100000 in
set_option maxHeartbeats 4000000 in
theorem classes_c (w : World) (ht : Tab w) (a : Option Addr) (n cap : Nat) (M : Mask) (hn : M.length = n) (H : RowsAt w a M) (hM : okM M = true) (a2 : Option Addr) (n2 cap2 : Nat) (L : List (List Int)) (hn2 : L.length = n2) (hm2 : n2 ≤ 12) (H2 : RowsAt w a2 L) (hx : ∀ x ∈ L, okShown M x = true) :
    Calls Tryz.prog 48 #[.slice a n cap, .slice a2 n2 cap2] w fun e w' => ∃ v base, e = .returned v ∧ w.heap.size ≤ base ∧ w'.ownsRow base 3 1 v (allF M).length ((classF M L).map (Value.int .i64)) ∧ Below w.heap.size w w' := by
  have HAl := hid (fun (W : World) (hb : Below w.heap.size w W) => all_c W a n cap M hn (H.below hb) hM)
  have HTo := hid (fun (W : World) (hb : Below w.heap.size w W) (f : Flt) (hf : okF M f = true) => told_c W (ht.below hb) a n cap M hn (H.below hb) hM f hf a2 n2 cap2 L hn2 (by omega) (H2.below hb) hx)
  have HLen := hid (fun f => told_len hM f L)
  have HOk := hid (fun (f : Flt) (hf : f ∈ allF M) => all_ok hf)
  have hA240 := all_240 hM
  have HN2 := hid hn2
  have hmm := @run_makeMap Tryz.prog
  clear hn H hM hn2 H2 hx ht
  obtain ⟨b0, hb0⟩ : ∃ b0, b0 = w.heap.size := ⟨_, rfl⟩
  have hbm : Below w.heap.size w (w.alloc (.map #[] 0)) := (Below.refl _ _).alloc (Nat.le_refl _) _
  have HAl1 := hid (HAl.out (w.alloc (.map #[] 0)) hbm)
  have hmade : (w.alloc (.map #[] 0)).ownsMap Tryz.prog 9 (plainElem (H := Unit) Tryz.prog 3) b0 0 (.map []) := by rw [hb0]; exact World.ownsMap_made _ _ _ _
  have HMade := hid hmade
  have HB0 := hid hb0
  clear hmade hb0
  go_enter Tryz.func48, Tryz.ntmps48
  go_wp2_with (go_at_call 63; refine HAl1.out.mono ?_; rintro e w1 ⟨v0, base0, rfl, hbase0, hfo, hb1⟩; refine Stop.of ?_)
  refine Stop.go ?_
  obtain ⟨va, vc, rfl, hAm, _⟩ := hfo.reads
  obtain ⟨A, hA⟩ : ∃ A, A = allF M := ⟨_, rfl⟩
  rw [← hA] at hfo hA240 HOk
  rw [← hA]
  obtain ⟨N, hN⟩ : ∃ N, N = A.length := ⟨_, rfl⟩
  rw [← hN] at hA240
  rw [← hN]
  have HFO := hid hfo
  have HN := hid hN
  have HA := hid hA
  have hb01 : b0 < w1.heap.size := by have h1 := hb1.size; rw [World.size_alloc] at h1; have := HB0.out; omega
  have hbw1 : Below w.heap.size w w1 := hbm.trans (hb1.mono hbm.size)
  have hmap1 : w1.ownsMap Tryz.prog 9 (plainElem (H := Unit) Tryz.prog 3) b0 0 (.map []) := map_keep (S := fun _ => True) HMade.out (Keep.of_below hb1) trivial
  have HM1 := hid hmap1
  have hbase1 : b0 < base0 := by have := HB0.out; simp at hbase0; omega
  rw [← HB0.out]
  clear hfo hN hA hmap1 hAm hb1 hbm hbase0 HAl1 HAl hmm
  go_wp2
  go_loopw [6, 16] (fun v i wr => ∃ (k : Nat) (D : DataW Unit), k ≤ N ∧ i = .int .i64 k ∧ wr.ownsRow w1.heap.size 3 1 v k ((classTo M L k).map (Value.int .i64)) ∧ wr.ownsMap Tryz.prog 9 (plainElem (H := Unit) Tryz.prog 3) b0 k D ∧ Hid (MapSI D (firstI M L (A.take k))) ∧ Keep (fun q => q ≠ b0) w1 wr) (fun _ i _ => N - (intOf i).toNat)
  case atStart => exact ⟨0, .map [], Nat.zero_le _, rfl, World.ownsRow_nil _ _ _ _, HM1.out, hid MapSI.nil, Keep.refl _ _⟩
  case round =>
    obtain ⟨k, D, hk, rfl, hown, hmap, HD, hkp⟩ := hrel
    by_cases hlt : k < N
    · have hkA : k < A.length := by rw [← HN.out]; exact hlt
      obtain ⟨_, _, e0, _, hat⟩ := (HFO.out.keep hkp (fun q hq => by omega)).reads
      rw [← HN.out] at e0
      cases e0
      obtain ⟨b, off, rfl, hbs, k0, k1, k2⟩ := hat k hkA
      have hbwr : Below w.heap.size w wr := hkp.below hbw1 hbw1.size (fun q hq => by have := HB0.out; omega)
      have htc := classTo_succ M L k (by rw [← HA.out]; exact hkA)
      have hself := firstI_self M L A k hkA
      have hsn := firstI_snoc M L (A.take k) A[k]
      have htk : A.take (k + 1) = A.take k ++ [A[k]] := List.take_succ_eq_append_getElem hkA
      rw [← htk] at hsn
      have hkl : (A.take k).length = k := by rw [List.length_take]; omega
      rw [hkl] at hsn
      simp only [← HA.out] at htc
      have hok := HOk.out A[k] (List.getElem_mem hkA)
      have HT1 := HTo.out (wr.alloc (.cells (fltCells A[k]).toArray 25)) (hbwr.alloc hbwr.size _) A[k] hok
      have hlen := HLen.out A[k]
      obtain ⟨f, hf⟩ : ∃ f, f = A[k] := ⟨_, rfl⟩
      rw [← hf] at htc hself hsn hlen HT1 k0 k1 k2
      obtain ⟨I, hI⟩ : ∃ I : Int, I = (idxR M L A f : Nat) := ⟨_, rfl⟩
      rw [← hI] at htc hself
      obtain ⟨S, hS⟩ : ∃ S : ByteArray, S = ⟨(toldT M f L).toArray⟩ := ⟨_, rfl⟩
      have hSt : S.data.toList = toldT M f L := by rw [hS]
      have hSz : S.size ≤ maxLen := by rw [hS]; unfold maxLen; simp [ByteArray.size]; have := HN2.out; omega
      rw [← hS] at HT1
      rw [← hSt] at hself hsn
      have HTT := hid HT1
      obtain ⟨X, hX⟩ : ∃ X, X = firstI M L (A.take k) S.data.toList := ⟨_, rfl⟩
      have HSELF := hid hself
      have HSN := hid hsn
      have HTC := hid htc
      have HSZ := hid hSz
      have HX := hid hX
      have HMAP := hid hmap
      have HOWN := hid hown
      have HKP := hid hkp
      have HBWR := hid hbwr
      have M1 := hid (show k + 1 ≤ maxLen by unfold maxLen; omega)
      have M2 := hid (show (k + 1) * 8 ≤ 140737488355328 by omega)
      have M4 := hid (show k < maxLen by unfold maxLen; omega)
      have hsw := hkp.size
      have hb0r : b0 < wr.heap.size := by omega
      have hs0 : wr.heap.size = wr.heap.size := rfl
      clear hSt hS hI hf hlen hok hkl htk HT1 hself hsn htc hSz hX hmap hown hkp hbwr hat hkA hs0
      obtain ⟨kind, row, pixel⟩ := f
      simp only [Flt.val, fltCells] at HTT
      simp only [] at k0 k1 k2
      go_wp2_with (go_at_call 78; refine HTT.out.mono ?_; rintro e w3 ⟨rfl, hb3⟩; refine Stop.of ?_)
      refine Stop.go ?_
      have hb3' : Below wr.heap.size wr w3 := ((Below.refl _ wr).alloc (Nat.le_refl _) _).trans (hb3.mono (by simp))
      have HM3 := hid (map_keep (S := fun _ => True) HMAP.out (Keep.of_below hb3') trivial)
      have HO3 := hid (show w3.ownsRow w1.heap.size 3 1 u6 k ((classTo M L k).map (Value.int .i64)) from own_below HOWN.out hb3')
      have HB3 := hid hb3'
      have hs3 := hb3'.size
      clear hb3 hb3' k0 k1 k2
      go_wp2_with (at_lookup; refine wpList_lookup_si_ok _ rfl _ _ 99 rfl 9 3 Tryz.underlying9 Tryz.underlying99 Tryz.underlying3 (Tryz.zeroValue3 _) b0 _ D _ HD.out rfl HM3.out S rfl HSZ.out X HX.out ?_; refine Stop.of ?_)
      refine Stop.go ?_
      cases X with
      | none =>
        simp only [Option.getD_none, Option.isSome_none]
        have hD2 : MapSI (D.put (.string S.data.toList) (.lit (.int .i64 k))) (firstI M L (A.take (k + 1))) := by
          have h9 := HD.out.put S.data.toList (k : Int)
          have e : firstI M L (A.take (k + 1)) = fun t => if t = S.data.toList then some (k : Int) else firstI M L (A.take k) t := by
            funext t
            rw [HSN.out t]
            by_cases e : t = S.data.toList
            · subst e; rw [if_pos rfl, if_pos rfl, ← HX.out]; rfl
            · rw [if_neg e, if_neg e]
          rw [e]; exact h9
        have HD2 := hid hD2
        have hel : plainElem (H := Unit) Tryz.prog 3 (.int .i64 (k : Int)) = some (.lit (.int .i64 k), []) := plainElem_int Tryz.underlying3 (wf_nat k (by omega))
        have HEL := hid hel
        clear hD2 hel
        go_wp2_with (at_mapUpdate; refine wpList_mapUpdate_own _ rfl _ _ _ 99 rfl 9 3 (string_keyed Tryz.underlying9) Tryz.underlying99 _ b0 _ D rfl HM3.out M4.out _ _ _ rfl rfl (keyS Tryz.underlying9 HSZ.out) _ [] HEL.out ?_; refine Stop.of ?_)
        refine Stop.go ?_
        intro w5 hown5 hg5
        have hg5s := hg5.size
        have HM5 := hid hown5
        have hK5 : Keep (fun q => q ≠ b0) w3 w5 := (Keep.grown hg5).mono fun q hq e => hq (by simpa using e)
        have HO5 := hid (own_keep HO3.out hK5 (fun q hq => by omega))
        have HK5 := hid hK5
        clear hown5 hg5 hK5
        go_wp2_with (at_lookup; refine wpList_lookup_si_one _ rfl _ _ 99 rfl 9 3 Tryz.underlying9 Tryz.underlying99 Tryz.underlying3 (Tryz.zeroValue3 _) b0 _ _ _ HD2.out rfl HM5.out S rfl HSZ.out I HSELF.out ?_; refine Stop.of ?_)
        refine Stop.go ?_
        have M3 := hid (show w1.heap.size ≤ (w5.alloc (.cells #[.int .i64 I] 3)).heap.size by simp; omega)
        go_wp2_with (at_builtin; refine wpList_app _ rfl (.tmp 36) (.tmp 40) 27 rfl w1.heap.size 3 (.int .i64 0) 1 8 Tryz.underlying27 info_int rfl Nat.one_pos u6 k _ rfl (HO5.out.alloc _) (some ⟨w5.heap.size, 0, none⟩) 1 1 [.int .i64 I] rfl rfl no_none (one_news w5 _ _) (one_int _) M1.out M2.out M3.out ?_; refine Stop.of ?_)
        refine Stop.go ?_
        intro a7 c7 w7 own7 g7
        have hK7 : Keep (fun q => q < w1.heap.size) w5 w7 := (Keep.of_below ((Below.refl _ w5).alloc (Nat.le_refl _) _) : Keep (fun q => q < w1.heap.size) w5 (w5.alloc (.cells #[.int .i64 I] 3))).trans ((Keep.grown g7).mono fun q hq e => by have := (HO5.out.lt q e.symm).1; omega)
        have HM7 := map_keep HM5.out hK7 hb01
        have hKA : Keep (fun q => q ≠ b0 ∧ q < w1.heap.size) wr w7 := ((Keep.of_below HB3.out).trans (HK5.out.mono fun q hq => hq.1)).trans (hK7.mono fun q hq => hq.2)
        have hKB : Keep (fun q => q ≠ b0) w1 w7 := keep_cut HKP.out hKA
        go_wp2
        refine ⟨⟨k + 1, _, by omega, by go_num, ?_, HM7, HD2, hKB⟩, by simp [intOf]; omega⟩
        rw [HTC.out, List.map_append]
        exact own7
      | some i =>
        simp only [Option.getD_some, Option.isSome_some]
        have hD2 : MapSI D (firstI M L (A.take (k + 1))) := by
          have e : firstI M L (A.take (k + 1)) = firstI M L (A.take k) := by
            funext t
            rw [HSN.out t]
            by_cases e : t = S.data.toList
            · subst e; rw [if_pos rfl, ← HX.out]; rfl
            · rw [if_neg e]
          rw [e]; exact HD.out
        have HD2 := hid hD2
        clear hD2
        go_wp2_with (at_lookup; refine wpList_lookup_si_one _ rfl _ _ 99 rfl 9 3 Tryz.underlying9 Tryz.underlying99 Tryz.underlying3 (Tryz.zeroValue3 _) b0 _ D _ HD2.out rfl HM3.out S rfl HSZ.out I HSELF.out ?_; refine Stop.of ?_)
        refine Stop.go ?_
        have M3 := hid (show w1.heap.size ≤ (w3.alloc (.cells #[.int .i64 I] 3)).heap.size by simp; omega)
        go_wp2_with (at_builtin; refine wpList_app _ rfl (.tmp 36) (.tmp 40) 27 rfl w1.heap.size 3 (.int .i64 0) 1 8 Tryz.underlying27 info_int rfl Nat.one_pos u6 k _ rfl (HO3.out.alloc _) (some ⟨w3.heap.size, 0, none⟩) 1 1 [.int .i64 I] rfl rfl no_none (one_news w3 _ _) (one_int _) M1.out M2.out M3.out ?_; refine Stop.of ?_)
        refine Stop.go ?_
        intro a7 c7 w7 own7 g7
        have hK7 : Keep (fun q => q < w1.heap.size) w3 w7 := (Keep.of_below ((Below.refl _ w3).alloc (Nat.le_refl _) _) : Keep (fun q => q < w1.heap.size) w3 (w3.alloc (.cells #[.int .i64 I] 3))).trans ((Keep.grown g7).mono fun q hq e => by have := (HO3.out.lt q e.symm).1; omega)
        have HM7 := map_keep HM3.out hK7 hb01
        have hKA : Keep (fun q => q ≠ b0 ∧ q < w1.heap.size) wr w7 := (Keep.of_below HB3.out).trans (hK7.mono fun q hq => hq.2)
        have hKB : Keep (fun q => q ≠ b0) w1 w7 := keep_cut HKP.out hKA
        go_wp2
        refine ⟨⟨k + 1, _, by omega, by go_num, ?_, HM7.mono (by omega), HD2, hKB⟩, by simp [intOf]; omega⟩
        rw [HTC.out, List.map_append]
        exact own7
    · obtain rfl : k = N := by omega
      rw [HN.out, HA.out, classTo_all] at hown
      have HOW := hid hown
      have HBE := hid (hkp.below hbw1 hbw1.size (fun q hq => by have := HB0.out; omega))
      clear hown hmap hkp
      go_wp2
      go_ret
      refine ⟨u6, w1.heap.size, rfl, hbw1.size, ?_, HBE.out⟩
      exact HOW.out
end Go.Proofs.YthaampmdponhbaaGreatDoor
