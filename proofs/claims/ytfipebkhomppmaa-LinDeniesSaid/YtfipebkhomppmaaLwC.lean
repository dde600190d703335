/- Walk: Reduce (package part). -/
import Derived.Test.YtfipebkhomppmaaLwB
import Derived.Test.YtfipebkhomppmaaTakeU
import Derived.Maps.RangeWalk
import Derived.Deep.CutRange
import Derived.Test.YtfipebkhomppmaaLinH
namespace Go.Proofs.Ytfipebkhomppmaa
open Go.RowKit
set_option linter.unusedVariables false

theorem li_int : (Try.prog.info? 3).map (fun i => (i.zero, i.size, i.bytes)) = some (some (.int .i64 0), 1, 8) := by kernel_rfl
theorem li_ints : (Try.prog.info? 31).map (fun i => (i.zero, i.size, i.bytes)) = some (some (.slice none 0 0), 1, 24) := by kernel_rfl
theorem li_one (x : Int) : ∀ u ∈ [Value.int .i64 x], u.oneCell' = true := by intro u hu; simp at hu; subst hu; rfl

/-- a predicate on slices of ints, for those that meet ok -/
def PredRok (P : Program) (g : Nat) (lb : Array Value) (w : World) (ok : List Int → Prop) (p : List Int → Bool) : Prop :=
  ∀ (l : List Int) (v : Value) (W : World), ok l → Below w.heap.size w W → SlV W v l → Calls P g (#[v] ++ lb) W fun e W' => e = .returned (.bool (p l)) ∧ Below W.heap.size W W'

theorem indexRok (w : World) (a : Option Addr) (n cap : Nat) (l : List (List Int)) (hn : l.length = n) (hm : n ≤ maxLen) (H : RowsAt w a l) (g : Nat) (lb : Array Value) (ok : List Int → Prop) (p : List Int → Bool)
    (eg : ∀ args w, (callFunc g args).run Try.prog w = .ok (.enter g args) w) (hp : PredRok Try.prog g lb w ok p) (hok : ∀ x ∈ l, ok x) :
    Calls Try.prog 129 #[.slice a n cap, .func (.func g) #[] lb] w fun e w' => e = .returned (.int .i64 (idxP p l 0)) ∧ Below w.heap.size w w' := by
  have HN := hid hn
  have HH := hid H
  have HP := hid hp
  have HOK := hid hok
  clear hn H hp hok
  unfold maxLen at hm
  go_enter Try.func129, Try.ntmps129
  go_wp2
  go_loopw [8] (fun i wr => ∃ k : Nat, k ≤ n ∧ i = .int .i64 k ∧ Below w.heap.size w wr ∧ ∀ i y, i < k → l[i]? = some y → p y = false) (fun i _ => n - (intOf i).toNat)
  case atStart => exact ⟨0, Nat.zero_le _, rfl, Below.refl _ _, fun i y h => by omega⟩
  case round =>
    obtain ⟨k, hk, rfl, hb, hno⟩ := hrel
    have HNO := hid hno
    clear hno
    by_cases hlt : k < n
    · have hkl : k < l.length := by rw [HN.out]; exact hlt
      obtain ⟨b, off, ra, rn, rc, rfl, hbs, h0, hrn, hrm, hri⟩ := (HH.out.below hb) k hkl
      have HV := hid (show SlV wr (.slice ra rn rc) l[k] from ⟨ra, rn, rc, rfl, hrn, hrm, hri⟩)
      clear hrn hri
      have HK := hid (List.getElem?_eq_getElem hkl)
      have HO := hid (HOK.out _ (List.getElem_mem hkl))
      cases hpx : p l[k]
      · go_wp2_with (refine (HP.out _ _ _ HO.out hb HV.out).mono ?_; rintro e w1 ⟨rfl, hb1⟩)
        refine ⟨⟨k + 1, by omega, by go_num, chain hb hb1, ?_⟩, by simp [intOf]; omega⟩
        intro i y hi hy
        by_cases e : i = k
        · subst e; rw [HK.out] at hy; cases hy; exact hpx
        · exact HNO.out i y (by omega) hy
      · go_wp2_with (refine (HP.out _ _ _ HO.out hb HV.out).mono ?_; rintro e w1 ⟨rfl, hb1⟩)
        go_ret
        refine ⟨ret_int ?_, chain hb hb1⟩
        rw [idxP_at p l 0 k _ HK.out hpx HNO.out]; simp
    · go_wp2
      go_ret
      refine ⟨ret_int ?_, hb⟩
      rw [idxP_neg]
      intro x hx
      obtain ⟨i, hi, e⟩ := List.getElem_of_mem hx
      exact HNO.out i x (by have := HN.out; omega) (by rw [List.getElem?_eq_getElem hi, e])

/-- the index as findIdx? gives it -/
theorem idxP_find {α : Type} (p : α → Bool) : ∀ (l : List α) (k : Nat), idxP p l k = match l.findIdx? p with | some i => ((k + i : Nat) : Int) | none => -1
  | [], k => rfl
  | x :: l, k => by
    unfold idxP
    rw [List.findIdx?_cons]
    by_cases h : p x = true
    · rw [if_pos h, if_pos h]; simp
    · rw [if_neg h, if_neg h, idxP_find p l (k + 1)]
      cases l.findIdx? p with
      | none => rfl
      | some i => simp only [Option.map_some]; congr 1; omega

theorem reduce1 (w : World) (b j : Nat) (hb : b < w.heap.size) (hc : w.cell? ⟨b, 0, none⟩ = some (.int .i64 j)) : PredRok Try.prog 130 #[.pointer (some ⟨b, 0, none⟩)] w (fun l => j < l.length) (nz j) := by
  intro l v W hj hbw hv
  have hc' : W.cell? ⟨b, 0, none⟩ = some (.int .i64 j) := (hbw.cell (p := ⟨b, 0, none⟩) hb).trans hc
  obtain ⟨ra, rn, rc, rfl, hrn, hrm, hri⟩ := hv
  obtain ⟨b', off, rfl, hbs, hq⟩ := hri j hj
  have HNZ := hid (show nz j l = decide (l[j]?.getD 0 ≠ 0) from rfl)
  obtain ⟨x, hx⟩ : ∃ x, x = l[j]?.getD 0 := ⟨_, rfl⟩
  rw [← hx] at hq HNZ
  have hjn : j < rn := by omega
  unfold maxLen at hrm
  clear hx hri hrn hc hj
  by_cases h0 : x = 0
  all_goals
    have hd : (x != 0) = decide (x ≠ 0) := by rw [Bool.eq_iff_iff]; simp
    have HX := hid h0
    first
      | rw [decide_eq_false (by simpa using h0)] at hd
      | rw [decide_eq_true h0] at hd
    clear h0
    go_enter Try.func130, Try.ntmps130
    go_wp2
    go_ret
    exact ⟨ret_bool (by rw [HNZ.out]; have := HX.out; simp [this]), Below.refl _ _⟩

/-- rows cleared so far -/
def clearTo (L : List (List Int)) (p : List Int) (k j i : Nat) : List (List Int) := L.mapIdx (fun q row => if q < i then clear1 p k j q row else row)
theorem clearTo_len (L : List (List Int)) (p : List Int) (k j i : Nat) : (clearTo L p k j i).length = L.length := by simp [clearTo]
theorem clearTo_zero (L : List (List Int)) (p : List Int) (k j : Nat) : clearTo L p k j 0 = L := by
  refine List.ext_getElem (by simp [clearTo]) fun i h1 h2 => ?_
  simp [clearTo]
theorem clearTo_all (L : List (List Int)) (p : List Int) (k j : Nat) : clearTo L p k j L.length = L.mapIdx (clear1 p k j) := by
  refine List.ext_getElem (by simp [clearTo]) fun i h1 h2 => ?_
  have : i < L.length := by simpa using h2
  simp [clearTo, this]
theorem clearTo_get {L : List (List Int)} {p : List Int} {k j i q : Nat} (hq : q < L.length) : (clearTo L p k j i)[q]'(by rw [clearTo_len]; exact hq) = if q < i then clear1 p k j q L[q] else L[q] := by simp [clearTo]
theorem clearTo_set {L : List (List Int)} {p : List Int} {k j i : Nat} (hi : i < L.length) : (clearTo L p k j i).set i (clear1 p k j i L[i]) = clearTo L p k j (i + 1) := by
  refine List.ext_getElem (by simp [clearTo]) fun q h1 h2 => ?_
  have hq : q < L.length := by simpa [clearTo] using h2
  rw [List.getElem_set]
  by_cases e : i = q
  · subst e; rw [if_pos rfl, clearTo_get hi, if_pos (by omega)]
  · rw [if_neg e, clearTo_get hq, clearTo_get hq]
    by_cases c : q < i
    · rw [if_pos c, if_pos (by omega)]
    · rw [if_neg c, if_neg (by omega)]

/-- blocks below base and from top on stay -/
def Out (base top : Nat) (k : Nat) : Prop := k < base ∨ top ≤ k

theorem pRed_K (L : List (List Int)) : ∀ t, (pRed L t).2.length ≤ L.length
  | 0 => Nat.zero_le _
  | t + 1 => by
    rw [pRed_succ]
    have h := pRed_K L t
    have hl := pRed_len L t
    unfold pStep
    split
    · exact h
    · rename_i a ha
      obtain ⟨h1, _⟩ := findIdx_some ha
      rw [List.length_drop] at h1
      simp only [List.length_append, List.length_singleton]
      omega
theorem rows_drop {w : World} {g0 : Nat} {L : List (List Int)} (h : RowsAt w (some ⟨g0, 0, none⟩) L) (k : Nat) : RowsAt w (some ⟨g0, k, none⟩) (L.drop k) := by
  intro j hj
  have hjk : k + j < L.length := by rw [List.length_drop] at hj; omega
  obtain ⟨b, off, ra, n, cap, e, hlt, h0, hn, hm, hi⟩ := h (k + j) hjk
  cases e
  refine ⟨g0, k, ra, n, cap, rfl, hlt, by simpa using h0, ?_, hm, ?_⟩ <;> simp only [List.getElem_drop] <;> assumption
theorem pStep_none {R : List (List Int)} {J : List Nat} {j : Nat} (h : (R.drop J.length).findIdx? (nz j) = none) : pStep (R, J) j = (R, J) := by
  unfold pStep; simp only [h]
theorem pStep_some {R : List (List Int)} {J : List Nat} {j a : Nat} (h : (R.drop J.length).findIdx? (nz j) = some a) : pStep (R, J) j = (clearAll (swapF R J.length (J.length + a)) J.length j, J ++ [j]) := by
  unfold pStep; simp only [h]

set_option maxRecDepth 100000 in
set_option maxHeartbeats 8000000 in
theorem reduce_c (w : World) (base : Nat) (v0 : Value) (L : List (List Int)) (W : Nat) (hO : OwnT w base w.heap.size v0 L) (hbase : base ≤ w.heap.size) (hw : ∀ r ∈ L, r.length = W) (hW : W ≤ 1000) (hN : L.length ≤ 6) (hN1 : 0 < L.length) (n : Nat) (hn : n ≤ W)
    (hB : ∀ t, t ≤ n → ∀ r ∈ (pRed L t).1, r.length = W ∧ BndL 1073741824 r) :
    Calls Try.prog 78 #[v0, .int .i64 n] w fun e w' => ∃ v, e = .returned v ∧ w'.ownsRow w.heap.size 3 1 v (pRed L n).2.length ((pRed L n).2.map (fun j : Nat => Value.int .i64 j)) ∧ OwnT w' base w.heap.size v0 (pRed L n).1 ∧ Below base w w' := by
  have HO := hid hO
  have HB := hid hB
  have HL := hid (fun t => pRed_len L t)
  have HBA := hid hbase
  have HSU := hid (fun t => pRed_succ L t)
  obtain ⟨g0, cap, _, _, hv, _⟩ := hO.at 0 hN1
  subst hv
  obtain ⟨N, hNe⟩ : ∃ N, N = L.length := ⟨_, rfl⟩
  rw [← hNe] at HO HL hN hN1 ⊢
  have HN := hid hNe
  have HW := hid hw
  clear hO hB hbase hNe hw
  go_enter Try.func78, Try.ntmps78
  go_wp2
  go_loopw [5, 13] (fun v i wr => ∃ j : Nat, j ≤ n ∧ i = .int .i64 j ∧ wr.ownsRow w.heap.size 3 1 v (pRed L j).2.length ((pRed L j).2.map (fun j : Nat => Value.int .i64 j)) ∧ OwnT wr base w.heap.size (.slice (some ⟨g0, 0, none⟩) N cap) (pRed L j).1 ∧ Below base w wr) (fun _ i _ => n - (intOf i).toNat)
  case atStart => exact ⟨0, Nat.zero_le _, rfl, World.ownsRow_nil _ _ _ _, HO.out, Below.refl _ _⟩
  case round =>
    obtain ⟨j, hj, rfl, hown, hT, hbk⟩ := hrel
    obtain ⟨wo, hwo⟩ : ∃ wo, wo = wr := ⟨_, rfl⟩
    subst hwo
    by_cases hlt : j < n
    · have hlt' : (j : Int) < (n : Int) := by omega
      have hrl := HL.out j
      have hKN := pRed_K L j
      have hsu := HSU.out j
      have hbnd := HB.out j (by omega)
      have hbnd2 := HB.out (j + 1) (by omega)
      rw [hsu] at hbnd2
      have HSJ := hid hsu
      obtain ⟨R, hR⟩ : ∃ R, R = (pRed L j).1 := ⟨_, rfl⟩
      obtain ⟨J, hJ⟩ : ∃ R, R = (pRed L j).2 := ⟨_, rfl⟩
      have hRJ : pRed L j = (R, J) := by rw [hR, hJ]
      rw [hRJ] at hbnd2
      rw [hRJ] at HSJ
      rw [← hR] at hrl hT hbnd
      rw [← hJ] at hown hKN
      rw [← HN.out] at hKN
      obtain ⟨K, hK⟩ : ∃ K, K = J.length := ⟨_, rfl⟩
      rw [← hK] at hown hKN
      have HK := hid hK
      have HRL := hid hrl
      have HBD := hid hbnd
      have HBD2 := hid hbnd2
      have HT := hid hT
      have HBK := hid hbk
      have hsz := hbk.size
      obtain ⟨vp, vcap, rfl⟩ := ownsRow_slice hown
      have HOW := hid hown
      have hrows := hT.rowsAt hrl (fun r hr => by rw [(hbnd r hr).1]; unfold maxLen; omega)
      obtain ⟨_, _, _, hNc, hcm, hfz0, _⟩ := hT.info hrl
      unfold maxLen at hcm
      have HFZ := hid hfz0
      have hbx : Below wo.heap.size wo (wo.alloc (.cells #[.int .i64 j] 3)) := (Below.refl _ _).alloc (Nat.le_refl _) _
      have HPR := hid (reduce1 (wo.alloc (.cells #[.int .i64 j] 3)) wo.heap.size j (by simp) (by rw [World.cell?_alloc_at _ _ _ _ rfl]; rfl))
      have HRW := hid (rows_drop (hrows.below hbx) K)
      have HBX := hid hbx
      clear hsu hR hJ hRJ hK hrl hbnd hbnd2 hown hT hbk hrows hbx
      by_cases hKlt : K < N
      · have hk1 : (0 : Int) ≤ (K : Int) := by omega
        have hk2 : (K : Int) ≤ (N : Int) := by omega
        have hcK : ¬ (cap = K) := by omega
        have HI := hid (indexRok (wo.alloc (.cells #[.int .i64 j] 3)) (some ⟨g0, K, none⟩) (N - K) (cap - K) (R.drop K) (by rw [List.length_drop, HRL.out]) (by unfold maxLen; omega) HRW.out 130 #[.pointer (some ⟨wo.heap.size, 0, none⟩)] _ _ (enters_of Try.func130 (by kernel_rfl) rfl) HPR.out (fun x hx => by have := (HBD.out x (List.mem_of_mem_drop hx)).1; omega))
        rw [idxP_find] at HI
        cases hf : (R.drop K).findIdx? (nz j) with
        | none =>
          rw [hf] at HI
          simp only [] at HI
          have HE := hid (show pRed L (j + 1) = (R, J) by rw [HSJ.out]; exact pStep_none (by rw [← HK.out]; exact hf))
          clear hf HPR HRW hfz0
          go_wp2_with (go_at_call 129; refine HI.out.mono ?_; rintro e w1 ⟨rfl, hb1⟩)
          have hbw := chain HBX.out hb1
          refine ⟨⟨j + 1, by omega, by go_num, ?_, ?_, ?_⟩, by simp [intOf]; omega⟩
          · rw [HE.out]
            simp only []
            rw [← HK.out]
            exact own_below HOW.out hbw
          · rw [HE.out]
            exact HT.out.keep fun k _ _ hk => hbw.block k hk
          · exact HBK.out.trans (hbw.mono HBK.out.size |>.mono (by have := HBA.out; omega))
        | some a =>
          rw [hf] at HI
          simp only [Nat.zero_add] at HI
          have HE := hid (show pRed L (j + 1) = (clearAll (swapF R K (K + a)) K j, J ++ [j]) by rw [HSJ.out, pStep_some (by rw [← HK.out]; exact hf), ← HK.out])
          obtain ⟨ha1, ha2⟩ := findIdx_some hf
          rw [List.length_drop, HRL.out] at ha1
          rw [List.getElem_drop] at ha2
          have HA2 := hid ha2
          clear hf ha2 HPR HRW hfz0
          go_wp2_with (go_at_call 129; refine HI.out.mono ?_; rintro e w1 ⟨rfl, hb1⟩; refine Stop.of ?_)
          refine Stop.go ?_
          have hbw := chain HBX.out hb1
          have hbw' := hbw
          have hT1 : OwnT w1 base w.heap.size (.slice (some ⟨g0, 0, none⟩) N cap) R := HT.out.keep fun k _ _ hk => hbw.block k hk
          have hia : K + a < R.length := by rw [HRL.out]; omega
          have hiK : K < R.length := by rw [HRL.out]; omega
          obtain ⟨gK, cK, c1, _, _, _, hsK, _⟩ := hT1.row HRL.out K hiK
          obtain ⟨gA, cA, c2, _, _, _, hsA, _⟩ := hT1.row HRL.out (K + a) hia
          obtain ⟨hdK, hhK⟩ : ∃ h, h = Value.slice (some ⟨gK, 0, none⟩) R[K].length cK := ⟨_, rfl⟩
          obtain ⟨hdA, hhA⟩ : ∃ h, h = Value.slice (some ⟨gA, 0, none⟩) R[K + a].length cA := ⟨_, rfl⟩
          rw [← hhK] at c1
          rw [← hhA] at c2
          obtain ⟨_, _, hg0, _, _, hz0, _⟩ := hT1.info HRL.out
          have HS := hid (fun (X : World) (h : X.heap = w1.heap) => show X.cell? ⟨g0, K, none⟩ = some hdK ∧ X.cell? ⟨g0, K + a, none⟩ = some hdA from ⟨by unfold World.cell? at c1 ⊢; rw [h]; exact c1, by unfold World.cell? at c2 ⊢; rw [h]; exact c2⟩)
          have HZ := hid hz0
          have hzK := hz0 K
          have hzA := hz0 (K + a)
          have HT1 := hid hT1
          have HHK := hid hhK
          have HHA := hid hhA
          have HC1 := hid c1
          have HC2 := hid c2
          have ha3 : (0 : Int) ≤ (K : Int) + (a : Int) := by omega
          have ha4 : (K : Int) + (a : Int) < (N : Int) := by omega
          have ha5 : (K : Int) < (N : Int) := by omega
          have HW := hid (show IntKind.i64.wrap ((K : Int) + a) = (K : Int) + a from IntWalk.i64_in _ (by omega))
          clear hT1 hhK hhA hsK hsA hz0
          go_wp2
          have hwe := HW.out
          refine plain_region (fun j X => w2 11 15 j = true → X.cell? ⟨g0, K, none⟩ = some hdK ∧ X.cell? ⟨g0, K + a, none⟩ = some hdA) (by kernel_rfl) ?_
          refine AnyT.takeP (i := 0) (v := .slice (some ⟨g0, 0, none⟩) N cap) rfl rfl rfl (by kernel_rfl) (by kernel_rfl) (by kernel_rfl) (by first | exact (fun _ _ _ h => h) | exact (fun _ _ _ h => absurd h.1 (by simp))) (by rfl) (by intro w'; go_simp) ?_; go_frame
          refine AnyT.takeP (i := 1) (v := .int .i64 K) rfl rfl rfl (by kernel_rfl) (by kernel_rfl) (by kernel_rfl) (by first | exact (fun _ _ _ h => h) | exact (fun _ _ _ h => absurd h.1 (by simp))) (by rfl) (by intro w'; go_simp) ?_; go_frame
          refine AnyT.takeP (i := 2) (v := .slice (some ⟨g0, 0, none⟩) N cap) rfl rfl rfl (by kernel_rfl) (by kernel_rfl) (by kernel_rfl) (by first | exact (fun _ _ _ h => h) | exact (fun _ _ _ h => absurd h.1 (by simp))) (by rfl) (by intro w'; go_simp) ?_; go_frame
          refine AnyT.takeP (i := 3) (v := .int .i64 K) rfl rfl rfl (by kernel_rfl) (by kernel_rfl) (by kernel_rfl) (by first | exact (fun _ _ _ h => h) | exact (fun _ _ _ h => absurd h.1 (by simp))) (by rfl) (by intro w'; go_simp) ?_; go_frame
          refine AnyT.takeP (i := 4) (v := .int .i64 a) rfl rfl rfl (by kernel_rfl) (by kernel_rfl) (by kernel_rfl) (by first | exact (fun _ _ _ h => h) | exact (fun _ _ _ h => absurd h.1 (by simp))) (by rfl) (by intro w'; go_simp) ?_; go_frame
          refine AnyT.takeP (i := 5) (v := .int .i64 ((K : Int) + (a : Int))) rfl rfl rfl (by kernel_rfl) (by kernel_rfl) (by kernel_rfl) (by first | exact (fun _ _ _ h => h) | exact (fun _ _ _ h => absurd h.1 (by simp))) (by rfl) (by intro w'; go_simp) ?_; go_frame
          refine AnyT.takeP (i := 6) (v := .slice (some ⟨g0, 0, none⟩) N cap) rfl rfl rfl (by kernel_rfl) (by kernel_rfl) (by kernel_rfl) (by first | exact (fun _ _ _ h => h) | exact (fun _ _ _ h => absurd h.1 (by simp))) (by rfl) (by intro w'; go_simp) ?_; go_frame
          refine AnyT.takeP (i := 7) (v := .int .i64 K) rfl rfl rfl (by kernel_rfl) (by kernel_rfl) (by kernel_rfl) (by first | exact (fun _ _ _ h => h) | exact (fun _ _ _ h => absurd h.1 (by simp))) (by rfl) (by intro w'; go_simp) ?_; go_frame
          refine AnyT.takeP (i := 8) (v := .int .i64 a) rfl rfl rfl (by kernel_rfl) (by kernel_rfl) (by kernel_rfl) (by first | exact (fun _ _ _ h => h) | exact (fun _ _ _ h => absurd h.1 (by simp))) (by rfl) (by intro w'; go_simp) ?_; go_frame
          refine AnyT.takeP (i := 9) (v := .int .i64 ((K : Int) + (a : Int))) rfl rfl rfl (by kernel_rfl) (by kernel_rfl) (by kernel_rfl) (by first | exact (fun _ _ _ h => h) | exact (fun _ _ _ h => absurd h.1 (by simp))) (by rfl) (by intro w'; go_simp) ?_; go_frame
          refine AnyT.takeP (i := 10) (v := .pointer (some ⟨g0, K + a, none⟩)) rfl rfl rfl (by kernel_rfl) (by kernel_rfl) (by kernel_rfl) (by first | exact (fun _ _ _ h => h) | exact (fun _ _ _ h => absurd h.1 (by simp))) (by rfl) (by intro w'; go_simp) ?_; go_frame
          refine AnyT.takeP (i := 12) (v := .slice (some ⟨g0, 0, none⟩) N cap) rfl rfl rfl (by kernel_rfl) (by kernel_rfl) (by kernel_rfl) (by first | exact (fun _ _ _ h => h) | exact (fun _ _ _ h => absurd h.1 (by simp))) (by rfl) (by intro w'; go_simp) ?_; go_frame
          refine AnyT.takeP (i := 13) (v := .int .i64 K) rfl rfl rfl (by kernel_rfl) (by kernel_rfl) (by kernel_rfl) (by first | exact (fun _ _ _ h => h) | exact (fun _ _ _ h => absurd h.1 (by simp))) (by rfl) (by intro w'; go_simp) ?_; go_frame
          refine AnyT.takeP (i := 14) (v := .pointer (some ⟨g0, K, none⟩)) rfl rfl rfl (by kernel_rfl) (by kernel_rfl) (by kernel_rfl) (by first | exact (fun _ _ _ h => h) | exact (fun _ _ _ h => absurd h.1 (by simp))) (by rfl) (by intro w'; go_simp) ?_; go_frame
          refine AnyT.takeS (i := 15) (v := hdK) rfl rfl (by kernel_rfl) (by kernel_rfl) (by kernel_rfl) (by first | exact (fun _ _ _ h => h) | exact (fun _ _ _ h => absurd h.1 (by simp))) (by kernel_rfl) (by rfl) (by rintro w' ⟨q4, q5⟩; go_simp) (HS.out _ rfl) ?_; go_frame
          refine AnyT.takeS (i := 11) (v := hdA) rfl rfl (by kernel_rfl) (by kernel_rfl) (by kernel_rfl) (by first | exact (fun _ _ _ h => h) | exact (fun _ _ _ h => absurd h.1 (by simp))) (by kernel_rfl) (by rfl) (by rintro w' ⟨q4, q5⟩; go_simp) (HS.out _ rfl) ?_; go_frame
          refine AnyT.takeP (i := 16) (v := .pointer (some ⟨g0, K, none⟩)) rfl rfl rfl (by kernel_rfl) (by kernel_rfl) (by kernel_rfl) (by first | exact (fun _ _ _ h => h) | exact (fun _ _ _ h => absurd h.1 (by simp))) (by rfl) (by intro w'; go_simp) ?_; go_frame
          obtain rfl := HHA.out
          obtain rfl := HHK.out
          refine AnyT.next (i := 17) (by kernel_rfl) rfl (wpOp_of_list rfl ?_)
          go_wp2
          refine ⟨fun h => absurd h (by decide), ?_⟩
          refine AnyT.takeP (i := 18) (v := .pointer (some ⟨g0, K + a, none⟩)) rfl rfl rfl (by kernel_rfl) (by kernel_rfl) (by kernel_rfl) (by first | exact (fun _ _ _ h => h) | exact (fun _ _ _ h => absurd h.1 (by simp))) (by rfl) (by intro w'; go_simp) ?_; go_frame
          have hzA2 : (w1.setCell ⟨g0, K, none⟩ (.slice (some ⟨gA, 0, none⟩) R[K + a].length cA)).frozen? ⟨g0, K + a, none⟩ = false := by
            rw [World.frozen?_setCell]; exact HZ.out _
          obtain ⟨vy, hy⟩ := cell?_setCell_some (w := w1) (p := ⟨g0, K, none⟩) (x := .slice (some ⟨gA, 0, none⟩) R[K + a].length cA) (q := ⟨g0, K + a, none⟩) (v := .slice (some ⟨gA, 0, none⟩) R[K + a].length cA) c2
          refine AnyT.next (i := 19) (by kernel_rfl) rfl (wpOp_of_list rfl ?_)
          go_wp2
          refine ⟨fun h => absurd h (by decide), ?_⟩
          refine AnyT.done (by kernel_rfl) ?_ _
          obtain ⟨hsw, hswk⟩ := HT1.out.swap hiK hia (by rw [HRL.out]) HC1.out HC2.out
          obtain ⟨w2, hw2⟩ : ∃ w2, w2 = ((w1.setCell ⟨g0, K, none⟩ (.slice (some ⟨gA, 0, none⟩) R[K + a].length cA)).setCell ⟨g0, K + a, none⟩ (.slice (some ⟨gK, 0, none⟩) R[K].length cK)).drew := ⟨_, rfl⟩
          rw [← hw2]
          have hR2 : (R.set K R[K + a]).set (K + a) R[K] = swapF R K (K + a) := by
            unfold swapF; rw [List.getElem?_eq_getElem hia, List.getElem?_eq_getElem hiK]; rfl
          rw [hR2] at hsw
          have hT2 : OwnT w2 base w.heap.size (.slice (some ⟨g0, 0, none⟩) N cap) (swapF R K (K + a)) := by rw [hw2]; exact hsw
          have hk2 : Keep (fun k => k ≠ g0) w1 w2 := by
            rw [hw2]
            exact (((Keep.set w1 g0 K _).trans (Keep.set _ g0 (K + a) _)).drewN 1)
          have hR2K : (swapF R K (K + a))[K]?.getD [] = R[K + a] := by
            rw [swapF_get hiK hia, if_pos rfl, List.getElem?_eq_getElem hia]; rfl
          have hR2b : ∀ r ∈ swapF R K (K + a), r.length = W ∧ BndL 1073741824 r := by
            intro r hr
            obtain ⟨q, hq, rfl⟩ := List.mem_iff_getElem.1 hr
            rw [swapF_len] at hq
            have e := swapF_get hiK hia q
            rw [List.getElem?_eq_getElem (by rw [swapF_len]; exact hq)] at e
            simp only [Option.getD_some] at e
            rw [e]
            have hlt : (if q = K then K + a else if q = K + a then K else q) < R.length := by split <;> (try split) <;> omega
            rw [List.getElem?_eq_getElem hlt]
            exact HBD.out _ (List.getElem_mem hlt)
          have hR2l : (swapF R K (K + a)).length = N := by rw [swapF_len, HRL.out]
          obtain ⟨R2, hRe⟩ : ∃ R2, R2 = swapF R K (K + a) := ⟨_, rfl⟩
          rw [← hRe] at hT2 hR2K hR2b hR2l HE
          have HAA := hid HA2.out
          have hbx2 : w2.cell? ⟨wo.heap.size, 0, none⟩ = some (.int .i64 j) := by
            have hb0 : w1.cell? ⟨wo.heap.size, 0, none⟩ = some (.int .i64 j) := by
              rw [hb1.cell (p := ⟨wo.heap.size, 0, none⟩) (by simp), World.cell?_alloc_at _ _ _ _ rfl]; rfl
            exact hk2.cell hb0 (by omega)
          have HBX2 := hid hbx2
          have HT2 := hid hT2
          have HK2 := hid hk2
          have HR2B := hid hR2b
          have HR2L := hid hR2l
          have hKR : K < R2.length := by omega
          have hrow : R2[K] = R[K + a] := by rw [← hR2K, List.getElem?_eq_getElem hKR]; rfl
          have HNZ := hid (show vec R2[K] j ≠ 0 by rw [hrow]; simpa [nz] using HA2.out)
          obtain ⟨gP, cP, c3, hP1, hP2, hP3, hsP, hput⟩ := hT2.row hR2l K hKR
          have hjl : j < R2[K].length := by rw [(hR2b _ (List.getElem_mem hKR)).1]; omega
          have hPl : R2[K].length = W := (hR2b _ (List.getElem_mem hKR)).1
          have hPb := (hR2b _ (List.getElem_mem hKR)).2
          obtain ⟨P, hP⟩ : ∃ P, P = R2[K] := ⟨_, rfl⟩
          rw [← hP] at c3 hsP hput HNZ hjl hPl hPb
          have c4 := hsP.cell hjl
          have hPj := hPb.get hjl
          obtain ⟨x, hx⟩ : ∃ x, x = P[j]?.getD 0 := ⟨_, rfl⟩
          rw [← hx] at c4 hPj
          have HX := hid (show vec P j = x from hx.symm)
          rw [hPl] at c3
          have HSP := hid hsP
          have HPUT := hid hput
          have HP := hid hP
          have HPL := hid hPl
          have HPB := hid hPb
          have HRE := hid hRe
          have hjW : (j : Int) < (W : Int) := by omega
          have hj0 : (0 : Int) ≤ (j : Int) := by omega
          clear hw2 hsw hswk hR2 hT2 hk2 hR2K hR2b hR2l hRe hrow hsP hput hjl hPl hPb hx hP hbw c1 c2 hy hzK hzA hzA2 HZ HS HW HC1 HC2 HA2 HT1
          go_wp2
          go_quiet (fail)
          go_upto_if 50 with (fail)
          have HT3 := hid (show OwnT (w2.drewN nq) base w.heap.size (.slice (some ⟨g0, 0, none⟩) N cap) R2 from HT2.out)
          have HK3 := hid (show Keep (fun k => k ≠ g0) w1 (w2.drewN nq) from HK2.out.drewN nq)
          have HSP3 := hid (show SpRow (w2.drewN nq) gP P from HSP.out)
          have HC3 := hid (show (w2.drewN nq).cell? ⟨g0, K, none⟩ = some (.slice (some ⟨gP, 0, none⟩) W cP) from c3)
          have HBX3 := hid (show (w2.drewN nq).cell? ⟨wo.heap.size, 0, none⟩ = some (.int .i64 j) from hbx2)
          have HPUT3 := hid (fun (w' : World) (r' : List Int) (h1 : r'.length = P.length) (h2 : SpRow w' gP r') (h3 : ∀ k, base ≤ k → k < w.heap.size → k < (w2.drewN nq).heap.size → k ≠ gP → w'.heap[k]? = (w2.drewN nq).heap[k]?) => HPUT.out w' r' h1 h2 h3)
          clear HT2 HK2 HSP HBX2 HPUT c3 c4 hbx2
          generalize w2.drewN nq = w3 at HT3 HK3 HSP3 HC3 HBX3 HPUT3 ⊢
          go_cut [9, 13] from 13 to 103 (fun s9 s13 wx => s13 = .int .i64 j ∧ OwnT wx base w.heap.size (.slice (some ⟨g0, 0, none⟩) N cap) (R2.set K (posF P j)) ∧ Keep (fun k => k ≠ gP) w3 wx)
          case first =>
            by_cases hxn : x < 0
            · have c3 := HC3.out
              rw [show decide (x < 0) = true from decide_eq_true hxn]
              have HXN := hid hxn
              clear hxn
              go_wp2
              go_loopw [56] (fun i wz => ∃ t : Nat, t ≤ W ∧ i = .int .i64 t ∧ SpRow wz gP (halfF (fun x => -x) P t) ∧ Keep (fun k => k ≠ gP) w3 wz) (fun i _ => W - (intOf i).toNat)
              case atStart => exact ⟨0, Nat.zero_le _, rfl, by rw [halfF_zero]; exact HSP3.out, Keep.refl _ _⟩
              case round =>
                obtain ⟨t, ht, rfl, hr, hkp⟩ := hrel
                by_cases hltt : t < W
                · have htl : t < P.length := by rw [HPL.out]; exact hltt
                  have d1 := hkp.cell HC3.out hP3
                  have d2 := hr.cell (j := t) (by rw [halfF_len]; exact htl)
                  rw [halfF_at _ htl] at d2
                  have hz := hr.frozen t
                  have hbd := HPB.out.get htl
                  have hst := halfF_set (fun x => -x) htl
                  have HSET := hid (fun (X : World) (hX : X.heap[gP]? = wr.heap[gP]?) v => (hr.keep hX).set t (by rw [halfF_len]; exact htl) v)
                  have hgs := hr.lt
                  obtain ⟨y, hy⟩ : ∃ y, y = P[t]?.getD 0 := ⟨_, rfl⟩
                  rw [← hy] at d2 hbd hst
                  have HST := hid hst
                  have HKP := hid hkp
                  have hwn : IntKind.i64.wrap (-y) = -y := IntWalk.i64_in _ (by omega)
                  have ht0 : (0 : Int) ≤ (t : Int) := by omega
                  have ht1 : (t : Int) < (W : Int) := by omega
                  have hk0 : (K : Int) < (N : Int) := by omega
                  clear hr hkp hst hy htl c3
                  go_wp2
                  go_still_tail 14, (by kernel_rfl)
                  change wpList _ _ _ _ _ wr.drew
                  go_wp2
                  refine ⟨⟨t + 1, by omega, by go_num, ?_, (HKP.out.drewN 1).trans (Keep.set wr.drew gP t _)⟩, by simp [intOf]; omega⟩
                  rw [← HST.out]
                  exact HSET.out wr.drew rfl _
                · obtain rfl : t = W := by omega
                  go_wp2
                  go_meet
                  case rel =>
                    refine ⟨rfl, ?_, hkp⟩
                    rw [← HPL.out, halfF_all] at hr
                    have e : posF P j = P.map (fun x => -x) := by unfold posF negF; rw [HX.out, if_pos HXN.out]
                    rw [e]
                    exact HPUT3.out _ _ (by simp) hr (fun k _ _ hk hne => hkp.block k hk hne)
            · rw [show decide (x < 0) = false from decide_eq_false hxn]
              have HXN := hid hxn
              clear hxn
              go_wp2
              go_meet
              case rel =>
                refine ⟨rfl, ?_, Keep.refl _ _⟩
                have e : posF P j = P := by unfold posF; rw [HX.out, if_neg (by have := HXN.out; omega)]
                rw [e]
                exact HPUT3.out _ _ rfl HSP3.out (fun k _ _ hk hne => rfl)
          case rest =>
            obtain ⟨rfl, hT4, hk4⟩ := hcut
            obtain ⟨Pp, hPp⟩ : ∃ Pp, Pp = posF P j := ⟨_, rfl⟩
            rw [← hPp] at hT4
            have hPpl : Pp.length = W := by rw [hPp, posF_len, HPL.out]
            have hPpb : BndL 1073741824 Pp := by
              intro y hy
              obtain ⟨i, hi, rfl⟩ := List.mem_iff_getElem.1 hy
              obtain ⟨z, hz, e⟩ := posF_mul P j
              have h1 := e i
              rw [← hPp, vec_lt hi] at h1
              have h2 := HPB.out.get (k := i) (by rw [HPL.out, ← hPpl]; exact hi)
              have h3 : vec P i = P[i]?.getD 0 := rfl
              rw [h1, h3]
              rcases hz with rfl | rfl <;> omega
            have hPpj : vec Pp j ≠ 0 := by
              have := posF_pos (l := P) (j := j) HNZ.out
              rw [← hPp] at this; omega
            obtain ⟨L3, hL3⟩ : ∃ L3, L3 = R2.set K Pp := ⟨_, rfl⟩
            have hL3l : L3.length = N := by rw [hL3, List.length_set, HR2L.out]
            have hL3K : L3[K]? = some Pp := by subst hL3; exact List.getElem?_set_self hKR
            have hL3o : ∀ q (hq : q < L3.length), q ≠ K → (L3[q]).length = W ∧ BndL 1073741824 (L3[q]) := by
              intro q hq hne
              subst hL3
              rw [List.getElem_set_ne (Ne.symm hne)]
              exact HR2B.out _ (List.getElem_mem _)
            have hfin : (clearAll R2 K j) = clearTo L3 Pp K j N := by
              rw [← hL3l, clearTo_all, hL3]
              unfold clearAll
              have : R2[K]?.getD [] = P := by rw [HP.out, List.getElem?_eq_getElem hKR]; rfl
              rw [this, ← hPp]
            have HFIN := hid hfin
            have HPPL := hid hPpl
            have HPPB := hid hPpb
            have HPPJ := hid hPpj
            rw [← hL3] at hT4
            have hcl0 : clearTo L3 Pp K j 0 = L3 := clearTo_zero _ _ _ _
            have HT4 := hid (show OwnT wc base w.heap.size (.slice (some ⟨g0, 0, none⟩) N cap) (clearTo L3 Pp K j 0) by rw [hcl0]; exact hT4)
            have HL3L := hid hL3l
            have HL3K := hid hL3K
            have HL3O := hid hL3o
            have hbx4 : wc.cell? ⟨wo.heap.size, 0, none⟩ = some (.int .i64 j) := hk4.cell HBX3.out (by omega)
            have HBX4 := hid hbx4
            have HK4 := hid (show Keep (Out base w.heap.size) w1 wc from (HK3.out.mono (fun k hk => by rcases hk with h | h <;> omega)).trans (hk4.mono (fun k hk => by rcases hk with h | h <;> omega)))
            clear hPp hPpl hPpb hPpj hL3l hL3K hL3o hfin hL3 hcl0 hT4 hbx4 hk4 HT3 HK3 HSP3 HC3 HBX3 HPUT3
            go_wp2
            go_loopw [76] (fun i wr => ∃ t : Nat, t ≤ N ∧ i = .int .i64 t ∧ OwnT wr base w.heap.size (.slice (some ⟨g0, 0, none⟩) N cap) (clearTo L3 Pp K j t) ∧ Keep (Out base w.heap.size) wc wr) (fun i _ => N - (intOf i).toNat)
            case atStart => exact ⟨0, Nat.zero_le _, rfl, HT4.out, Keep.refl _ _⟩
            case round =>
              obtain ⟨t, ht, rfl, hTt, hkt⟩ := hrel
              by_cases hltt : t < N
              · have htL : t < L3.length := by rw [HL3L.out]; exact hltt
                have hMl : (clearTo L3 Pp K j t).length = N := by rw [clearTo_len, HL3L.out]
                obtain ⟨gi, ci, d1, i1, i2, i3, hsp, hput⟩ := hTt.row hMl t (by rw [hMl]; exact hltt)
                have hMt : (clearTo L3 Pp K j t)[t]'(by rw [hMl]; exact hltt) = L3[t] := by rw [clearTo_get htL, if_neg (by omega)]
                rw [hMt] at d1 hsp hput
                have hset := clearTo_set (p := Pp) (k := K) (j := j) htL
                have hself : (clearTo L3 Pp K j t).set t L3[t] = clearTo L3 Pp K j t := by
                  rw [← hMt]; exact List.set_getElem_self _
                have hbx5 : wr.cell? ⟨wo.heap.size, 0, none⟩ = some (.int .i64 j) := hkt.cell HBX4.out (.inr (by omega))
                have HTT := hid hTt
                have HKT := hid hkt
                have ht0 : (0 : Int) ≤ (t : Int) := by omega
                have ht1 : (t : Int) < (N : Int) := by omega
                by_cases htK : t = K
                · have hb : ((t : Int) != (K : Int)) = false := by simp [htK]
                  have hsame : clearTo L3 Pp K j (t + 1) = clearTo L3 Pp K j t := by
                    rw [← hset]; unfold clear1; rw [if_neg (by simp [htK])]; exact hself
                  have HSM := hid hsame
                  have hlen : L3[t].length = W := by
                    have h1 := HL3K.out
                    rw [← htK, List.getElem?_eq_getElem htL] at h1
                    rw [Option.some.inj h1, HPPL.out]
                  rw [hlen] at d1
                  clear htK hset hself hsame hTt hkt hput hsp hMt hlen htL hMl
                  go_wp2
                  refine ⟨⟨t + 1, by omega, by go_num, by rw [HSM.out]; exact HTT.out, HKT.out⟩, by simp [intOf]; omega⟩
                · have hb : ((t : Int) != (K : Int)) = true := by simp; omega
                  obtain ⟨hlW, hlB⟩ := HL3O.out t htL htK
                  obtain ⟨X, hX⟩ : ∃ X, X = L3[t] := ⟨_, rfl⟩
                  rw [← hX] at d1 hsp hput hset hself hlW hlB
                  have d2 := hsp.cell (j := j) (by omega)
                  obtain ⟨y, hy⟩ : ∃ y, y = X[j]?.getD 0 := ⟨_, rfl⟩
                  rw [← hy] at d2
                  have HY := hid (show vec X j = y from hy.symm)
                  have HTK := hid htK
                  have hMK : (clearTo L3 Pp K j t)[K]'(by rw [hMl]; exact hKlt) = Pp := by
                    have h1 := HL3K.out
                    rw [List.getElem?_eq_getElem (by rw [HL3L.out]; exact hKlt)] at h1
                    rw [clearTo_get (by rw [HL3L.out]; exact hKlt)]
                    have h2 : L3[K]'(by rw [HL3L.out]; exact hKlt) = Pp := Option.some.inj h1
                    rw [h2]
                    split
                    · unfold clear1; rw [if_neg (by simp)]
                    · rfl
                  obtain ⟨gk, ck, e1, k1, k2, k3, hspk, hputk⟩ := hTt.row hMl K (by rw [hMl]; exact hKlt)
                  rw [hMK] at e1 hspk
                  have hne : gi ≠ gk := hTt.ne hMl (i := t) (j := K) (by rw [hMl]; exact hltt) (by rw [hMl]; exact hKlt) htK d1 e1
                  rw [hlW] at d1
                  rw [HPPL.out] at e1
                  by_cases hy0 : y = 0
                  · have hyb : (y != 0) = false := by simp [hy0]
                    have hsame : clearTo L3 Pp K j (t + 1) = clearTo L3 Pp K j t := by
                      rw [← hset]; unfold clear1; rw [if_neg (by rw [HY.out]; simp [hy0])]; exact hself
                    have HSM := hid hsame
                    clear htK hset hself hsame hTt hkt hput hsp hMt hX hlW hlB hy hMK hspk hne hputk hy0 htL hMl
                    go_wp2
                    refine ⟨⟨t + 1, by omega, by go_num, by rw [HSM.out]; exact HTT.out, HKT.out⟩, by simp [intOf]; omega⟩
                  · have hyb : (y != 0) = true := by simpa using hy0
                    have hst : clearTo L3 Pp K j (t + 1) = (clearTo L3 Pp K j t).set t (clearF X Pp j) := by
                      rw [← hset]; unfold clear1; rw [if_pos ⟨htK, by rw [HY.out]; exact hy0⟩]
                    have HST := hid hst
                    have HCL := hid (fun (Wd : World) (hW : Wd.heap = wr.heap) => cleared_c Wd gi W ci gk ck X Pp hlW HPPL.out (by unfold maxLen; omega) (hsp.keep (by rw [hW])) (hspk.keep (by rw [hW])) hne hlB HPPB.out j (by omega) HPPJ.out)
                    have HPU := hid hput
                    have HGI := hid (And.intro i1 i2)
                    have HLW := hid hlW
                    clear htK hset hself hst hTt hkt hput hsp hMt hX hlW hlB hy hMK hspk hne hputk hy0 htL hMl
                    go_wp2
                    go_still_tail 6, (by kernel_rfl)
                    change wpList _ _ _ _ _ wr.drew
                    generalize hwz : wr.drew = wz
                    have HWZ := hid hwz
                    have HCZ := hid (HCL.out wz (by rw [← hwz]; rfl))
                    clear hwz
                    go_wp2_with fail
                    refine (HCZ.out).mono ?_
                    rintro e w7 ⟨rfl, hs7, hk7⟩
                    go_wp2
                    have hk7' : Keep (fun k => k ≠ gi) wr w7 := (show Keep (fun k => k ≠ gi) wr wz by rw [← HWZ.out]; exact (Keep.refl _ _).drewN 1).trans hk7
                    refine ⟨⟨t + 1, by omega, by go_num, ?_, HKT.out.trans (hk7'.mono fun k hk => by have := HGI.out; rcases hk with h | h <;> omega)⟩, by simp [intOf]; omega⟩
                    rw [HST.out]
                    exact HPU.out _ _ (by rw [clearF_len (by rw [HLW.out, HPPL.out])]) hs7 (fun k _ _ hk hne => hk7'.block k hk hne)
              · obtain rfl : t = N := by omega
                rw [← HFIN.out] at hTt
                have HTT := hid hTt
                have HKT := hid (HK4.out.trans hkt)
                have hbx6 : wr.cell? ⟨wo.heap.size, 0, none⟩ = some (.int .i64 j) := hkt.cell HBX4.out (.inr (by omega))
                have hsz6 := hkt.size
                have hkeep : Keep (fun k => w.heap.size ≤ k) wo wr := (Keep.of_below hbw').trans (HKT.out.mono fun k hk => .inr hk)
                have HO6 := hid (own_keep HOW.out hkeep (fun k hk => hk))
                have M1 := hid (show K + 1 ≤ maxLen by unfold maxLen; omega)
                have M2 := hid (show (K + 1) * 8 ≤ 140737488355328 by omega)
                have M3 := hid (Nat.le_trans (show w.heap.size ≤ wr.heap.size by have := hkeep.size; omega) (le_alloc wr (.cells #[.int .i64 (j : Int)] 3)))
                have HKW := hid (show Keep (Out base w.heap.size) wo wr from (Keep.of_below hbw').trans HKT.out)
                clear hTt hkt hkeep
                go_wp2_with (at_builtin; refine wpList_app _ rfl (.tmp 99) (.tmp 101) 31 rfl w.heap.size 3 (.int .i64 0) 1 8 Try.underlying31 li_int rfl Nat.one_pos (.slice vp K vcap) K _ rfl (HO6.out.alloc _) (some ⟨wr.heap.size, 0, none⟩) 1 1 [.int .i64 (j : Int)] rfl rfl no_none (one_news wr _ _) (li_one _) M1.out M2.out M3.out ?_; refine Stop.of ?_)
                refine Stop.go ?_
                intro a3 c3 w8 own8 g8
                have hsw0 : w.heap.size ≤ wr.heap.size := by have := HKW.out.size; omega
                have hkg : ∀ k, k < w.heap.size → w8.heap[k]? = wr.heap[k]? := fun k hk => by
                  have h1 := g8.block k (by simp; omega) (fun e => by have := (HO6.out.lt k e.symm).1; omega)
                  rw [h1]
                  exact (Below.heap_alloc _ _ _ (by omega))
                have hsw : w.heap.size ≤ wr.heap.size := by have := HKW.out.size; omega
                have hb8 : Below w.heap.size wr w8 := ⟨g8.os, g8.tape, g8.output, by have := g8.size; simp at this; omega, fun k hk => hkg k hk⟩
                go_wp2
                refine ⟨⟨j + 1, by omega, by go_num, ?_, ?_, ?_⟩, by simp [intOf]; omega⟩
                · rw [HE.out]
                  simp only [List.length_append, List.length_singleton, List.map_append, List.map_cons, List.map_nil]
                  rw [← HK.out]
                  exact own8
                · rw [HE.out]
                  exact HTT.out.keep fun k _ hk _ => hkg k hk
                · exact HBK.out.trans ⟨hb8.os.trans HKW.out.os, hb8.tape.trans HKW.out.tape, hb8.output.trans HKW.out.output, Nat.le_trans HKW.out.size hb8.size, fun k hk => (hkg k (by have := HBA.out; omega)).trans (HKW.out.block k (by have := HBA.out; omega) (.inl hk))⟩
      · have hKe : K = N := by omega
        have hd : R.drop K = [] := List.drop_eq_nil_of_le (by rw [HRL.out]; omega)
        have HE := hid (show pRed L (j + 1) = (R, J) by rw [HSJ.out]; exact pStep_none (by rw [← HK.out, hd]; rfl))
        have HI := hid (fun (a : Option Addr) (c : Nat) => indexRok (wo.alloc (.cells #[.int .i64 j] 3)) a 0 c [] rfl (by decide) (fun i hi => by simp at hi) 130 #[.pointer (some ⟨wo.heap.size, 0, none⟩)] _ _ (enters_of Try.func130 (by kernel_rfl) rfl) HPR.out (fun x hx => by simp at hx))
        simp only [idxP] at HI
        subst hKe
        have hk1 : (0 : Int) ≤ (K : Int) := by omega
        clear hd HPR HRW hfz0
        rcases Decidable.em (cap = K) with rfl | hcK
        all_goals
          go_wp2_with (go_at_call 129; refine (HI.out _ _).mono ?_; rintro e w1 ⟨rfl, hb1⟩)
          have hbw := chain HBX.out hb1
          refine ⟨⟨j + 1, by omega, by go_num, ?_, ?_, ?_⟩, by simp [intOf]; omega⟩
          · rw [HE.out]
            simp only []
            rw [← HK.out]
            exact own_below HOW.out hbw
          · rw [HE.out]
            exact HT.out.keep fun k _ _ hk => hbw.block k hk
          · exact HBK.out.trans (hbw.mono HBK.out.size |>.mono (by have := HBA.out; omega))
    · obtain rfl : j = n := by omega
      go_wp2
      go_ret
      exact ⟨_, rfl, hown, hT, hbk⟩
end Go.Proofs.Ytfipebkhomppmaa
