/- Walks: slices.Equal at ints; slices.IndexFunc and slices.DeleteFunc at faults. -/
import Derived.Test.YthaampmdponhbaaGreatDoorFltAC
import Derived.Lib.SliceRun
namespace Go.Proofs.YthaampmdponhbaaGreatDoor
open Go.RowKit
set_option linter.unusedVariables false

theorem slEqual_c (w : World) (a a2 : Option Addr) (n cap n2 cap2 : Nat) (l l2 : List Int) (hn : l.length = n) (hn2 : l2.length = n2) (hm : n ≤ maxLen) (hm2 : n2 ≤ maxLen) (H : IntsAt w a l) (H2 : IntsAt w a2 l2) :
    Calls Tryz.prog 68 #[.slice a n cap, .slice a2 n2 cap2] w fun e w' => e = .returned (.bool (decide (l = l2))) ∧ ∃ k, w' = w.drewN k := by
  have HN := hid hn
  have HN2 := hid hn2
  have HH := hid H
  have HH2 := hid H2
  clear hn hn2 H H2
  unfold maxLen at hm hm2
  by_cases hl : n = n2
  · have hd : ((n : Int) != (n2 : Int)) = false := by simp [hl]
    have HL := hid hl
    clear hl
    go_enter Tryz.func68, Tryz.ntmps68
    go_wp2
    go_loopw [13] (fun i wr => ∃ k : Nat, k ≤ n ∧ i = .int .i64 k ∧ (∃ q, wr = w.drewN q) ∧ ∀ j (hj : j < l.length) (hj2 : j < l2.length), j < k → l[j] = l2[j]) (fun i _ => n - (intOf i).toNat)
    case atStart => exact ⟨0, Nat.zero_le _, rfl, ⟨0, rfl⟩, fun i _ _ h => by omega⟩
    case round =>
      obtain ⟨k, hk, rfl, ⟨q, rfl⟩, hno⟩ := hrel
      have HNO := hid hno
      clear hno
      by_cases hlt : k < n
      · have hkl : k < l.length := by rw [HN.out]; exact hlt
        have hkl2 : k < l2.length := by rw [HN2.out, ← HL.out]; exact hlt
        obtain ⟨b, off, rfl, hbs, hc⟩ := HH.out k hkl
        obtain ⟨b2, off2, rfl, hbs2, hc2⟩ := HH2.out k hkl2
        have hg : l[k]?.getD 0 = l[k] := by rw [List.getElem?_eq_getElem hkl]; rfl
        have hg2 : l2[k]?.getD 0 = l2[k] := by rw [List.getElem?_eq_getElem hkl2]; rfl
        rw [hg] at hc
        rw [hg2] at hc2
        have hlt2 : k < n2 := by have := HL.out; omega
        have HKL := hid hkl
        have HKL2 := hid hkl2
        clear hg hg2
        by_cases he : l[k] = l2[k]
        · have hb : (l[k] != l2[k]) = false := by simp [he]
          have HE := hid he
          clear he
          go_wp2
          go_quiet (fail)
          go_wp2
          refine ⟨⟨k + 1, by omega, by go_num, ⟨_, rfl⟩, fun j hj hj2 hjk => ?_⟩, by simp [intOf]; omega⟩
          by_cases e : j = k
          · subst e; exact HE.out
          · exact HNO.out j hj hj2 (by omega)
        · have hb : (l[k] != l2[k]) = true := by simp [he]
          have HE := hid he
          clear he
          go_wp2
          go_quiet (fail)
          go_wp2
          go_ret
          refine ⟨ret_bool ?_, q + nq, drewN_add _ _ _⟩
          symm
          rw [decide_eq_false_iff_not]
          rintro rfl
          exact HE.out rfl
      · go_wp2
        go_ret
        refine ⟨ret_bool ?_, _, rfl⟩
        symm
        rw [decide_eq_true_iff]
        have h1 := HN.out
        have h2 := HN2.out
        have h3 := HL.out
        exact List.ext_getElem (by omega) fun i g1 g2 => HNO.out i g1 g2 (by omega)
  · have hd : ((n : Int) != (n2 : Int)) = true := by simp; omega
    have HL := hid hl
    clear hl
    go_enter Tryz.func68, Tryz.ntmps68
    go_wp2
    go_ret
    refine ⟨ret_bool ?_, 0, rfl⟩
    symm
    rw [decide_eq_false_iff_not]
    rintro rfl
    exact HL.out (HN.out.symm.trans HN2.out)

theorem slEqual_d (W : World) (a a2 : Option Addr) (n n2 cap cap2 : Nat) (l l2 : List Int) (D : Bool) (hn : l.length = n) (hn2 : l2.length = n2) (hm : n ≤ maxLen) (hm2 : n2 ≤ maxLen) (H : IntsAt W a l) (H2 : IntsAt W a2 l2) (hD : D = decide (l = l2)) :
    Calls Tryz.prog 68 #[.slice a n cap, .slice a2 n2 cap2] W fun e w' => e = .returned (.bool D) ∧ Below W.heap.size W w' := by
  subst hD
  exact (slEqual_c W a a2 n cap n2 cap2 l l2 hn hn2 hm hm2 H H2).mono fun e w' ⟨h1, k, h2⟩ => ⟨h1, by rw [h2]; exact below_drewN (Below.refl _ _) _⟩

theorem run_clear_three {P : Program} (w : World) (t e ty : TypeId) (z u : Value) (ht : P.underlying t = some (.slice e)) (hv : ∀ w, (zeroValue e).run P w = .ok z w) (hz : z.cells = #[u, u, u]) (h1 : u.oneCell' = true) (b o n c : Nat) (hn : 0 < n)
    (hc : ∀ j, j < n * 3 → (w.cell? ⟨b, o + j, none⟩).isSome = true) (hf : ∀ j, j < n * 3 → w.frozen? ⟨b, o + j, none⟩ = false) :
    (Builtin.clear_ #[t] ty #[.slice (some ⟨b, o, none⟩) n c]).run P w = .ok (.tuple #[]) (w.setCells b o (List.replicate (n * 3) u)) := by
  have hzc : (Builtin.zeroCells z.cells n).toList = List.replicate (n * 3) u := by
    rw [hz]
    simp [Builtin.zeroCells]
    apply List.ext_getElem
    · simp
    · intro i h1 h2
      have h3 : i % 3 = 0 ∨ i % 3 = 1 ∨ i % 3 = 2 := by omega
      rcases h3 with e | e | e <;> simp [e]
  have hst := run_storeCells_cells (P := P) b o (List.replicate (n * 3) u) 0 w (by simpa using hc) (by simpa using hf) (by intro v hv'; rw [List.eq_of_mem_replicate hv']; exact h1)
  simp only [Nat.add_zero] at hst
  obtain ⟨m, rfl⟩ : ∃ m, n = m + 1 := ⟨n - 1, by omega⟩
  simp [Builtin.clear_, run_underlying ht, hv, hzc, hst]

def PredF (P : Program) (g : Nat) (lb : Array Value) (S : Nat → Prop) (w : World) (ok : Flt → Prop) (p : Flt → Bool) : Prop :=
  ∀ (x : Flt) (W : World), ok x → Keep S w W → Calls P g (#[x.val] ++ lb) W fun e W' => e = .returned (.bool (p x)) ∧ Below W.heap.size W W'

theorem indexF (w : World) (a : Option Addr) (n cap : Nat) (l : List Flt) (hn : l.length = n) (hm : n ≤ maxLen) (H : FltsAt w a l) (g : Nat) (lb : Array Value) (S : Nat → Prop) (ok : Flt → Prop) (p : Flt → Bool)
    (eg : ∀ args w, (callFunc g args).run Tryz.prog w = .ok (.enter g args) w) (hp : PredF Tryz.prog g lb S w ok p) (hok : ∀ x ∈ l, ok x) :
    Calls Tryz.prog 102 #[.slice a n cap, .func (.func g) #[] lb] w fun e w' => e = .returned (.int .i64 (idxP p l 0)) ∧ Below w.heap.size w w' := by
  have HN := hid hn
  have HH := hid H
  have HP := hid hp
  have HO := hid hok
  clear hn H hp hok
  unfold maxLen at hm
  go_enter Tryz.func102, Tryz.ntmps102
  go_wp2
  go_loopw [8] (fun i wr => ∃ k : Nat, k ≤ n ∧ i = .int .i64 k ∧ Below w.heap.size w wr ∧ ∀ (i : Nat) (y : Flt), i < k → l[i]? = some y → p y = false) (fun i _ => n - (intOf i).toNat)
  case atStart => exact ⟨0, Nat.zero_le _, rfl, Below.refl _ _, fun i y h => by omega⟩
  case round =>
    obtain ⟨k, hk, rfl, hb, hno⟩ := hrel
    have HNO := hid hno
    clear hno
    by_cases hlt : k < n
    · have hkl : k < l.length := by rw [HN.out]; exact hlt
      obtain ⟨b, off, rfl, hbs, h0, h1, h2⟩ := (HH.out.below hb) k hkl
      have hPx := HP.out l[k] wr (HO.out l[k] (List.getElem_mem hkl)) (Keep.of_below hb)
      have HK := hid (List.getElem?_eq_getElem hkl)
      obtain ⟨x, hx⟩ : ∃ x, x = l[k]'hkl := ⟨_, rfl⟩
      rw [← hx] at hPx h0 h1 h2
      have HK2 := hid (show l[k]? = some x by rw [hx]; exact HK.out)
      have HPX := hid hPx
      clear hPx hx HK
      cases hpx : p x
      · rw [hpx] at HPX
        have HQ := hid hpx
        clear hpx
        obtain ⟨xk, xr, xp⟩ := x
        simp only [Flt.val] at HPX
        simp only [] at h0 h1 h2
        go_wp2_with (refine HPX.out.mono ?_; rintro e w1 ⟨rfl, hb1⟩)
        refine ⟨⟨k + 1, by omega, by go_num, chain hb hb1, ?_⟩, by simp [intOf]; omega⟩
        intro i y hi hy
        by_cases e : i = k
        · subst e; rw [HK2.out] at hy; cases hy; exact HQ.out
        · exact HNO.out i y (by omega) hy
      · rw [hpx] at HPX
        have HQ := hid hpx
        clear hpx
        obtain ⟨xk, xr, xp⟩ := x
        simp only [Flt.val] at HPX
        simp only [] at h0 h1 h2
        go_wp2_with (refine HPX.out.mono ?_; rintro e w1 ⟨rfl, hb1⟩)
        go_ret
        refine ⟨ret_int ?_, chain hb hb1⟩
        rw [idxP_at p l 0 k _ HK2.out HQ.out HNO.out]; simp
    · go_wp2
      go_ret
      refine ⟨ret_int ?_, hb⟩
      rw [idxP_neg]
      intro x hx
      obtain ⟨i, hi, e⟩ := List.getElem_of_mem hx
      exact HNO.out i x (by have := HN.out; omega) (by rw [List.getElem?_eq_getElem hi, e])

theorem idxF_cases {α : Type} (p : α → Bool) (l : List α) : (idxP p l 0 = -1 ∧ ∀ x ∈ l, p x = false) ∨ ∃ (k : Nat) (x : α), l[k]? = some x ∧ idxP p l 0 = (k : Nat) ∧ p x = true ∧ ∀ (i : Nat) (y : α), i < k → l[i]? = some y → p y = false := by
  by_cases h : ∀ x ∈ l, p x = false
  · exact .inl ⟨idxP_neg p l 0 h, h⟩
  · right
    have hex : ∃ k : Nat, ∃ x : α, l[k]? = some x ∧ p x = true := by
      obtain ⟨x, h⟩ := Classical.not_forall.1 h
      obtain ⟨hx, hp⟩ := Classical.not_imp.1 h
      have hp : p x = true := by simpa using hp
      obtain ⟨i, hi, e⟩ := List.getElem_of_mem hx
      exact ⟨i, x, by rw [List.getElem?_eq_getElem hi, e], hp⟩
    obtain ⟨k, hk, hmin⟩ : ∃ k : Nat, (∃ x : α, l[k]? = some x ∧ p x = true) ∧ ∀ i : Nat, i < k → ¬ ∃ x : α, l[i]? = some x ∧ p x = true := by
      obtain ⟨k, hk⟩ := hex
      induction k using Nat.strongRecOn with
      | ind k ih =>
        by_cases hc : ∃ i : Nat, i < k ∧ ∃ x : α, l[i]? = some x ∧ p x = true
        · obtain ⟨i, hi, hx⟩ := hc; exact ih i hi hx
        · exact ⟨k, hk, fun i hi hx => hc ⟨i, hi, hx⟩⟩
    obtain ⟨x, hx, hpx⟩ := hk
    have hno : ∀ (i : Nat) (y : α), i < k → l[i]? = some y → p y = false := by
      intro i y hi hy
      cases hpy : p y
      · rfl
      · exact absurd ⟨y, hy, hpy⟩ (hmin i hi)
    exact ⟨k, x, hx, by rw [idxP_at p l 0 k x hx hpx hno]; simp, hpx, hno⟩

/-- of the first j elements those that stay -/
def keptF {α : Type} (p : α → Bool) (F : List α) (j : Nat) : List α := (F.take j).filter (fun q => !p q)
theorem keptF_succ {α : Type} (p : α → Bool) (F : List α) (j : Nat) (x : α) (h : F[j]? = some x) : keptF p F (j + 1) = if p x then keptF p F j else keptF p F j ++ [x] := by
  unfold keptF
  rw [List.take_add_one, h]
  simp only [Option.toList_some, List.filter_append]
  cases hp : p x <;> simp [hp]
theorem keptF_le {α : Type} (p : α → Bool) (F : List α) (j : Nat) : (keptF p F j).length ≤ j := by
  unfold keptF
  refine Nat.le_trans (List.length_filter_le _ _) ?_
  rw [List.length_take]; omega
theorem keptF_start {α : Type} (p : α → Bool) (F : List α) (k : Nat) (hno : ∀ (i : Nat) (y : α), i < k → F[i]? = some y → p y = false) : keptF p F k = F.take k := by
  unfold keptF
  rw [List.filter_eq_self]
  intro q hq
  obtain ⟨i, hi, e⟩ := List.mem_iff_getElem.1 hq
  rw [List.length_take] at hi
  have : F[i]? = some q := by
    have h2 : (F.take k)[i]? = some q := by rw [List.getElem?_eq_getElem (by rw [List.length_take]; exact hi), e]
    rw [List.getElem?_take, if_pos (by omega)] at h2
    exact h2
  rw [hno i q (by omega) this]; rfl

theorem fltVals_take (F : List Flt) (k : Nat) (hk : k ≤ F.length) : fltVals (F.take k) = (fltVals F).take (k * 3) := by
  have h : fltVals F = fltVals (F.take k) ++ fltVals (F.drop k) := by
    conv => lhs; rw [← List.take_append_drop k F]
    unfold fltVals
    rw [List.flatMap_append]
  rw [h, List.take_left' (by rw [fltVals_length, List.length_take]; omega)]

theorem take_set3 {α : Type} (l : List α) (i : Nat) (x y z : α) (h : i * 3 + 2 < l.length) : (((l.set (i * 3) x).set (i * 3 + 1) y).set (i * 3 + 2) z).take ((i + 1) * 3) = l.take (i * 3) ++ [x, y, z] := by
  apply List.ext_getElem?
  intro q
  rw [List.getElem?_take]
  have hl : (l.take (i * 3)).length = i * 3 := by rw [List.length_take]; omega
  by_cases e1 : q < i * 3
  · rw [if_pos (by omega), List.getElem?_append_left (by omega), List.getElem?_take, if_pos e1]
    rw [List.getElem?_set_ne (by omega), List.getElem?_set_ne (by omega), List.getElem?_set_ne (by omega)]
  · rw [List.getElem?_append_right (by omega), hl]
    have h3 : q = i * 3 ∨ q = i * 3 + 1 ∨ q = i * 3 + 2 ∨ (i + 1) * 3 ≤ q := by omega
    rcases h3 with rfl | rfl | rfl | h3
    · rw [if_pos (by omega), List.getElem?_set_ne (by omega), List.getElem?_set_ne (by omega), List.getElem?_set_self (by omega)]
      simp
    · rw [if_pos (by omega), List.getElem?_set_ne (by omega), List.getElem?_set_self (by simp; omega)]
      rw [show i * 3 + 1 - i * 3 = 1 by omega]; rfl
    · rw [if_pos (by omega), List.getElem?_set_self (by simp; omega)]
      rw [show i * 3 + 2 - i * 3 = 2 by omega]; rfl
    · rw [if_neg (by omega), List.getElem?_eq_none (by simp; omega)]

theorem cell_of_cells {w : World} {b : Nat} {c : Array Value} {E : TypeId} {f : Nat × Nat} (h : w.heap[b]? = some (.cells c E f)) (i : Nat) : w.cell? ⟨b, i, none⟩ = c[i]? := by simp [World.cell?, h]
theorem frozen_of_cells {w : World} {b : Nat} {c : Array Value} {E : TypeId} (h : w.heap[b]? = some (.cells c E (0, 0))) (i : Nat) : w.frozen? ⟨b, i, none⟩ = false := by simp [World.frozen?, h]

theorem setCells_blockF {T : TypeId} {b : Nat} {f : Nat × Nat} : ∀ (vs : List Value) (o : Nat) (w : World) (c : Array Value), w.heap[b]? = some (.cells c T f) →
    ∃ c', (w.setCells b o vs).heap[b]? = some (.cells c' T f) ∧ c'.size = c.size ∧ ∀ i, i < o → c'[i]? = c[i]?
  | [], _, w, c, h => ⟨c, h, rfl, fun _ _ => rfl⟩
  | v :: vs, o, w, c, h => by
    obtain ⟨c', h1, h2, h3⟩ := setCells_blockF vs (o + 1) (w.setCell ⟨b, o, none⟩ v) _ (cells_set h o v)
    refine ⟨c', h1, by rw [h2]; simp, fun i hi => ?_⟩
    rw [h3 i (by omega), Array.getElem?_setIfInBounds_ne (by omega)]

set_option maxRecDepth 100000 in
set_option maxHeartbeats 2000000 in
theorem deleteF (w : World) (base : Nat) (b0 n cap : Nat) (cur : Array Value) (F : List Flt) (hF : F.length = n) (hn9 : n ≤ 100000)
    (hg : w.heap[b0]? = some (.cells cur 25 (0, 0))) (hnc : n ≤ cap) (hcm : cap ≤ maxLen) (hsz : cur.size = cap * 3) (htk : cur.toList.take (n * 3) = fltVals F) (hbase : base ≤ b0)
    (g : Nat) (lb : Array Value) (ok : Flt → Prop) (p : Flt → Bool)
    (eg : ∀ args w, (callFunc g args).run Tryz.prog w = .ok (.enter g args) w) (hp : PredF Tryz.prog g lb (fun k => k ≠ b0) w ok p) (hok : ∀ x ∈ F, ok x) :
    Calls Tryz.prog 72 #[.slice (some ⟨b0, 0, none⟩) n cap, .func (.func g) #[] lb] w fun e w' => ∃ v', e = .returned v' ∧ FltsO w' base v' (F.filter (fun x => !p x)) ∧ Keep (fun k => k ≠ b0) w w' := by
  have hcur : ∀ q, q < n * 3 → cur[q]? = (fltVals F)[q]? := by
    intro q hq
    rw [← htk, List.getElem?_take, if_pos hq]; simp
  have hFO : FltsO w base (.slice (some ⟨b0, 0, none⟩) n cap) F := ⟨by rw [fltVals_length], .inr ⟨b0, cap, cur, by rw [hF], hbase, hg, by omega, hcm, hsz, by rw [hF]; exact htk⟩⟩
  obtain ⟨_, _, e0, _, hrows⟩ := hFO.reads
  rw [hF] at e0
  cases e0
  have HIX := hid (indexF w (some ⟨b0, 0, none⟩) n cap F hF (by unfold maxLen; omega) hrows g lb _ ok p eg hp hok)
  have HCL := hid (fun (W : World) (i : Nat) (hi : i < n) (ty : TypeId) (c : Nat) (hc : ∀ j, j < (n - i) * 3 → (W.cell? ⟨b0, i * 3 + j, none⟩).isSome = true) (hf : ∀ j, j < (n - i) * 3 → W.frozen? ⟨b0, i * 3 + j, none⟩ = false) =>
    run_clear_three (P := Tryz.prog) W 36 25 ty (.agg #[.int .i64 0, .int .i64 0, .int .i64 0]) (.int .i64 0) Tryz.underlying36 (fun _ => rfl) rfl rfl b0 (i * 3) (n - i) c (by omega) hc hf)
  rcases idxF_cases p F with ⟨hi, hall⟩ | ⟨k0, x0, hx0, hi, hpx, hno⟩
  · rw [hi] at HIX
    have HFF := hid (show F.filter (fun x => !p x) = F from List.filter_eq_self.2 fun x hx => by simp [hall x hx])
    have HFO := hid hFO
    clear hp hok hall hi hF hg htk hcur hFO hrows
    go_enter Tryz.func72, Tryz.ntmps72
    go_wp2_with (go_at_call 102; refine HIX.out.mono ?_; rintro e w1 ⟨rfl, hb1⟩)
    go_ret
    exact ⟨_, rfl, by rw [HFF.out]; exact HFO.out.below hb1, Keep.of_below hb1⟩
  · rw [hi] at HIX
    obtain ⟨hk0, _⟩ := List.getElem?_eq_some_iff.1 hx0
    have HK0 := hid (show keptF p F (k0 + 1) = F.take k0 from by rw [keptF_succ p F k0 x0 hx0, if_pos hpx, keptF_start p F k0 hno])
    have HP := hid hp
    have HO := hid hok
    have HG := hid hg
    have HT := hid htk
    have HCU := hid hcur
    have HSZ := hid hsz
    have HF := hid hF
    have hkn : k0 < n := by omega
    have HCM := hid hcm
    unfold maxLen at hcm
    clear hp hok hi hF hg htk hno hx0 hsz hcur hFO hrows
    have hneg : ((k0 : Int) == -1) = false := beq_eq_false_iff_ne.2 (by omega)
    go_enter Tryz.func72, Tryz.ntmps72
    go_wp2_with (go_at_call 102; refine HIX.out.mono ?_; rintro e w1 ⟨rfl, hb1⟩)
    go_loopw [5, 6] (fun s5 s6 wr => ∃ (i j : Nat) (cr : Array Value), s5 = .int .i64 i ∧ s6 = .int .i64 j ∧ j ≤ n ∧ i < j ∧ Keep (fun k => k ≠ b0) w wr ∧ Hid (wr.heap[b0]? = some (.cells cr 25 (0, 0)) ∧ cr.size = cap * 3 ∧ (keptF p F j).length = i ∧ cr.toList.take (i * 3) = fltVals (keptF p F j) ∧ ∀ q, j * 3 ≤ q → q < n * 3 → cr[q]? = (fltVals F)[q]?)) (fun _ j _ => n - (intOf j).toNat)
    case atStart =>
      refine ⟨k0, k0 + 1, cur, rfl, by go_num, by omega, by omega, Keep.of_below hb1, hid ⟨(hb1.block b0 (Array.getElem?_eq_some_iff.1 HG.out).1).trans HG.out, HSZ.out, ?_, ?_, fun q hq1 hq2 => HCU.out q hq2⟩⟩
      · rw [HK0.out, List.length_take]; omega
      · rw [HK0.out]
        have h1 : (cur.toList.take (n * 3)).take (k0 * 3) = (fltVals F).take (k0 * 3) := by rw [HT.out]
        rw [List.take_take, Nat.min_eq_left (by omega)] at h1
        rw [h1, fltVals_take _ _ (by have := HF.out; omega)]
    case round =>
      obtain ⟨i, j, cr, rfl, rfl, hjn, hij, hkp, HH⟩ := hrel
      by_cases hlt : j < n
      · have hjF : j < F.length := by rw [HF.out]; exact hlt
        obtain ⟨x, hx⟩ : ∃ x, x = F[j]'hjF := ⟨_, rfl⟩
        have hx2 : F[j]? = some x := by rw [hx]; exact List.getElem?_eq_getElem hjF
        have hcj : wr.cell? ⟨b0, j * 3, none⟩ = some (.int .i64 x.kind) ∧ wr.cell? ⟨b0, j * 3 + 1, none⟩ = some (.int .i64 x.row) ∧ wr.cell? ⟨b0, j * 3 + 2, none⟩ = some (.int .i64 x.pixel) := by
          obtain ⟨h1, _, _, _, h5⟩ := HH.out
          refine ⟨?_, ?_, ?_⟩
          · rw [cell_of_cells h1, h5 _ (by omega) (by omega)]; have := fltVals_at F j 0 hjF (by omega); rw [Nat.add_zero] at this; rw [this, hx]; rfl
          · rw [cell_of_cells h1, h5 _ (by omega) (by omega), fltVals_at F j 1 hjF (by omega), hx]; rfl
          · rw [cell_of_cells h1, h5 _ (by omega) (by omega), fltVals_at F j 2 hjF (by omega), hx]; rfl
        have hci : ∀ q, q < 3 → (∃ old, wr.cell? ⟨b0, i * 3 + q, none⟩ = some old) ∧ wr.frozen? ⟨b0, i * 3 + q, none⟩ = false := by
          intro q hq
          obtain ⟨h1, h2, _⟩ := HH.out
          have : i * 3 + q < cr.size := by omega
          exact ⟨⟨cr[i * 3 + q], by rw [cell_of_cells h1]; simp [this]⟩, frozen_of_cells h1 _⟩
        have hbz : b0 < wr.heap.size := (Array.getElem?_eq_some_iff.1 HH.out.1).1
        obtain ⟨⟨o0, ho0⟩, z0⟩ := hci 0 (by omega)
        obtain ⟨⟨o1, ho1⟩, z1⟩ := hci 1 (by omega)
        obtain ⟨⟨o2, ho2⟩, z2⟩ := hci 2 (by omega)
        rw [Nat.add_zero] at ho0 z0
        have HX := hid hx2
        have HPX := hid (HP.out x (wr.alloc (.cells #[.int .i64 x.kind, .int .i64 x.row, .int .i64 x.pixel] 25)) (HO.out x (List.mem_of_getElem? hx2)) (hkp.trans (Keep.of_below ((Below.refl _ wr).alloc (Nat.le_refl _) _))))
        have HBA := hid (show Below wr.heap.size wr (wr.alloc (.cells #[.int .i64 x.kind, .int .i64 x.row, .int .i64 x.pixel] 25)) from (Below.refl _ wr).alloc (Nat.le_refl _) _)
        have HFN := hid (fun (W : World) (hb : Below (wr.alloc (.cells #[.int .i64 x.kind, .int .i64 x.row, .int .i64 x.pixel] 25)).heap.size (wr.alloc (.cells #[.int .i64 x.kind, .int .i64 x.row, .int .i64 x.pixel] 25)) W) => FC.below (FC.new wr x.kind x.row x.pixel 25) (by simp) hb)
        obtain ⟨d0, d1, d2⟩ := hcj
        clear hx hx2 hci hjF
        cases hpx2 : p x
        · have HQ := hid hpx2
          rw [hpx2] at HPX
          clear hpx2
          obtain ⟨xk, xr, xp⟩ := x
          simp only [Flt.val] at HPX HBA HFN
          simp only [] at d0 d1 d2
          go_wp2_with (refine HPX.out.mono ?_; rintro e w3 ⟨rfl, hb3⟩; refine Stop.of ?_)
          refine Stop.go ?_
          have hb4 := chain HBA.out hb3
          obtain ⟨g0, g1, g2⟩ := HFN.out _ hb3
          have p0 : w3.cell? ⟨b0, i * 3, none⟩ = some o0 := (hb4.cell (p := ⟨b0, _, none⟩) hbz).trans ho0
          have p1 : w3.cell? ⟨b0, i * 3 + 1, none⟩ = some o1 := (hb4.cell (p := ⟨b0, _, none⟩) hbz).trans ho1
          have p2 : w3.cell? ⟨b0, i * 3 + 2, none⟩ = some o2 := (hb4.cell (p := ⟨b0, _, none⟩) hbz).trans ho2
          have y0 : w3.frozen? ⟨b0, i * 3, none⟩ = false := (hb4.frozen (p := ⟨b0, _, none⟩) hbz).trans z0
          have y1 : w3.frozen? ⟨b0, i * 3 + 1, none⟩ = false := (hb4.frozen (p := ⟨b0, _, none⟩) hbz).trans z1
          have y2 : w3.frozen? ⟨b0, i * 3 + 2, none⟩ = false := (hb4.frozen (p := ⟨b0, _, none⟩) hbz).trans z2
          clear ho0 ho1 ho2 z0 z1 z2 d0 d1 d2
          go_wp2
          refine ⟨⟨i + 1, j + 1, ((cr.setIfInBounds (i * 3) (.int .i64 xk)).setIfInBounds (i * 3 + 1) (.int .i64 xr)).setIfInBounds (i * 3 + 2) (.int .i64 xp), by go_num, by go_num, by omega, by omega, (((hkp.trans (Keep.of_below hb4)).trans (Keep.set w3 b0 _ _)).trans (Keep.set _ b0 _ _)).trans (Keep.set _ b0 _ _), ?_⟩, by simp [intOf]; omega⟩
          obtain ⟨h1, h2, h3, h4, h5⟩ := HH.out
          have hks := keptF_succ p F j _ HX.out
          rw [HQ.out] at hks
          simp only [Bool.false_eq_true, if_false] at hks
          refine hid ⟨cells_set (cells_set (cells_set ((hb4.block b0 hbz).trans h1) _ _) _ _) _ _, by simp [h2], by rw [hks, List.length_append, h3]; rfl, ?_, fun q hq1 hq2 => ?_⟩
          · rw [hks, fltVals_snoc, ← h4]
            simp only [Array.toList_setIfInBounds]
            exact take_set3 cr.toList i _ _ _ (by rw [Array.length_toList]; omega)
          · rw [Array.getElem?_setIfInBounds_ne (by omega), Array.getElem?_setIfInBounds_ne (by omega), Array.getElem?_setIfInBounds_ne (by omega)]
            exact h5 q (by omega) hq2
        · have HQ := hid hpx2
          rw [hpx2] at HPX
          clear hpx2
          obtain ⟨xk, xr, xp⟩ := x
          simp only [Flt.val] at HPX HBA HFN
          simp only [] at d0 d1 d2
          go_wp2_with (refine HPX.out.mono ?_; rintro e w3 ⟨rfl, hb3⟩; refine Stop.of ?_)
          refine Stop.go ?_
          have hb4 := chain HBA.out hb3
          clear ho0 ho1 ho2 z0 z1 z2 d0 d1 d2
          go_wp2
          refine ⟨⟨i, j + 1, cr, rfl, by go_num, by omega, by omega, hkp.trans (Keep.of_below hb4), ?_⟩, by simp [intOf]; omega⟩
          obtain ⟨h1, h2, h3, h4, h5⟩ := HH.out
          have hks := keptF_succ p F j _ HX.out
          rw [HQ.out, if_pos rfl] at hks
          exact hid ⟨(hb4.block b0 hbz).trans h1, h2, by rw [hks]; exact h3, by rw [hks]; exact h4, fun q hq1 hq2 => h5 q (by omega) hq2⟩
      · obtain rfl : j = n := by omega
        have hcl := HCL.out wr i hij
        have hcs : ∀ q, q < (j - i) * 3 → (wr.cell? ⟨b0, i * 3 + q, none⟩).isSome = true := by
          intro q hq
          obtain ⟨h1, h2, _⟩ := HH.out
          have : i * 3 + q < cr.size := by omega
          rw [cell_of_cells h1]; simp [this]
        have hfs : ∀ q, q < (j - i) * 3 → wr.frozen? ⟨b0, i * 3 + q, none⟩ = false := by
          intro q hq
          obtain ⟨h1, _⟩ := HH.out
          exact frozen_of_cells h1 _
        have hcl2 := fun ty c => hcl ty c hcs hfs
        clear hcl hcs hfs
        have hpos : 0 < j - i := by omega
        go_wp2
        go_ret
        obtain ⟨h1, h2, h3, h4, h5⟩ := HH.out
        obtain ⟨c', k1, k2, k3⟩ := setCells_blockF (List.replicate ((j - i) * 3) (Value.int .i64 0)) (i * 3) wr cr h1
        have hkeep := hkp.trans (Keep.sets (List.replicate ((j - i) * 3) (Value.int .i64 0)) (i * 3) wr b0)
        have hfin : keptF p F j = F.filter (fun x => !p x) := by unfold keptF; rw [← HF.out, List.take_length]
        refine ⟨.slice (some ⟨b0, 0, none⟩) i cap, rfl, ⟨?_, .inr ⟨b0, cap, c', ?_, hbase, k1, ?_, HCM.out, by omega, ?_⟩⟩, hkeep⟩
        · rw [fltVals_length]
        · rw [← hfin, h3]
        · rw [← hfin, h3]; omega
        · rw [← hfin, h3, ← h4]
          apply List.ext_getElem?
          intro q
          rw [List.getElem?_take, List.getElem?_take]
          by_cases e : q < i * 3
          · rw [if_pos e, if_pos e]; simpa using k3 q e
          · rw [if_neg e, if_neg e]
end Go.Proofs.YthaampmdponhbaaGreatDoor
