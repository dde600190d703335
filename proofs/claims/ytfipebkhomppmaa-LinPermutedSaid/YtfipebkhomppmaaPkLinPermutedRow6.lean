/- Walks and plain laws for LinPermutedRow, part 6. -/
import Derived.Lib.SliceRun
import Derived.ChangeOld
import Derived.Deep.Slices
import Derived.Lib.SmallJoins
import Derived.Test.YtfipebkhomppmaaPkLinPermutedRow5
namespace Go.Proofs.Ytfipebkhomppmaa
section
set_option linter.unusedVariables false

def zeroBut (n p : Nat) (r : List Int) : Bool := decide (∀ c, c < n → c ≠ p → vec r c = 0)
def weightF (M : List (List Int)) (n p : Nat) : Option (List Int × Int) :=
  match (JE M n).findIdx? (fun j => decide (j = p)) with
  | none => none
  | some k => if zeroBut n p ((RE M n)[k]?.getD []) = true then some (((RE M n)[k]?.getD []).drop n, vec ((RE M n)[k]?.getD []) p) else none

theorem weight_some {M : List (List Int)} {n p : Nat} (h : MaskOk M n) {z : List Int} {c : Int} (e : weightF M n p = some (z, c)) :
    ∃ k, knownAt M n k p ∧ z = ((RE M n)[k]?.getD []).drop n ∧ c = rowv (RE M n) k p := by
  unfold weightF at e
  cases hf : (JE M n).findIdx? (fun j => decide (j = p)) with
  | none => rw [hf] at e; cases e
  | some k =>
    rw [hf] at e
    simp only [] at e
    by_cases hz : zeroBut n p ((RE M n)[k]?.getD []) = true
    · rw [if_pos hz] at e
      simp only [Option.some.injEq, Prod.mk.injEq] at e
      obtain ⟨hk, h1, _⟩ := List.findIdx?_eq_some_iff_getElem.1 hf
      have hJ := h.ext_same.1
      refine ⟨k, ⟨by rw [← hJ]; exact hk, ?_, fun c hc hne => of_decide_eq_true hz c hc hne⟩, e.1.symm, e.2.symm⟩
      rw [← hJ]
      unfold jf
      rw [List.getElem?_eq_getElem hk]
      simpa using h1
    · rw [if_neg hz] at e; cases e
theorem weight_none {M : List (List Int)} {n p : Nat} (h : MaskOk M n) (e : weightF M n p = none) : ¬ knownF M n p := by
  rintro ⟨k, hk, hj, hz⟩
  have hJ := h.ext_same.1
  unfold weightF at e
  cases hf : (JE M n).findIdx? (fun j => decide (j = p)) with
  | none =>
    rw [List.findIdx?_eq_none_iff] at hf
    have := hf (jf (JE M n) k) (jf_mem (by rw [hJ]; exact hk))
    rw [hJ, hj] at this
    simp at this
  | some i =>
    rw [hf] at e
    simp only [] at e
    obtain ⟨hi, h1, _⟩ := List.findIdx?_eq_some_iff_getElem.1 hf
    have hji : jf (JP M n) i = p := by
      rw [← hJ]; unfold jf; rw [List.getElem?_eq_getElem hi]; simpa using h1
    have hi2 : i < (JP M n).length := by rw [← hJ]; exact hi
    have hik : i = k := Classical.byContradiction fun hne => by
      have h2 := (h.inv n).ech.red.off i hi2 k hk hne
      rw [hj, ← hji] at h2
      exact (h.inv n).ech.red.piv i hi2 h2
    subst hik
    rw [if_pos (show zeroBut n p ((RE M n)[i]?.getD []) = true from decide_eq_true hz)] at e
    cases e

end

section
section
open Go.RowKit
set_option linter.unusedVariables false

theorem unit1 (w : World) (b N : Nat) (hN : N ≤ 1000) (hc : w.cell? ⟨b, 0, none⟩ = some (.int .i64 N)) (hb : b < w.heap.size) :
    MoreP Try.prog 169 #[.pointer (some ⟨b, 0, none⟩)] w N (fun i => unitF N i) := by
  intro i W hi hW
  have hc' : W.cell? ⟨b, 0, none⟩ = some (.int .i64 N) := (hW.cell (p := ⟨b, 0, none⟩) hb).trans hc
  rw [unitF_len]
  show Calls Try.prog 169 #[.int .i64 i, .pointer (some ⟨b, 0, none⟩)] W fun e W' => ∃ a c, e = .returned (.slice a N c) ∧ IntsAt W' a (unitF N i) ∧ Below W.heap.size W W'
  have hmk : ∀ w, (Instr.makeSlice 31 (.int .i64 (N : Int)) (.int .i64 (N : Int))).run Try.prog w = .ok (.slice (some ⟨w.heap.size, 0, none⟩) N N) (w.alloc (.cells (madeCells #[.int .i64 0] N) 3)) :=
    fun w => run_make_row' 31 3 (.int .i64 0) 8 Try.underlying31 li_int rfl .i64 .i64 N (by omega) (by omega) w
  have hmsz : (madeCells #[Value.int .i64 0] N).size = N := by rw [size_madeCells]
  have HSP := hid (sp_made_set W N i 1)
  have i1 : (i : Int) < (N : Int) := by omega
  have i0 : (0 : Int) ≤ (i : Int) := by omega
  clear hc hN
  go_enter Try.func169, Try.ntmps169
  go_wp2
  go_ret
  refine ⟨some ⟨W.heap.size, 0, none⟩, N, rfl, HSP.out.ints, (Below.refl _ _).alloc (Nat.le_refl _) _⟩

theorem unit_c (w : World) (N : Nat) : Calls Try.prog 153 #[.int .i64 N] w
    fun e w' => e = .returned (.func (.func 169) #[] #[.pointer (some ⟨w.heap.size, 0, none⟩)]) ∧ w' = w.alloc (.cells #[.int .i64 N] 3) := by
  have hmf : ∀ (fn : Fn) (first cap : Array Value) (w : World), (Instr.makeFunc fn first cap).run Try.prog w = .ok (.func fn first cap) w := fun _ _ _ _ => rfl
  go_enter Try.func153, Try.ntmps153
  go_wp2
  go_ret
  exact ⟨rfl, rfl⟩

theorem chosenF_unit {M : List (List Int)} {W : Nat} (h : ∀ r ∈ M, r.length = W) : chosenF M (allI W) (fun i => unitF M.length i) = extF M := by
  unfold chosenF extF
  refine List.ext_getElem (by simp) fun i h1 h2 => ?_
  have hi : i < M.length := by simpa using h1
  simp only [List.getElem_mapIdx]
  congr 1
  have := congrArg (fun l => l[i]?) (cols_all h)
  unfold colsF at this
  simp only [List.getElem?_map, List.getElem?_eq_getElem hi, Option.map_some, Option.some.injEq] at this
  exact this

def SeenAt (w : World) (g0 : Nat) (M : Mask) (W : Nat) : Prop :=
  ∀ i, i < M.length → ∃ gi x, w.cell? ⟨g0, i, none⟩ = some (.slice (some ⟨gi, 0, none⟩) (W + M.length) (W + M.length + x)) ∧ g0 < w.heap.size ∧ gi < w.heap.size ∧ IntsAt w (some ⟨gi, 0, none⟩) ((RE M W)[i]?.getD []) ∧ ((RE M W)[i]?.getD []).length = W + M.length
theorem SeenAt.below {w w' : World} {g0 : Nat} {M : Mask} {W : Nat} (h : SeenAt w g0 M W) (hb : Below w.heap.size w w') : SeenAt w' g0 M W := by
  intro i hi
  obtain ⟨gi, x, h1, h2, h3, h4, h5⟩ := h i hi
  exact ⟨gi, x, (hb.cell (p := ⟨g0, i, none⟩) h2).trans h1, Nat.lt_of_lt_of_le h2 hb.size, Nat.lt_of_lt_of_le h3 hb.size, h4.below hb, h5⟩

set_option maxRecDepth 100000 in
set_option maxHeartbeats 4000000 in
theorem seen_c (w : World) (a : Option Addr) (n cap : Nat) (M : Mask) (hn : M.length = n) (H : RowsAt w a M) (hok : okM M = true) :
    Calls Try.prog 132 #[.slice a n cap] w fun e w' => ∃ g0 c0 ja jc, e = .returned (.tuple #[.slice (some ⟨g0, 0, none⟩) n c0, .slice ja (JP M (colsM M)).length jc]) ∧
      SeenAt w' g0 M (colsM M) ∧ n ≤ c0 ∧ IntsAt w' ja (intsJ (JP M (colsM M))) ∧ Below w.heap.size w w' := by
  obtain ⟨hM, h1, h6, hc1, hc10⟩ := okM_ok hok
  obtain ⟨b, off, ra, rc, rfl, hb, hc⟩ := rows_head H (by omega)
  have hn6 : n ≤ 6 := by omega
  have hn1 : 1 ≤ n := by omega
  obtain ⟨W, hW⟩ : ∃ W, W = colsM M := ⟨_, rfl⟩
  rw [← hW] at hM hc1 hc10 hc ⊢
  have hS : ∀ r ∈ M, ∀ j ∈ allI W, 0 ≤ j ∧ j < r.length := fun r hr j hj => by rw [hM.wid r hr]; exact allI_mem hj
  have HCh := hid (fun (X : World) (hX : Below w.heap.size w X) (va : Option Addr) (vc q : Nat) (hI : IntsAt X va (allI W)) (hq : X.cell? ⟨q, 0, none⟩ = some (.int .i64 n)) (hqs : q < X.heap.size) =>
    chosen_c X (some ⟨b, off, none⟩) n cap M hn (by omega) (H.below hX) va W vc (allI W) (allI_len W) (by omega) hI hS 169 #[.pointer (some ⟨q, 0, none⟩)] (enters_of Try.func169 (by kernel_rfl) rfl) (fun i => unitF n i)
      (unit1 X q n (by omega) hq hqs) (fun i _ => ⟨by rw [unitF_len]; omega, by omega⟩))
  have hcu : chosenF M (allI W) (fun i => unitF n i) = extF M := by rw [← hn]; exact chosenF_unit hM.wid
  rw [hcu] at HCh
  have hEl : (extF M).length = n := by rw [extF_len, hn]
  have hle : ∀ t, t ≤ W → ∀ r ∈ (pRed (extF M) t).1, r.length = W + n ∧ BndL 1073741824 r := fun t ht r hr => by
    have h2 := (hM.einv t).wid r hr
    rw [hn] at h2
    refine ⟨h2, fun x hx => ?_⟩
    obtain ⟨c, hc, rfl⟩ := List.mem_iff_getElem.1 hx
    obtain ⟨k, hk, rfl⟩ := List.mem_iff_getElem.1 hr
    have := hM.re_le (t := t) k c
    rw [List.getElem?_eq_getElem hk] at this
    simp only [Option.getD_some] at this
    rw [vec_lt hc] at this
    omega
  have HRd := hid (fun (W1 : World) (base : Nat) (v0 : Value) (hO : OwnT W1 base W1.heap.size v0 (extF M)) (hb : base ≤ W1.heap.size) => reduce_c W1 base v0 (extF M) (W + n) hO hb (fun r hr => by have := hM.ext.wid r hr; rw [hn] at this; exact this) (by omega) (by omega) (by omega) W (by omega) hle)
  have hJE : (pRed (extF M) W).2 = JP M W := hM.ext_same.1
  rw [hJE] at HRd
  have hRl : (pRed (extF M) W).1.length = n := by rw [pRed_len, hEl]
  have hRw : ∀ r ∈ (pRed (extF M) W).1, r.length = W + n := fun r hr => (hle W (Nat.le_refl _) r hr).1
  have HN := hid hn
  have HRL := hid hRl
  have HRW := hid hRw
  have HCC := hid (fun (X : World) (hX : Below w.heap.size w X) => show X.cell? ⟨b, off, none⟩ = some (.slice ra W rc) from (hX.cell (p := ⟨b, off, none⟩) hb).trans hc)
  obtain ⟨K, hK⟩ : ∃ K, K = (JP M W).length := ⟨_, rfl⟩
  have HKJ := hid hK
  rw [← hK] at HRd ⊢
  have i0 : (0 : Int) < (n : Int) := by omega
  clear hn H hok hM h1 h6 hb hc hS hcu hEl hle hRl hRw hJE hK hW
  go_enter Try.func132, Try.ntmps132
  have c0 := HCC.out w (Below.refl _ _)
  go_wp2_with (go_at_call 70; refine (all_c _ W (by omega)).mono ?_; rintro e w2 ⟨v, rfl, ho2, hb2⟩; refine Stop.of ?_)
  refine Stop.go ?_
  obtain ⟨va, vc, rfl, hi2, hm2⟩ := ints_of_own ho2 (allI_len W)
  have HI2 := hid hi2
  have HB2 := hid hb2
  clear hi2 ho2 hb2 c0
  have hb23 : Below w2.heap.size w2 (w2.alloc (.cells #[.int .i64 n] 3)) := (Below.refl _ _).alloc (Nat.le_refl _) _
  have HB3 := hid (chain HB2.out hb23)
  have HC3 := hid (HCh.out (w2.alloc (.cells #[.int .i64 n] 3)) HB3.out va vc w2.heap.size (HI2.out.below hb23) (by rw [World.cell?_alloc_at _ _ _ _ rfl]; rfl) (by simp))
  clear HCh hb23 HI2 HB2
  go_wp2_with (go_at_call 153; refine (unit_c w2 n).mono ?_; rintro e w3 ⟨rfl, rfl⟩; refine Stop.of ?_)
  refine Stop.go ?_
  go_wp2_with (go_at_call 79; refine HC3.out.mono ?_; rintro e w4 ⟨v0, rfl, hO4, hb4⟩; refine Stop.of ?_)
  refine Stop.go ?_
  have HRd1 := hid (HRd.out w4 _ v0 (OwnT.of hO4) hb4.size)
  have HB4 := hid (chain HB3.out hb4)
  have c4 := HCC.out w4 HB4.out
  have HB34 := hid hb4
  clear hO4 HRd HC3 hb4
  go_wp2_with (go_at_call 78; refine HRd1.out.mono ?_; rintro e w5 ⟨vJ, rfl, hJo, hT5, hb5⟩; refine Stop.of ?_)
  refine Stop.go ?_
  rw [intsJ_vals] at hJo
  obtain ⟨ja, jc, rfl, hJI, hJm⟩ := ints_of_own hJo (by rw [intsJ_len, HKJ.out])
  have hv0 : ∃ g0 c0, v0 = .slice (some ⟨g0, 0, none⟩) n c0 := by
    obtain ⟨g0, c0, _, _, e, _⟩ := hT5.at 0 (by rw [HRL.out]; omega)
    exact ⟨g0, c0, by rw [e, HRL.out]⟩
  obtain ⟨g0, cc, rfl⟩ := hv0
  have hinf := hT5.info HRL.out
  have hSE : SeenAt w5 g0 M W := by
    intro i hi
    have hiR : i < (pRed (extF M) W).1.length := by rw [HRL.out, ← HN.out]; exact hi
    obtain ⟨gi, x, hx1, hx2, hx3⟩ := hT5.caps HRL.out i hiR
    have hlen := HRW.out _ (List.getElem_mem hiR)
    rw [List.getElem?_eq_getElem hiR]
    simp only [Option.getD_some]
    refine ⟨gi, x, ?_, hinf.2.2.1, hx2, hx3.ints, by rw [hlen, HN.out]⟩
    rw [hx1, hlen, HN.out]
  have HSE := hid hSE
  have HJI := hid hJI
  have HBF := hid (show Below w.heap.size w w5 from HB3.out.trans ((HB34.out.trans hb5).mono HB3.out.size))
  have hcc := hinf.2.2.2.1
  clear hSE hJI hinf hT5 hJo hb5
  go_wp2
  go_ret2
  exact ⟨g0, cc, ja, jc, rfl, HSE.out, hcc, HJI.out, HBF.out⟩
end

section
open Go.RowKit
set_option linter.unusedVariables false

theorem idx_J (J : List Nat) (p : Nat) : idxP (fun y => decide (y = (p : Int))) (intsJ J) 0 = match J.findIdx? (fun j => decide (j = p)) with | some i => (i : Int) | none => -1 := by
  rw [idxP_find]
  have e : (intsJ J).findIdx? (fun y => decide (y = (p : Int))) = J.findIdx? (fun j => decide (j = p)) := by
    unfold intsJ
    rw [List.findIdx?_map]
    congr 1
    funext j
    simp only [Function.comp]
    by_cases h : j = p
    · simp [h]
    · rw [decide_eq_false h, decide_eq_false (by omega)]
  rw [e]
  cases J.findIdx? (fun j => decide (j = p)) <;> simp

theorem ints_drop {w : World} {g o W : Nat} {l : List Int} (h : IntsAt w (some ⟨g, o, none⟩) l) : IntsAt w (some ⟨g, o + W, none⟩) (l.drop W) := by
  intro j hj
  obtain ⟨b, off, e, hb, hc⟩ := h (W + j) (by rw [List.length_drop] at hj; omega)
  cases e
  refine ⟨g, o + W, rfl, hb, ?_⟩
  rw [List.getElem?_drop, ← hc, show o + W + j = o + (W + j) by omega]

def WtPost (M : Mask) (W p n : Nat) (e : Ending) (w' : World) : Prop :=
  (weightF M W p = none ∧ e = .returned (.tuple #[.slice none 0 0, .int .i64 0, .bool false])) ∨
  (∃ z c aa cap', weightF M W p = some (z, c) ∧ e = .returned (.tuple #[.slice aa n cap', .int .i64 c, .bool true]) ∧ IntsAt w' aa z)

set_option maxRecDepth 100000 in
set_option maxHeartbeats 4000000 in
theorem weight_c (w : World) (a : Option Addr) (n cap : Nat) (M : Mask) (hn : M.length = n) (H : RowsAt w a M) (hok : okM M = true) (p : Nat) (hp : p < colsM M) :
    Calls Try.prog 83 #[.slice a n cap, .int .i64 p] w fun e w' => Below w.heap.size w w' ∧ WtPost M (colsM M) p n e w' := by
  have HSN := hid (seen_c w a n cap M hn H hok)
  obtain ⟨hM, h1, h6, hc1, hc10⟩ := okM_ok hok
  obtain ⟨b, off, ra, rc, rfl, hb, hc⟩ := rows_head H (by omega)
  obtain ⟨W, hW⟩ : ∃ W, W = colsM M := ⟨_, rfl⟩
  rw [← hW] at HSN hM hc1 hc10 hc hp ⊢
  have hKn : (JP M W).length ≤ n := by
    have : (JP M W).length ≤ M.length := (hM.inv W).K_le
    omega
  have hwe : ∀ o, (JP M W).findIdx? (fun j => decide (j = p)) = o → weightF M W p = match o with | none => none | some k => if zeroBut W p ((RE M W)[k]?.getD []) = true then some (((RE M W)[k]?.getD []).drop W, vec ((RE M W)[k]?.getD []) p) else none := by
    intro o ho
    unfold weightF
    rw [show JE M W = JP M W from hM.ext_same.1, ho]
    all_goals (cases o <;> rfl)
  have HCC := hid (fun (X : World) (hX : Below w.heap.size w X) => show X.cell? ⟨b, off, none⟩ = some (.slice ra W rc) from (hX.cell (p := ⟨b, off, none⟩) hb).trans hc)
  have HIX := hid (fun (X : World) (ja : Option Addr) (jc : Nat) (hI : IntsAt X ja (intsJ (JP M W))) => indexV X ja (JP M W).length jc (intsJ (JP M W)) (intsJ_len _) (by unfold maxLen; omega) hI p)
  rw [idx_J] at HIX
  have i0 : (0 : Int) < (n : Int) := by omega
  have HN := hid hn
  obtain ⟨K, hK⟩ : ∃ K, K = (JP M W).length := ⟨_, rfl⟩
  have HKJ := hid hK
  rw [← hK] at HSN HIX hKn
  cases hf : (JP M W).findIdx? (fun j => decide (j = p)) with
  | none =>
    rw [hf] at HIX
    have HWE := hid (hwe none hf)
    simp only [] at HIX
    clear hn H hok hM h1 h6 hb hc hwe hf hK hW
    go_enter Try.func83, Try.ntmps83
    go_wp2_with (go_at_call 132; refine HSN.out.mono ?_; rintro e w1 ⟨g0, c0, ja, jc, rfl, hSE, hcc, hJI, hb1⟩; refine Stop.of ?_)
    refine Stop.go ?_
    have HX := hid (HIX.out w1 ja jc hJI)
    have HB1 := hid hb1
    clear hSE hJI hb1 HIX HSN
    go_wp2_with (go_at_call 117; refine HX.out.mono ?_; rintro e w2 ⟨rfl, rfl⟩; refine Stop.of ?_)
    refine Stop.go ?_
    go_wp2
    go_ret3
    exact ⟨HB1.out, Or.inl ⟨HWE.out, rfl⟩⟩
  | some k =>
    rw [hf] at HIX
    have HWE := hid (hwe (some k) hf)
    simp only [] at HIX HWE
    have hkK : k < K := by
      obtain ⟨hk, _⟩ := List.findIdx?_eq_some_iff_getElem.1 hf
      rw [hK]; exact hk
    clear hn H hok hM h1 h6 hb hc hwe hf hK hW
    go_enter Try.func83, Try.ntmps83
    go_wp2_with (go_at_call 132; refine HSN.out.mono ?_; rintro e w1 ⟨g0, c0, ja, jc, rfl, hSE, hcc, hJI, hb1⟩; refine Stop.of ?_)
    refine Stop.go ?_
    have HX := hid (HIX.out w1 ja jc hJI)
    obtain ⟨gi, x, hh, hg0, hgi, hri, hrl⟩ := hSE k (by rw [HN.out]; omega)
    rw [HN.out] at hh hrl
    have hm1 := HCC.out w1 hb1
    have HB1 := hid hb1
    have HRI := hid hri
    have HRL := hid hrl
    obtain ⟨row, hrow⟩ : ∃ row, row = (RE M W)[k]?.getD [] := ⟨_, rfl⟩
    rw [← hrow] at HRI HRL HWE
    clear hSE hJI hb1 HIX HSN hri hrl hrow
    obtain ⟨L, hL⟩ : ∃ L, L = W + n := ⟨_, rfl⟩
    rw [← hL] at hh HRL
    have hLW : W ≤ L := by omega
    have hLn : L - W = n := by omega
    have i1 : (k : Int) < (n : Int) := by omega
    have i2 : (W : Int) ≤ ((L + x : Nat) : Int) := by omega
    have i3 : (W : Int) ≤ (L : Int) := by omega
    have i4 : (p : Int) < (L : Int) := by omega
    have i5 : (L : Int) ≤ ((L + x : Nat) : Int) := by omega
    obtain ⟨C, hC⟩ : ∃ C, C = L + x := ⟨_, rfl⟩
    rw [← hC] at hh i2 i5
    clear hL hC
    go_wp2_with (go_at_call 117; refine HX.out.mono ?_; rintro e w2 ⟨rfl, rfl⟩; refine Stop.of ?_)
    refine Stop.go ?_
    go_wp2
    go_quiet (fail)
    go_wp2
    have HRI2 := hid (HRI.out.below (below_drewN (Below.refl _ _) nq))
    have HB2 := hid (below_drewN HB1.out nq)
    have hh2 : (w1.drewN nq).cell? ⟨g0, k, none⟩ = some (.slice (some ⟨gi, 0, none⟩) L C) := hh
    have hm2 : (w1.drewN nq).cell? ⟨b, off, none⟩ = some (.slice ra W rc) := hm1
    have hgi2 : gi < (w1.drewN nq).heap.size := hgi
    clear hh hm1 hgi HRI HB1 hg0
    generalize w1.drewN nq = w2 at HRI2 HB2 hh2 hm2 hgi2 ⊢
    go_loop [32] (fun i => ∃ t : Nat, t ≤ W ∧ i = .int .i64 t ∧ Hid (∀ c, c < t → c ≠ p → vec row c = 0)) (fun i => W - (intOf i).toNat)
    case atStart => exact ⟨0, Nat.zero_le _, rfl, hid (fun c h => by omega)⟩
    case round =>
      obtain ⟨t, ht, rfl, HNO⟩ := hrel
      by_cases hlt : t < W
      · obtain ⟨_, _, e, _, hct⟩ := HRI2.out t (by rw [HRL.out]; omega)
        cases e
        rw [Nat.zero_add] at hct
        have HZ := hid (fun (h : vec row t ≠ 0) (h2 : t ≠ p) => show zeroBut W p row = false from decide_eq_false fun h3 => h (h3 t hlt h2))
        have HX1 := hid (fun (h : vec row t = 0 ∨ t = p) => show ∀ c, c < t + 1 → c ≠ p → vec row c = 0 from fun c hc hne => by
          rcases Nat.lt_or_ge c t with h1 | h1
          · exact HNO.out c h1 hne
          · obtain rfl : c = t := by omega
            rcases h with h | h
            · exact h
            · exact absurd h hne)
        obtain ⟨v, hv⟩ : ∃ v, v = vec row t := ⟨_, rfl⟩
        rw [← hv] at HZ HX1
        have hct' : w2.cell? ⟨gi, t, none⟩ = some (.int .i64 v) := by rw [hct, hv]; rfl
        have j1 : (t : Int) < (W : Int) := by omega
        clear hct hv
        by_cases h0 : v = 0
        · have HX := hid (HX1.out (.inl h0))
          have hb0 : (v != 0) = false := by simpa using h0
          clear HZ HX1
          go_wp2
          go_round
          case rel => exact ⟨t + 1, by omega, by go_num, HX⟩
          case measure => simp [intOf]; omega
        · have hb0 : (v != 0) = true := by simpa using h0
          by_cases htp : t = p
          · have HX := hid (HX1.out (.inr htp))
            subst htp
            have hb1 : ((t : Int) != (t : Int)) = false := by simp
            clear HZ HX1
            go_wp2
            go_round
            case rel => exact ⟨t + 1, by omega, by go_num, HX⟩
            case measure => simp [intOf]; omega
          · have hz := HZ.out h0 htp
            have hb1 : ((t : Int) != (p : Int)) = true := by simp; omega
            have hwn : weightF M W p = none := by rw [HWE.out, if_neg (by rw [hz]; decide)]
            clear HZ HX1
            go_wp2
            go_ret3
            exact ⟨HB2.out, Or.inl ⟨hwn, rfl⟩⟩
      · obtain rfl : t = W := by omega
        have hz : zeroBut t p row = true := decide_eq_true fun c hc hne => HNO.out c hc hne
        have hwn : weightF M t p = some (row.drop t, vec row p) := by rw [HWE.out, if_pos hz]
        obtain ⟨_, _, e, _, hct⟩ := HRI2.out p (by rw [HRL.out]; omega)
        cases e
        rw [Nat.zero_add] at hct
        have HZI := hid (ints_drop (W := t) HRI2.out)
        obtain ⟨v, hv⟩ : ∃ v, v = vec row p := ⟨_, rfl⟩
        rw [← hv] at hwn
        have hct' : w2.cell? ⟨gi, p, none⟩ = some (.int .i64 v) := by rw [hct, hv]; rfl
        have HWN := hid hwn
        clear hct hv hz hwn HWE
        go_wp2
        go_quiet (fail)
        go_wp2
        go_ret3
        refine ⟨below_drewN HB2.out _, Or.inr ⟨row.drop t, v, some ⟨gi, t, none⟩, C - t, HWN.out, ?_, ?_⟩⟩
        · rw [← hLn]; rfl
        · have := HZI.out.below (below_drewN (Below.refl _ _) nq)
          rwa [Nat.zero_add] at this
end

section
open Go.RowKit
set_option linter.unusedVariables false

def knB (M : Mask) (p : Nat) : Bool := (weightF M (colsM M) p).isSome
theorem knB_iff {M : Mask} (hok : okM M = true) {p : Nat} (hp : p < colsM M) : knB M p = true ↔ ∀ l ∈ kernP (RP M (colsM M)) (JP M (colsM M)) (colsM M), vec l p = 0 := by
  obtain ⟨hM, _⟩ := okM_ok hok
  rw [← hM.known_ref hp]
  unfold knB
  constructor
  · intro h
    obtain ⟨⟨z, c⟩, e⟩ := Option.isSome_iff_exists.1 h
    obtain ⟨k, hk, _⟩ := weight_some hM e
    exact ⟨k, hk⟩
  · intro h
    cases e : weightF M (colsM M) p with
    | none => exact absurd h (weight_none hM e)
    | some x => rfl

def knTo (M : Mask) (k : Nat) : List Int := ((List.range k).filter (knB M)).map (fun p : Nat => (p : Int))
theorem knTo_succ (M : Mask) (k : Nat) : knTo M (k + 1) = if knB M k = true then knTo M k ++ [(k : Int)] else knTo M k := by
  unfold knTo
  rw [List.range_succ, List.filter_append]
  by_cases h : knB M k = true
  · rw [if_pos h]; simp [h]
  · rw [if_neg h]; simp [h]
theorem knTo_len (M : Mask) (k : Nat) : (knTo M k).length ≤ k := by
  unfold knTo; rw [List.length_map]
  have := List.length_filter_le (knB M) (List.range k)
  simpa using this
def knownL (M : Mask) : List Int := if okM M = true then knTo M (colsM M) else []
def okE (M : Mask) : Int := if okM M = true then 0 else 1

set_option maxRecDepth 100000 in
set_option maxHeartbeats 4000000 in
theorem lknown_c (w : World) (a : Option Addr) (n cap : Nat) (M : Mask) (hn : M.length = n) (hm : n ≤ maxLen) (H : RowsAt w a M) :
    Calls Try.prog 33 #[.slice a n cap] w fun e w' => ∃ v base, e = .returned (.tuple #[v, .int .i64 (okE M)]) ∧ w.heap.size ≤ base ∧ w'.ownsRow base 3 1 v (knownL M).length ((knownL M).map (Value.int .i64)) ∧ Below w.heap.size w w' := by
  have HV := hid (maskValid_c w a n cap M hn hm H)
  unfold okE knownL
  cases hok : okM M
  · rw [hok] at HV
    simp only [Bool.false_eq_true, if_false]
    clear hn H hok
    go_enter Try.func33, Try.ntmps33
    go_wp2_with (go_at_call 69; refine HV.out.mono ?_; rintro e w1 ⟨rfl, hb1⟩)
    go_ret2
    exact ⟨.slice none 0 0, w.heap.size, rfl, Nat.le_refl _, World.ownsRow_nil _ _ _ _, hb1⟩
  · rw [hok] at HV
    simp only [if_true]
    obtain ⟨hM, h1, h6, hc1, hc10⟩ := okM_ok hok
    obtain ⟨b, off, ra, rc, rfl, hb, hc⟩ := rows_head H (by omega)
    have HWT := hid (fun (X : World) (hX : Below w.heap.size w X) (p : Nat) (hp : p < colsM M) => weight_c X (some ⟨b, off, none⟩) n cap M hn (H.below hX) hok p hp)
    have HKB := hid (fun (p : Nat) => show knB M p = (weightF M (colsM M) p).isSome from rfl)
    obtain ⟨W, hW⟩ : ∃ W, W = colsM M := ⟨_, rfl⟩
    rw [← hW] at HWT HKB hc hc10 ⊢
    have HCC := hid (fun (X : World) (hX : Below w.heap.size w X) => show X.cell? ⟨b, off, none⟩ = some (.slice ra W rc) from (hX.cell (p := ⟨b, off, none⟩) hb).trans hc)
    have i0 : (0 : Int) < (n : Int) := by omega
    clear hn H hok hM h1 h6 hb hc hW
    go_enter Try.func33, Try.ntmps33
    go_wp2_with (go_at_call 69; refine HV.out.mono ?_; rintro e w1 ⟨rfl, hb1⟩; refine Stop.of ?_)
    refine Stop.go ?_
    have hc1 := HCC.out w1 hb1
    have HB1 := hid hb1
    clear hb1 HV
    go_wp2
    clear hc1
    go_loopw [4, 16] (fun v i wr => ∃ k : Nat, k ≤ W ∧ i = .int .i64 k ∧ wr.ownsRow w1.heap.size 3 1 v (knTo M k).length ((knTo M k).map (Value.int .i64)) ∧ Below w1.heap.size w1 wr) (fun _ i _ => W - (intOf i).toNat)
    case atStart => exact ⟨0, Nat.zero_le _, rfl, World.ownsRow_nil _ _ _ _, Below.refl _ _⟩
    case round =>
      obtain ⟨k, hk, rfl, ho, hbk⟩ := hrel
      by_cases hlt : k < W
      · have HW1 := hid (HWT.out wr (chain HB1.out hbk) k hlt)
        have hsn := knTo_succ M k
        have hkb := HKB.out k
        obtain ⟨T, hT⟩ : ∃ T, T = knTo M k := ⟨_, rfl⟩
        rw [← hT] at ho hsn
        have hTl : T.length ≤ k := by rw [hT]; exact knTo_len M k
        obtain ⟨m, hm⟩ : ∃ m, m = T.length := ⟨_, rfl⟩
        rw [← hm] at ho hTl
        have HSN := hid hsn
        have HKBK := hid hkb
        have HO := hid ho
        have HBK := hid hbk
        have HML := hid hm
        obtain ⟨va, vc, rfl⟩ := ownsRow_slice ho
        clear ho hbk hsn hkb hT hm
        go_wp2_with (go_at_call 83; refine HW1.out.mono ?_; rintro e w2 ⟨hb2, hpost⟩; rcases hpost with ⟨hwn, rfl⟩ | ⟨z, c, aa, cap', hws, rfl, _⟩; all_goals refine Stop.of ?_)
        · refine Stop.go ?_
          have hkf : knB M k = false := by rw [HKBK.out, hwn]; rfl
          have HS2 := hid (show knTo M (k + 1) = T by rw [HSN.out, if_neg (by rw [hkf]; decide)])
          have HO2 := hid (own_below HO.out hb2)
          have HB2 := hid (chain HBK.out hb2)
          clear hwn hkf hb2
          go_wp2
          refine ⟨⟨k + 1, by omega, by go_num, ?_, HB2.out⟩, by simp [intOf]; omega⟩
          rw [HS2.out, ← HML.out]; exact HO2.out
        · refine Stop.go ?_
          have hkt : knB M k = true := by rw [HKBK.out, hws]; rfl
          have HS2 := hid (show knTo M (k + 1) = T ++ [(k : Int)] by rw [HSN.out, if_pos hkt])
          have HO2 := hid (own_below HO.out hb2)
          have HB2 := hid (chain HBK.out hb2)
          have M1 := hid (show m + 1 ≤ maxLen by unfold maxLen; omega)
          have M2 := hid (show (m + 1) * 8 ≤ 140737488355328 by omega)
          have M3 := hid (Nat.le_trans HB2.out.size (le_alloc w2 (.cells #[.int .i64 (k : Int)] 3)))
          clear hws hkt hb2
          go_wp2_with (at_builtin; refine wpList_app _ rfl (.tmp 27) (.tmp 29) 31 rfl w1.heap.size 3 (.int .i64 0) 1 8 Try.underlying31 li_int rfl Nat.one_pos (.slice va m vc) m _ rfl (HO2.out.alloc _) (some ⟨w2.heap.size, 0, none⟩) 1 1 [.int .i64 (k : Int)] rfl rfl no_none (one_news w2 _ _) (li_one _) M1.out M2.out M3.out ?_; refine Stop.of ?_)
          refine Stop.go ?_
          intro a3 c3 w3 own3 g3
          have hB3 : Below w1.heap.size w1 w3 := (HB2.out.alloc HB2.out.size _).grown g3 M3.out (fun k hk => (HO2.out.lt k hk).1)
          go_wp2
          refine ⟨⟨k + 1, by omega, by go_num, ?_, hB3⟩, by simp [intOf]; omega⟩
          rw [HS2.out, List.length_append, ← HML.out]
          simpa using own3
      · obtain rfl : k = W := by omega
        obtain ⟨va, vc, rfl⟩ := ownsRow_slice ho
        have HO := hid ho
        have HBK := hid hbk
        clear ho hbk
        go_wp2
        go_ret2
        exact ⟨_, w1.heap.size, rfl, HB1.out.size, HO.out, chain HB1.out HBK.out⟩

end

section
open Go.RowKit
set_option linter.unusedVariables false

end

section
open Go.RowKit
set_option linter.unusedVariables false

end

section
open Go.RowKit
set_option linter.unusedVariables false

end
end
end Go.Proofs.Ytfipebkhomppmaa

namespace Go.Proofs.Ytfipebkhomppmaa
set_option linter.unusedVariables false

structure Circ (M : List (List Int)) (n : Nat) (c : List Int) : Prop where
  len : c.length = n
  ker : IsKer M n (vec c)
  prim : Prim (vec c)
  pos : 0 < firstNz c
  least : ∀ v, IsKer M n v → (∀ j, j < n → vec c j = 0 → v j = 0) → (∃ j, j < n ∧ v j ≠ 0) → ∀ j, j < n → vec c j ≠ 0 → v j ≠ 0

theorem firstNz_ex : ∀ (l : List Int), firstNz l ≠ 0 → ∃ j, j < l.length ∧ vec l j = firstNz l ∧ ∀ i, i < j → vec l i = 0
  | [], h => by simp [firstNz] at h
  | x :: l, h => by
    by_cases e : x = 0
    · have h1 : firstNz (x :: l) = firstNz l := by show (if x = 0 then firstNz l else x) = _; rw [if_pos e]
      rw [h1] at h ⊢
      obtain ⟨j, hj, h2, h3⟩ := firstNz_ex l h
      refine ⟨j + 1, by simp; omega, by rw [← h2]; simp [vec], fun i hi => ?_⟩
      cases i with
      | zero => simp [vec, e]
      | succ i => have := h3 i (by omega); simpa [vec] using this
    · have h1 : firstNz (x :: l) = x := by show (if x = 0 then firstNz l else x) = _; rw [if_neg e]
      rw [h1]
      exact ⟨0, by simp, by simp [vec], fun i hi => by omega⟩
theorem firstNz_eq : ∀ (l : List Int) (j : Nat), vec l j ≠ 0 → (∀ i, i < j → vec l i = 0) → firstNz l = vec l j
  | [], j, h, _ => by simp [vec] at h
  | x :: l, 0, h, _ => by
    have hx : x ≠ 0 := by simpa [vec] using h
    show (if x = 0 then firstNz l else x) = _
    rw [if_neg hx]; simp [vec]
  | x :: l, j + 1, h, h0 => by
    have hx : x = 0 := by have := h0 0 (by omega); simpa [vec] using this
    show (if x = 0 then firstNz l else x) = _
    rw [if_pos hx, firstNz_eq l j (by simpa [vec] using h) (fun i hi => by have := h0 (i + 1) (by omega); simpa [vec] using this)]
    simp [vec]
theorem firstNz_ne {l : List Int} {j : Nat} (h : vec l j ≠ 0) : firstNz l ≠ 0 := by
  induction j using Nat.strongRecOn with
  | ind j ih =>
    by_cases e : ∀ i, i < j → vec l i = 0
    · rw [firstNz_eq l j h e]; exact h
    · obtain ⟨i, hi⟩ := Classical.not_forall.1 e
      obtain ⟨h1, h2⟩ := Classical.not_imp.1 hi
      exact ih i h1 h2

theorem vec_ext {l m : List Int} (hl : l.length = m.length) (h : ∀ j, vec l j = vec m j) : l = m :=
  List.ext_getElem hl fun j h1 h2 => by have := h j; rwa [vec_lt h1, vec_lt h2] at this
theorem IsKer.lin {M : List (List Int)} {n : Nat} {u v : Vec} (hu : IsKer M n u) (hv : IsKer M n v) (x y : Int) : IsKer M n (fun c => x * u c + y * v c) := by
  intro q hq
  have h1 := hu q hq
  have h2 := hv q hq
  unfold dotS at *
  rw [sm_congr (g := fun c => x * (rowv M q c * u c) + y * (rowv M q c * v c)) (fun c _ => by grind), sm_add, sm_mul, sm_mul, h1, h2]; simp

theorem Circ.one {M : List (List Int)} {n : Nat} {c d : List Int} (hc : Circ M n c) (hd : Circ M n d) (hs : ∀ j, j < n → vec c j = 0 → vec d j = 0) : c = d := by
  obtain ⟨j0, hj0, e0, z0⟩ := firstNz_ex d (by have := hd.pos; omega)
  rw [hd.len] at hj0
  have hd0 : vec d j0 ≠ 0 := by have := hd.pos; omega
  have hcd := hc.least _ hd.ker hs ⟨j0, hj0, hd0⟩
  -- same support
  have hc0 : vec c j0 ≠ 0 := fun e => hd0 (hs j0 hj0 e)
  have zc : ∀ i, i < j0 → vec c i = 0 := fun i hi => Classical.byContradiction fun h => hcd i (by omega) h (z0 i hi)
  have ec := firstNz_eq c j0 hc0 zc
  have hk : ∀ j, vec d j0 * vec c j = vec c j0 * vec d j := by
    intro j
    rcases Nat.lt_or_ge j n with hj | hj
    · refine Classical.byContradiction fun hne => ?_
      have hv := hc.ker.lin hd.ker (vec d j0) (-(vec c j0))
      have := hc.least _ hv (fun i hi h => by rw [h, hs i hi h]; simp) ⟨j, hj, fun h => hne (by rw [Int.neg_mul] at h; omega)⟩ j0 hj0 hc0
      refine this ?_
      rw [Int.neg_mul, Int.mul_comm]; omega
    · rw [vec_ge (l := c) (c := j) (by rw [hc.len]; exact hj), vec_ge (l := d) (c := j) (by rw [hd.len]; exact hj)]; simp
  refine vec_ext (by rw [hc.len, hd.len]) fun j => prim_eq (x := vec d j0) (y := vec c j0) ?_ ?_ hk hc.prim hd.prim j
  · have := hd.pos; omega
  · have := hc.pos; omega

theorem circ1_circ {M : List (List Int)} {n : Nat} (h : MaskOk M n) {S c : List Int} (hS : SetOk n S) (hne : S ≠ []) (hc : circ1P M n S = some c) : Circ M n c := by
  obtain ⟨f1, f2, _, f4, f5⟩ := circ_facts h hS hne hc
  refine ⟨f1, f2, f4, f5, fun v hv h0 hn j hj hcj => ?_⟩
  refine circ_least h hS hc hv (fun i hi hm => h0 i hi ?_) hn j ((circ_supp h hS hc j).1 hcj)
  exact Classical.byContradiction fun e => hm ((circ_supp h hS hc i).1 e)

theorem comb_nodup0 {n : Nat} {S : List Int} (hS : SetOk n S) : S.length ≤ n := by
  rcases Nat.lt_or_ge n S.length with h | h
  · have h1 := comb_mem n 0 S hS.1 (fun y hy => by have := hS.2 y hy; omega)
    rw [comb_none n S.length 0 h] at h1
    simp at h1
  · exact h
theorem circP_iff {M : List (List Int)} {n : Nat} (h : MaskOk M n) {c : List Int} : c ∈ circP M n ↔ Circ M n c := by
  rw [circP_mem]
  constructor
  · rintro ⟨k, S, hk, hS, hc⟩
    have hl := comb_len _ _ _ S hS
    exact circ1_circ h (comb_ok hS) (fun e => by rw [e] at hl; simp at hl) hc
  · intro hc
    obtain ⟨j0, hj0, e0, _⟩ := firstNz_ex c (by have := hc.pos; omega)
    rw [hc.len] at hj0
    obtain ⟨S, d, hS, _, hne, hsub, hd⟩ := circ_within h _ (vec c) rfl hc.ker ⟨j0, hj0, by have := hc.pos; omega⟩
    have hD := circ1_circ h hS hne hd
    have e := hc.one hD (fun j hj hz => Classical.byContradiction fun hn => by
      have := hsub _ ((circ_supp h hS hd j).1 hn)
      exact (mem_suppL.1 this).2 hz)
    subst e
    obtain ⟨k, hk⟩ : ∃ k, S.length = k + 1 := ⟨S.length - 1, by have := List.length_pos_iff.2 hne; omega⟩
    have h1 : ¬ rankF M n + 1 < S.length := fun hlt => by rw [circ1_many h hlt] at hd; cases hd
    have h2 : S.length ≤ n := by
      have := (comb_nodup0 hS)
      exact this
    have h3 := comb_mem n 0 S hS.1 (fun y hy => by have := hS.2 y hy; omega)
    rw [hk] at h3
    exact ⟨k, S, by omega, h3, hd⟩

theorem comb_nodup : ∀ (m k : Nat) (a : Int), (comb m k a).Nodup
  | _, 0, _ => by unfold comb; simp
  | 0, _ + 1, _ => by unfold comb; simp
  | m + 1, k + 1, a => by
    unfold comb
    rw [List.nodup_append]
    refine ⟨?_, comb_nodup m (k + 1) (a + 1), ?_⟩
    · unfold List.Nodup
      rw [List.pairwise_map]
      exact (comb_nodup m k (a + 1)).imp fun h e => h (by simpa using e)
    · rintro x hx y hy rfl
      obtain ⟨z, _, rfl⟩ := List.mem_map.1 hx
      have := (comb_asc _ _ _ _ hy).2 a (by simp)
      omega

theorem set_ext {n : Nat} {S T : List Int} (hS : SetOk n S) (hT : SetOk n T) (h : ∀ j : Nat, (j : Int) ∈ S ↔ (j : Int) ∈ T) : S = T := by
  have key : ∀ {S : List Int}, SetOk n S → (S.map Int.toNat).Pairwise (· < ·) ∧ (S.map Int.toNat).map (fun j : Nat => (j : Int)) = S ∧ ∀ j : Nat, j ∈ S.map Int.toNat ↔ (j : Int) ∈ S := by
    intro S hS
    have h0 : ∀ y ∈ S, ((y.toNat : Nat) : Int) = y := fun y hy => by have := hS.2 y hy; omega
    refine ⟨?_, ?_, fun j => ?_⟩
    · rw [List.pairwise_map]
      exact hS.1.imp_of_mem fun {a b} ha hb hlt => by have := h0 a ha; have := h0 b hb; omega
    · rw [List.map_map]
      exact (List.map_congr_left fun y hy => h0 y hy).trans (List.map_id _)
    · rw [List.mem_map]
      constructor
      · rintro ⟨y, hy, rfl⟩; rw [h0 y hy]; exact hy
      · intro hj; exact ⟨_, hj, by simp⟩
  obtain ⟨s1, s2, s3⟩ := key hS
  obtain ⟨t1, t2, t3⟩ := key hT
  rw [← s2, ← t2, asc_eq s1 t1 (fun x => by rw [s3, t3, h])]

theorem circP_nodup {M : List (List Int)} {n : Nat} (h : MaskOk M n) : (circP M n).Nodup := by
  have inj : ∀ {S T c : List Int}, SetOk n S → SetOk n T → circ1P M n S = some c → circ1P M n T = some c → S = T := fun hS hT h1 h2 =>
    set_ext hS hT fun j => by rw [← circ_supp h hS h1 j, circ_supp h hT h2 j]
  unfold circP List.Nodup
  rw [List.pairwise_flatMap]
  refine ⟨fun k hk => ?_, ?_⟩
  · rw [List.pairwise_filterMap]
    refine (comb_nodup n (k + 1) 0).imp_of_mem fun {S T} hS hT hne c hc d hd e => ?_
    subst e
    exact hne (inj (comb_ok hS) (comb_ok hT) hc hd)
  · refine List.nodup_range.imp fun {a b} hab c hc d hd e => ?_
    subst e
    obtain ⟨S, hS, h1⟩ := List.mem_filterMap.1 hc
    obtain ⟨T, hT, h2⟩ := List.mem_filterMap.1 hd
    have := inj (comb_ok hS) (comb_ok hT) h1 h2
    subst this
    have l1 := comb_len _ _ _ _ hS
    have l2 := comb_len _ _ _ _ hT
    omega

structure Perm2 (n : Nat) (s t : Nat → Nat) : Prop where
  s_lt : ∀ i, i < n → s i < n
  t_lt : ∀ i, i < n → t i < n
  st : ∀ i, i < n → s (t i) = i
  ts : ∀ i, i < n → t (s i) = i
theorem Perm2.symm {n : Nat} {s t : Nat → Nat} (h : Perm2 n s t) : Perm2 n t s := ⟨h.t_lt, h.s_lt, h.ts, h.st⟩
theorem Perm2.perm {n : Nat} {s t : Nat → Nat} (h : Perm2 n s t) : ((List.range n).map s).Perm (List.range n) := by
  refine (List.perm_ext_iff_of_nodup ?_ List.nodup_range).2 fun a => ?_
  · unfold List.Nodup
    rw [List.pairwise_map]
    refine List.nodup_range.imp_of_mem fun {a b} ha hb hne e => hne ?_
    rw [← h.ts a (List.mem_range.1 ha), ← h.ts b (List.mem_range.1 hb), e]
  · rw [List.mem_map, List.mem_range]
    constructor
    · rintro ⟨i, hi, rfl⟩; exact h.s_lt i (List.mem_range.1 hi)
    · intro ha; exact ⟨t a, List.mem_range.2 (h.t_lt a ha), h.st a ha⟩
def sumL (f : Nat → Int) : List Nat → Int
  | [] => 0
  | a :: l => f a + sumL f l
theorem sumL_perm (f : Nat → Int) {l m : List Nat} (h : l.Perm m) : sumL f l = sumL f m := by
  induction h with
  | nil => rfl
  | cons a _ ih => unfold sumL; rw [ih]
  | swap a b l => simp only [sumL]; omega
  | trans _ _ h1 h2 => rw [h1, h2]
theorem sumL_app (f : Nat → Int) : ∀ l m : List Nat, sumL f (l ++ m) = sumL f l + sumL f m
  | [], m => by simp [sumL]
  | a :: l, m => by show f a + sumL f (l ++ m) = _; rw [sumL_app f l m]; simp only [sumL]; omega
theorem sumL_map (f : Nat → Int) (g : Nat → Nat) : ∀ l : List Nat, sumL f (l.map g) = sumL (fun i => f (g i)) l
  | [] => rfl
  | a :: l => by simp only [List.map_cons, sumL]; rw [sumL_map f g l]
theorem sm_sumL (f : Nat → Int) : ∀ n, sm f n = sumL f (List.range n)
  | 0 => rfl
  | n + 1 => by
    rw [List.range_succ, sumL_app, ← sm_sumL f n]
    show sm f n + f n = _
    simp [sumL]
theorem sm_perm {n : Nat} {s t : Nat → Nat} (h : Perm2 n s t) (f : Nat → Int) : sm (fun i => f (s i)) n = sm f n := by
  rw [sm_sumL, sm_sumL, ← sumL_map, sumL_perm f h.perm]

def Moved (M P : List (List Int)) (n : Nat) (s : Nat → Nat) : Prop := P.length = M.length ∧ ∀ q, q < M.length → ∀ c, c < n → rowv P q c = rowv M q (s c)
theorem Moved.back {M P : List (List Int)} {n : Nat} {s t : Nat → Nat} (h : Perm2 n s t) (k : Moved M P n s) : Moved P M n t := by
  refine ⟨k.1.symm, fun q hq c hc => ?_⟩
  rw [k.2 q (by rw [← k.1]; exact hq) _ (h.t_lt c hc), h.st c hc]
theorem Moved.ker {M P : List (List Int)} {n : Nat} {s t : Nat → Nat} (h : Perm2 n s t) (k : Moved M P n s) {v : Vec} (hv : IsKer P n v) : IsKer M n (fun c => v (t c)) := by
  intro q hq
  have h1 := hv q (by rw [k.1]; exact hq)
  unfold dotS at *
  rw [← sm_perm h, sm_congr (g := fun c => rowv P q c * v c) (fun c hc => by show rowv M q (s c) * v (t (s c)) = _; rw [h.ts c hc, k.2 q hq c hc])]
  exact h1

def moveL (n : Nat) (t : Nat → Nat) (c : List Int) : List Int := (List.range n).map fun j => vec c (t j)
theorem moveL_len (n : Nat) (t : Nat → Nat) (c : List Int) : (moveL n t c).length = n := by simp [moveL]
theorem moveL_vec {n : Nat} {t : Nat → Nat} {c : List Int} {j : Nat} (hj : j < n) : vec (moveL n t c) j = vec c (t j) := by
  unfold moveL
  rw [vec_lt (by simpa using hj)]
  simp
def posL (l : List Int) : List Int := if 0 < firstNz l then l else negF l
theorem posL_vec (l : List Int) : ∃ z : Int, (z = 1 ∨ z = -1) ∧ ∀ j, vec (posL l) j = z * vec l j := by
  unfold posL
  split
  · exact ⟨1, .inl rfl, fun j => by simp⟩
  · exact ⟨-1, .inr rfl, fun j => by rw [negF_vec]; omega⟩

theorem move_circ {M P : List (List Int)} {n : Nat} {s t : Nat → Nat} (h : Perm2 n s t) (k : Moved M P n s) {c : List Int} (hc : Circ P n c) : Circ M n (posL (moveL n t c)) := by
  obtain ⟨z, hz, e⟩ := posL_vec (moveL n t c)
  have hl : (posL (moveL n t c)).length = n := by unfold posL negF; split <;> simp [moveL_len]
  have hz0 : z ≠ 0 := by omega
  have ev : ∀ j, j < n → vec (posL (moveL n t c)) j = z * vec c (t j) := fun j hj => by rw [e j, moveL_vec hj]
  have hker : IsKer M n (vec (posL (moveL n t c))) := by
    have h1 := (k.ker h hc.ker).lin (k.ker h hc.ker) z 0
    refine h1.congr fun j hj => ?_
    rw [ev j hj]; simp
  obtain ⟨j0, hj0, e0, _⟩ := firstNz_ex c (by have := hc.pos; omega)
  rw [hc.len] at hj0
  have hne : vec (moveL n t c) (s j0) ≠ 0 := by
    rw [moveL_vec (h.s_lt j0 hj0), h.ts j0 hj0]; have := hc.pos; omega
  refine ⟨hl, hker, ?_, ?_, ?_⟩
  · intro g hg
    refine hc.prim g fun j => ?_
    rcases Nat.lt_or_ge j n with hj | hj
    · have := hg (s j)
      rw [ev _ (h.s_lt j hj), h.ts j hj] at this
      rcases hz with rfl | rfl
      · simpa using this
      · have h2 : -1 * vec c j = -(vec c j) := by omega
        rw [h2] at this; exact Int.dvd_neg.1 this
    · rw [vec_ge (by rw [hc.len]; exact hj)]; exact Int.dvd_zero _
  · have hf := firstNz_ne hne
    unfold posL
    split
    · assumption
    · obtain ⟨j1, hj1, e1, z1⟩ := firstNz_ex _ hf
      rw [firstNz_eq (negF (moveL n t c)) j1 (by rw [negF_vec]; omega) (fun i hi => by rw [negF_vec, z1 i hi]; rfl), negF_vec, e1]
      omega
  · intro v hv h0 hn j hj hcj
    have hv2 := (k.back h).ker h.symm hv
    obtain ⟨i, hi, hvi⟩ := hn
    have h1 := hc.least _ hv2 (fun q hq hz => by
      refine h0 _ (h.s_lt q hq) ?_
      rw [ev _ (h.s_lt q hq), h.ts q hq, hz]; simp) ⟨t i, h.t_lt i hi, by show v (s (t i)) ≠ 0; rw [h.st i hi]; exact hvi⟩ (t j) (h.t_lt j hj) (fun hz => hcj (by rw [ev j hj, hz]; simp))
    have h3 : v (s (t j)) ≠ 0 := h1
    rwa [h.st j hj] at h3

theorem move_inj {M P : List (List Int)} {n : Nat} {s t : Nat → Nat} (h : Perm2 n s t) {c d : List Int} (hc : Circ P n c) (hd : Circ P n d) (e : posL (moveL n t c) = posL (moveL n t d)) : c = d := by
  obtain ⟨x, hx, ex⟩ := posL_vec (moveL n t c)
  obtain ⟨y, hy, ey⟩ := posL_vec (moveL n t d)
  refine hc.one hd fun j hj hz => ?_
  have h1 := ex (s j)
  have h2 := ey (s j)
  rw [moveL_vec (h.s_lt j hj), h.ts j hj] at h1 h2
  rw [e, hz] at h1
  rw [h1] at h2
  have hy0 : y ≠ 0 := by omega
  refine eq_zero_of_mul hy0 ?_
  rw [← h2]; simp

theorem move_le {M P : List (List Int)} {n : Nat} {s t : Nat → Nat} (hM : MaskOk M n) (hP : MaskOk P n) (h : Perm2 n s t) (k : Moved M P n s) : (circP P n).length ≤ (circP M n).length := by
  have hnd : ((circP P n).map fun c => posL (moveL n t c)).Nodup := by
    unfold List.Nodup
    rw [List.pairwise_map]
    refine (circP_nodup hP).imp_of_mem fun {c d} hc hd hne e => hne ?_
    exact move_inj (M := M) h ((circP_iff hP).1 hc) ((circP_iff hP).1 hd) e
  have := hnd.length_le_of_subset (l₂ := circP M n) fun x hx => by
    obtain ⟨c, hc, rfl⟩ := List.mem_map.1 hx
    exact (circP_iff hM).2 (move_circ h k ((circP_iff hP).1 hc))
  simpa using this
theorem move_same {M P : List (List Int)} {n : Nat} {s t : Nat → Nat} (hM : MaskOk M n) (hP : MaskOk P n) (h : Perm2 n s t) (k : Moved M P n s) : (circP P n).length = (circP M n).length :=
  Nat.le_antisymm (move_le hM hP h k) (move_le hP hM h.symm (k.back h))
theorem move_mem {M P : List (List Int)} {n : Nat} {s t : Nat → Nat} (hM : MaskOk M n) (hP : MaskOk P n) (h : Perm2 n s t) (k : Moved M P n s) {c : List Int} (hc : c ∈ circP P n) :
    moveL n t c ∈ circP M n ∨ negF (moveL n t c) ∈ circP M n := by
  have := (circP_iff hM).2 (move_circ h k ((circP_iff hP).1 hc))
  unfold posL at this
  split at this
  · exact .inl this
  · exact .inr this
theorem move_known {M P : List (List Int)} {n : Nat} {s t : Nat → Nat} (hM : MaskOk M n) (hP : MaskOk P n) (h : Perm2 n s t) (k : Moved M P n s) {j : Nat} (hj : j < n) : knownF P n j ↔ knownF M n (s j) := by
  rw [hP.known_iff hj, hM.known_iff (h.s_lt j hj)]
  constructor
  · intro h1 v hv
    have := h1 _ ((k.back h).ker h.symm hv)
    exact this
  · intro h1 v hv
    have := h1 _ (k.ker h hv)
    have h3 : v (t (s j)) = 0 := this
    rwa [h.ts j hj] at h3
end Go.Proofs.Ytfipebkhomppmaa

namespace Go.Proofs.Ytfipebkhomppmaa
open Go.RowKit
set_option linter.unusedVariables false

set_option maxRecDepth 100000 in
set_option maxHeartbeats 4000000 in
theorem r2picked_c (w : World) (a : Option Addr) (n cap : Nat) (M : List (List Int)) (hn : M.length = n) (hn6 : n ≤ 1000) (H : RowsAt w a M) (a2 : Option Addr) (k2 cap2 : Nat) (S : List Int) (hk2 : S.length = k2) (hk21 : k2 ≤ 1000) (H2 : IntsAt w a2 S)
    (hS : ∀ r ∈ M, ∀ j ∈ S, 0 ≤ j ∧ j < r.length) :
    Calls Try.prog 82 #[.slice a n cap, .slice a2 k2 cap2] w fun e w' => ∃ v, e = .returned v ∧ TabS w' w.heap.size v (colsF M S) ∧ Below w.heap.size w w' := by
  have HN := hid hn
  have HH := hid H
  have HK2 := hid hk2
  have HH2 := hid H2
  have HS := hid hS
  have HCT := hid (fun (k : Nat) (hk : k < M.length) => colsF_take (M := M) (S := S) hk)
  have HCL := hid (colsF_len M S)
  obtain ⟨C, hC⟩ : ∃ C, C = colsF M S := ⟨_, rfl⟩
  rw [← hC] at HCT HCL ⊢
  clear hn H hk2 H2 hS hC
  go_enter Try.func82, Try.ntmps82
  go_wp2
  go_loopw [5, 13] (fun v i wr => ∃ k : Nat, k ≤ n ∧ i = .int .i64 k ∧ TabS wr w.heap.size v (C.take k) ∧ Below w.heap.size w wr) (fun _ i _ => n - (intOf i).toNat)
  case atStart => exact ⟨0, Nat.zero_le _, rfl, TabS.nil _ _, Below.refl _ _⟩
  case round =>
    obtain ⟨k, hk, rfl, ho, hbk⟩ := hrel
    obtain ⟨wo, hwo⟩ : ∃ wo, wo = wr := ⟨_, rfl⟩
    subst hwo
    by_cases hlt : k < n
    · have hkM : k < M.length := by rw [HN.out]; exact hlt
      obtain ⟨b, off, ra, rn, rc, rfl, hbs, hq0, hrn, hrm, hri⟩ := (HH.out.below hbk) k hkM
      have htk := HCT.out k hkM
      have hsr := HS.out M[k] (List.getElem_mem hkM)
      obtain ⟨r, hr⟩ : ∃ r, r = M[k] := ⟨_, rfl⟩
      rw [← hr] at htk hsr hrn hri
      have hlen : (C.take k).length = k := by rw [List.length_take, HCL.out]; omega
      have HL := hid hlen
      have HTK := hid htk
      have HSR := hid hsr
      have HRN := hid hrn
      have HRI := hid hri
      have HO := hid ho
      have HBK := hid hbk
      obtain ⟨va, vc, hv⟩ : ∃ va vc, u5 = .slice va k vc := by
        obtain ⟨_, ho1, _⟩ := ho
        obtain ⟨a', c', e⟩ := ownsRow_slice ho1
        exact ⟨a', c', by rw [e, hlen]⟩
      subst hv
      have HM0 := hid (World.ownsRow_nil wo wo.heap.size 3 1)
      clear hr htk hsr hrn hri hkM ho hlen
      go_wp2
      go_loopw [8, 19] (fun v i wr => ∃ t : Nat, t ≤ k2 ∧ i = .int .i64 t ∧ wr.ownsRow wo.heap.size 3 1 v t (((S.take t).map (fun j => vec r j.toNat)).map (Value.int .i64)) ∧ Below wo.heap.size wo wr) (fun _ i _ => k2 - (intOf i).toNat)
      case atStart => exact ⟨0, Nat.zero_le _, rfl, HM0.out, Below.refl _ _⟩
      case round =>
        obtain ⟨t, ht, rfl, hown, hbt⟩ := hrel
        by_cases hlt2 : t < k2
        · have htS : t < S.length := by rw [HK2.out]; exact hlt2
          obtain ⟨b2, off2, rfl, hbs2, hc2⟩ := (HH2.out.below (chain HBK.out hbt)) t htS
          have hpp := HSR.out S[t] (List.getElem_mem htS)
          have hg2 : S[t]?.getD 0 = S[t] := by rw [List.getElem?_eq_getElem htS]; rfl
          rw [hg2] at hc2
          have htk2 : (S.take (t + 1)).map (fun j => vec r j.toNat) = (S.take t).map (fun j => vec r j.toNat) ++ [vec r (S[t]).toNat] := by
            rw [List.take_succ_eq_append_getElem htS, List.map_append]; rfl
          obtain ⟨q, hq⟩ : ∃ q : Nat, S[t] = q := ⟨(S[t]).toNat, by omega⟩
          rw [hq] at hc2 hpp htk2
          rw [show ((q : Int)).toNat = q by omega] at htk2
          have hqr : q < r.length := by omega
          obtain ⟨b3, off3, rfl, hbs3, hc3⟩ := (HRI.out.below hbt) q hqr
          have hqn : (q : Int) < (rn : Int) := by have := HRN.out; omega
          have hq0' : (0 : Int) ≤ (q : Int) := by omega
          obtain ⟨x, hx⟩ : ∃ x, x = r[q]?.getD 0 := ⟨_, rfl⟩
          have hxv : vec r q = x := hx.symm
          rw [← hx] at hc3
          rw [hxv] at htk2
          obtain ⟨la, lc, rfl⟩ := ownsRow_slice hown
          have HTK2 := hid htk2
          have HOW := hid hown
          have M1 := hid (show t + 1 ≤ maxLen by unfold maxLen; omega)
          have M2 := hid (show (t + 1) * 8 ≤ 140737488355328 by omega)
          have M3 := hid (Nat.le_trans hbt.size (le_alloc wr (.cells #[.int .i64 x] 3)))
          clear hpp hg2 htk2 hq hx hxv hown htS hqr
          go_wp2_with (at_builtin; refine wpList_app _ rfl (.tmp 23) (.tmp 28) 31 rfl wo.heap.size 3 (.int .i64 0) 1 8 Try.underlying31 li_int rfl Nat.one_pos (.slice la t lc) t _ rfl (HOW.out.alloc _) (some ⟨wr.heap.size, 0, none⟩) 1 1 [.int .i64 x] rfl rfl no_none (one_news wr _ _) (li_one _) M1.out M2.out M3.out ?_; refine Stop.of ?_)
          refine Stop.go ?_
          intro a3 c3 w3 own3 g3
          have hB3 : Below wo.heap.size wo w3 := (hbt.alloc hbt.size _).grown g3 M3.out (fun k hk => (HOW.out.lt k hk).1)
          go_wp2
          refine ⟨⟨t + 1, by omega, by go_num, ?_, hB3⟩, by simp [intOf]; omega⟩
          rw [HTK2.out]
          simpa using own3
        · obtain rfl : t = k2 := by omega
          rw [List.take_of_length_le (by rw [HK2.out]; exact Nat.le_refl _)] at hown
          obtain ⟨X, hX⟩ : ∃ X, X = S.map (fun j => vec r j.toNat) := ⟨_, rfl⟩
          rw [← hX] at hown HTK
          have hXl : X.length = t := by rw [hX, List.length_map, HK2.out]
          obtain ⟨la, lc, rfl⟩ := ownsRow_slice hown
          have hrs := rowS_own hown hXl
          obtain ⟨vs, ho1, ho2⟩ := HO.out
          have ho1' := ho1
          rw [HL.out] at ho1'
          have hb2a : Below wo.heap.size wo (wr.alloc (.cells #[.slice la t lc] 31)) := hbt.alloc hbt.size _
          have M1 := hid (show k + 1 ≤ maxLen by unfold maxLen; omega)
          have M2 := hid (show (k + 1) * 24 ≤ 140737488355328 by omega)
          have M3 := hid (Nat.le_trans HBK.out.size hb2a.size)
          have HO2' := hid (own_below ho1' hb2a)
          have HO1 := hid ho1
          have HO2 := hid ho2
          have HRS := hid (hrs.below ((Below.refl _ wr).alloc (Nat.le_refl _) (.cells #[.slice la t lc] 31)))
          have HB2' := hid hb2a
          clear hX hXl hown hrs ho1 ho1' ho2 hb2a hbt
          go_wp2_with (at_builtin; refine wpList_app _ rfl (.tmp 31) (.tmp 33) 23 rfl w.heap.size 31 (.slice none 0 0) 1 24 Try.underlying23 li_ints rfl Nat.one_pos (.slice va k vc) k vs rfl HO2'.out (some ⟨wr.heap.size, 0, none⟩) 1 1 [.slice la t lc] rfl rfl no_none (one_news wr _ _) (slice_oneCell _ _ _) M1.out M2.out M3.out ?_; refine Stop.of ?_)
          refine Stop.go ?_
          intro a5 c5 w5 own5 g5
          have hsn : TabS w5 w.heap.size (.slice a5 (k + 1) c5) (C.take k ++ [X]) := TabS.snoc HO1.out HO2.out HB2'.out HRS.out g5 (by rw [HL.out]; exact own5)
          have hB5 : Below w.heap.size w w5 := (HBK.out.trans (HB2'.out.mono HBK.out.size)).grown g5 M3.out (fun q hq => (HO2'.out.lt q hq).1)
          rw [← HTK.out] at hsn
          go_wp2
          exact ⟨⟨k + 1, by omega, by go_num, hsn, hB5⟩, by simp [intOf]; omega⟩
    · obtain rfl : k = n := by omega
      rw [List.take_of_length_le (by rw [HCL.out, HN.out]; exact Nat.le_refl _)] at ho
      go_wp2
      go_ret
      exact ⟨_, rfl, ho, hbk⟩

def inPix (W : Nat) (l : List Int) : Bool := l.all (fun p => inB p 0 ((W : Int) - 1))

set_option maxHeartbeats 1000000 in
theorem r2named_c (w : World) (a a2 : Option Addr) (n cap n2 cap2 : Nat) (M : Mask) (l : List Int) (hn : M.length = n) (hn2 : l.length = n2) (hm : n ≤ maxLen) (hm2 : n2 ≤ maxLen) (H : RowsAt w a M) (H2 : IntsAt w a2 l) (hok : okM M = true) :
    Calls Try.prog 81 #[.slice a n cap, .slice a2 n2 cap2] w fun e w' => e = .returned (.int .i64 (if inPix (colsM M) l = true then 0 else 5)) ∧ w = w' := by
  obtain ⟨hM, h1, h6, hc1, hc10⟩ := okM_ok hok
  obtain ⟨b, off, ra, rc, rfl, hb, hc⟩ := rows_head H (by omega)
  have HV := hid (r2Valid_c w (some ⟨b, off, none⟩) n cap M hn hm H)
  rw [hok] at HV
  have HW := hid (fun (x y z : Int) (X : World) => r2within_c x y z X)
  have HST := hid (fun (k : Nat) (hk : k < l.length) (h : inB l[k] 0 ((colsM M : Int) - 1) = false) => all_stop (p := fun p => inB p 0 ((colsM M : Int) - 1)) hk h)
  have HDN := hid (fun (h : ∀ j (hj : j < l.length), inB l[j] 0 ((colsM M : Int) - 1) = true) => all_done (p := fun p => inB p 0 ((colsM M : Int) - 1)) h)
  obtain ⟨B, hB⟩ : ∃ B, B = inPix (colsM M) l := ⟨_, rfl⟩
  have hB2 : l.all (fun p => inB p 0 ((colsM M : Int) - 1)) = B := hB.symm
  rw [hB2] at HST HDN
  rw [← hB]
  obtain ⟨W, hW⟩ : ∃ W, W = colsM M := ⟨_, rfl⟩
  rw [← hW] at HST HDN hc hc1 hc10
  have HN2 := hid hn2
  have HI := hid H2
  have i0 : (0 : Int) < (n : Int) := by omega
  obtain ⟨E, hE⟩ : ∃ E : Int, E = if B = true then 0 else 5 := ⟨_, rfl⟩
  rw [← hE]
  have HE := hid hE
  clear hn hn2 H H2 hok hM h1 h6 hb hB hB2 hW hE
  unfold maxLen at hm2
  go_enter Try.func81, Try.ntmps81
  go_wp2_with (go_at_call 64; refine HV.out.mono ?_; rintro e w1 ⟨rfl, rfl⟩; refine Stop.of ?_)
  refine Stop.go ?_
  clear HV
  go_wp2
  go_loopw [12] (fun i wr => ∃ k : Nat, k ≤ n2 ∧ i = .int .i64 k ∧ w = wr ∧ Hid (∀ j (hj : j < l.length), j < k → inB l[j] 0 ((W : Int) - 1) = true)) (fun i _ => n2 - (intOf i).toNat)
  case atStart => exact ⟨0, Nat.zero_le _, rfl, rfl, hid (fun j _ h => by omega)⟩
  case round =>
    obtain ⟨k, hk, rfl, rfl, HNO⟩ := hrel
    by_cases hlt : k < n2
    · have hkl : k < l.length := by rw [HN2.out]; exact hlt
      obtain ⟨b6, o6, rfl, hb6, hc6⟩ := HI.out k hkl
      have hg : l[k]?.getD 0 = l[k] := by rw [List.getElem?_eq_getElem hkl]; rfl
      rw [hg] at hc6
      have HSK := hid (HST.out k hkl)
      have HNX := hid (fun (h : inB l[k] 0 ((W : Int) - 1) = true) => show ∀ j (hj : j < l.length), j < k + 1 → inB l[j] 0 ((W : Int) - 1) = true from fun j hj hjk => by
        by_cases e : j = k
        · subst e; exact h
        · exact HNO.out j hj (by omega))
      obtain ⟨p, hp⟩ : ∃ p, p = l[k]'hkl := ⟨_, rfl⟩
      rw [← hp] at hc6 HSK HNX
      obtain ⟨V, hV⟩ : ∃ V, V = inB p 0 ((W : Int) - 1) := ⟨_, rfl⟩
      rw [← hV] at HSK HNX
      have HC := hid (HW.out p 0 ((W : Int) - 1) w)
      rw [← hV] at HC
      have hwr : IntKind.i64.wrap ((W : Int) - 1) = (W : Int) - 1 := IntWalk.i64_in _ (by omega)
      have i1 : (k : Int) < (n2 : Int) := by omega
      clear hg hp hV hkl HNO
      go_wp2_with (go_at_call 121; refine HC.out.mono ?_; rintro e w1 ⟨rfl, rfl⟩; refine Stop.of ?_)
      refine Stop.go ?_
      clear hwr HC
      cases V
      · obtain rfl : B = false := HSK.out rfl
        obtain rfl : E = 5 := HE.out
        go_wp2
        go_ret
        exact ⟨rfl, rfl⟩
      · have HX := hid (HNX.out rfl)
        go_wp2
        exact ⟨⟨k + 1, by omega, by go_num, trivial, HX⟩, by simp [intOf]; omega⟩
    · obtain rfl : k = n2 := by omega
      obtain rfl : B = true := HDN.out fun j hj => HNO.out j hj (by have := HN2.out; omega)
      obtain rfl : E = 0 := HE.out
      go_wp2
      go_ret
      exact ⟨rfl, rfl⟩
end Go.Proofs.Ytfipebkhomppmaa

namespace Go.Proofs.Ytfipebkhomppmaa
open Go.RowKit
set_option linter.unusedVariables false

def noDup (l : List Int) : Bool := decide l.Nodup
theorem noDup_yes {l : List Int} (h : ∀ a b (ha : a < l.length) (hb : b < l.length), a < b → l[a] ≠ l[b]) : noDup l = true :=
  decide_eq_true (List.pairwise_iff_getElem.2 fun i j hi hj hij => h i j hi hj hij)
theorem noDup_no {l : List Int} {a b : Nat} (ha : a < l.length) (hb : b < l.length) (hab : a < b) (e : l[a] = l[b]) : noDup l = false :=
  decide_eq_false fun h => (List.pairwise_iff_getElem.1 h a b ha hb hab) e
def permE (M : Mask) (l : List Int) : Int := if okM M = true then (if l.length = colsM M then (if inPix (colsM M) l = true then (if noDup l = true then 0 else 7) else 5) else 9) else 1

def PermPost (E : Int) (C : List (List Int)) (base : Nat) (v : Value) (w' : World) : Prop := E = 0 → TabS w' base v C

set_option maxRecDepth 100000 in
set_option maxHeartbeats 2000000 in
theorem r2Permuted_c (w : World) (a a2 : Option Addr) (n cap n2 cap2 : Nat) (M : Mask) (l : List Int) (hn : M.length = n) (hn2 : l.length = n2) (hm : n ≤ maxLen) (hm2 : n2 ≤ maxLen) (hcap : n2 ≤ cap2) (H : RowsAt w a M) (H2 : IntsAt w a2 l) :
    Calls Try.prog 32 #[.slice a n cap, .slice a2 n2 cap2] w fun e w' => ∃ v, e = .returned (.tuple #[v, .int .i64 (permE M l)]) ∧ PermPost (permE M l) (colsF M l) w.heap.size v w' ∧ Below w.heap.size w w' := by
  have HV := hid (r2Valid_c w a n cap M hn hm H)
  cases hok : okM M
  · have hp : permE M l = 1 := by unfold permE; rw [hok]; rfl
    rw [hp]
    rw [hok] at HV
    clear hn hn2 H H2 hok hp
    go_enter Try.func32, Try.ntmps32
    go_wp2_with (go_at_call 64; refine HV.out.mono ?_; rintro e w1 ⟨rfl, rfl⟩)
    go_ret2
    exact ⟨.slice none 0 0, rfl, fun h => absurd h (by decide), Below.refl _ _⟩
  rw [hok] at HV
  obtain ⟨hM, h1, h6, hc1, hc10⟩ := okM_ok hok
  obtain ⟨b, off, ra, rc, rfl, hb, hc⟩ := rows_head H (by omega)
  have HNM := hid (r2named_c w (some ⟨b, off, none⟩) a2 n cap n2 cap2 M l hn hn2 hm hm2 H H2 hok)
  have i0 : (0 : Int) < (n : Int) := by omega
  by_cases hlen : n2 = colsM M
  rotate_left
  · have hp : permE M l = 9 := by unfold permE; rw [if_pos hok, if_neg (by rw [hn2]; exact hlen)]
    rw [hp]
    obtain ⟨W, hW⟩ : ∃ W, W = colsM M := ⟨_, rfl⟩
    rw [← hW] at hc hlen
    have hlb : ((n2 : Int) != (W : Int)) = true := by simp; omega
    clear hn hn2 H H2 hok hp hM h1 h6 hc1 hc10 hb HNM hW
    go_enter Try.func32, Try.ntmps32
    go_wp2_with (go_at_call 64; refine HV.out.mono ?_; rintro e w1 ⟨rfl, rfl⟩; refine Stop.of ?_)
    refine Stop.go ?_
    go_wp2
    go_ret2
    exact ⟨.slice none 0 0, rfl, fun h => absurd h (by decide), Below.refl _ _⟩
  cases hip : inPix (colsM M) l
  · have hp : permE M l = 5 := by unfold permE; rw [if_pos hok, if_pos (by rw [hn2]; exact hlen), hip]; rfl
    rw [hp]
    rw [hip, if_neg (by decide)] at HNM
    obtain ⟨W, hW⟩ : ∃ W, W = colsM M := ⟨_, rfl⟩
    rw [← hW] at hc hlen
    subst hlen
    have hlb : ((n2 : Int) != (n2 : Int)) = false := by simp
    clear hn hn2 H H2 hok hp hM h1 h6 hc1 hc10 hb hW hip
    go_enter Try.func32, Try.ntmps32
    go_wp2_with (go_at_call 64; refine HV.out.mono ?_; rintro e w1 ⟨rfl, rfl⟩; refine Stop.of ?_)
    refine Stop.go ?_
    go_wp2_with (go_at_call 81; refine HNM.out.mono ?_; rintro e w1 ⟨rfl, rfl⟩; refine Stop.of ?_)
    refine Stop.go ?_
    go_wp2
    go_ret2
    exact ⟨.slice none 0 0, rfl, fun h => absurd h (by decide), Below.refl _ _⟩
  · have hp : permE M l = if noDup l = true then 0 else 7 := by unfold permE; rw [if_pos hok, if_pos (by rw [hn2]; exact hlen), if_pos hip]
    rw [hp]
    rw [hip, if_pos rfl] at HNM
    have hS : ∀ r ∈ M, ∀ j ∈ l, 0 ≤ j ∧ j < r.length := fun r hr j hj => by
      have := List.all_eq_true.1 hip j hj
      rw [hM.wid r hr]
      unfold inB at this
      simp only [Bool.and_eq_true, decide_eq_true_eq] at this
      omega
    have HPK := hid (r2picked_c w (some ⟨b, off, none⟩) n cap M hn (by omega) H a2 n2 cap2 l hn2 (by omega) H2 hS)
    have HYES := hid (noDup_yes (l := l))
    have HNO := hid (fun (a b : Nat) => noDup_no (l := l) (a := a) (b := b))
    have HN2 := hid hn2
    have HI := hid H2
    have hn210 : n2 ≤ 10 := by omega
    obtain ⟨W, hW⟩ : ∃ W, W = colsM M := ⟨_, rfl⟩
    rw [← hW] at hc hlen
    subst hlen
    have hlb : ((n2 : Int) != (n2 : Int)) = false := by simp
    obtain ⟨C, hC⟩ : ∃ C, C = colsF M l := ⟨_, rfl⟩
    rw [← hC] at HPK ⊢
    obtain ⟨B, hB⟩ : ∃ B, B = noDup l := ⟨_, rfl⟩
    rw [← hB] at HYES HNO ⊢
    obtain ⟨E, hE⟩ : ∃ E : Int, E = if B = true then 0 else 7 := ⟨_, rfl⟩
    rw [← hE]
    have HE := hid hE
    clear hn hn2 H H2 hok hp hM h1 h6 hc1 hc10 hb hW hip hC hB hE hS
    go_enter Try.func32, Try.ntmps32
    go_wp2_with (go_at_call 64; refine HV.out.mono ?_; rintro e w1 ⟨rfl, rfl⟩; refine Stop.of ?_)
    refine Stop.go ?_
    go_wp2_with (go_at_call 81; refine HNM.out.mono ?_; rintro e w1 ⟨rfl, rfl⟩; refine Stop.of ?_)
    refine Stop.go ?_
    clear HV HNM
    go_wp2
    go_loopw [29] (fun i wr => ∃ k : Nat, k ≤ n2 ∧ i = .int .i64 k ∧ w = wr ∧ Hid (∀ a b (ha : a < l.length) (hb : b < l.length), a < b → b < k → l[a] ≠ l[b])) (fun i _ => n2 - (intOf i).toNat)
    case atStart => exact ⟨0, Nat.zero_le _, rfl, rfl, hid (fun a b _ _ _ h => by omega)⟩
    case round =>
      obtain ⟨k, hk, rfl, hwr, HQ⟩ := hrel
      subst hwr
      by_cases hlt : k < n2
      · have hkl : k < l.length := by rw [HN2.out]; exact hlt
        obtain ⟨b6, o6, rfl, hb6, hc6⟩ := HI.out k hkl
        have hg : l[k]?.getD 0 = l[k] := by rw [List.getElem?_eq_getElem hkl]; rfl
        rw [hg] at hc6
        obtain ⟨p, hp⟩ : ∃ p, p = l[k]'hkl := ⟨_, rfl⟩
        rw [← hp] at hc6
        have HNX := hid (fun (h : ∀ a (ha : a < l.length), a < k → l[a] ≠ p) => show ∀ a b (ha : a < l.length) (hb : b < l.length), a < b → b < k + 1 → l[a] ≠ l[b] from fun a b ha hb hab hbk => by
          by_cases e : b = k
          · subst e; rw [← hp]; exact h a ha hab
          · exact HQ.out a b ha hb hab (by omega))
        have HNK := hid (fun (a : Nat) (ha : a < l.length) (hak : a < k) (e : l[a] = p) => HNO.out a k ha hkl hak (by rw [e, hp]))
        have i1 : (k : Int) < (n2 : Int) := by omega
        have i2 : (0 : Int) ≤ (k : Int) := by omega
        have i3 : k ≤ cap2 := by omega
        have i4 : (k : Int) ≤ (cap2 : Int) := by omega
        clear hg hp hkl HQ
        go_wp2
        go_loopw [38] (fun i wr => ∃ q : Nat, q ≤ k ∧ i = .int .i64 q ∧ w = wr ∧ Hid (∀ a (ha : a < l.length), a < q → l[a] ≠ p)) (fun i _ => k - (intOf i).toNat)
        case atStart => exact ⟨0, Nat.zero_le _, rfl, rfl, hid (fun a _ h => by omega)⟩
        case round =>
          obtain ⟨q, hq, rfl, hwr, HP⟩ := hrel
          subst hwr
          by_cases hql : q < k
          · have hqL : q < l.length := by rw [HN2.out]; omega
            obtain ⟨b7, o7, e7, hb7, hc7⟩ := HI.out q hqL
            cases e7
            have hg : l[q]?.getD 0 = l[q] := by rw [List.getElem?_eq_getElem hqL]; rfl
            rw [hg] at hc7
            have HNQ := hid (HNK.out q hqL hql)
            have HPX := hid (fun (h : l[q] ≠ p) => show ∀ a (ha : a < l.length), a < q + 1 → l[a] ≠ p from fun a ha haq => by
              by_cases e : a = q
              · subst e; exact h
              · exact HP.out a ha (by omega))
            obtain ⟨x, hx⟩ : ∃ x, x = l[q]'hqL := ⟨_, rfl⟩
            rw [← hx] at hc7 HNQ HPX
            have j1 : (q : Int) < (k : Int) := by omega
            clear hg hx hqL HP
            by_cases hxp : x = p
            · obtain rfl : B = false := HNQ.out hxp
              obtain rfl : E = 7 := HE.out
              have hpb : (p == x) = true := by simp [hxp]
              go_wp2
              go_ret2
              exact ⟨.slice none 0 0, rfl, fun h => absurd h (by decide), Below.refl _ _⟩
            · have hpb : (p == x) = false := by simp; exact fun e => hxp e.symm
              have HX := hid (HPX.out hxp)
              go_wp2
              exact ⟨⟨q + 1, by omega, by go_num, trivial, HX⟩, by simp [intOf]; omega⟩
          · obtain rfl : q = k := by omega
            have HX := hid (HNX.out fun a ha h => HP.out a ha h)
            go_wp2
            exact ⟨⟨q + 1, by omega, by go_num, trivial, HX⟩, by simp [intOf]; omega⟩
      · obtain rfl : k = n2 := by omega
        obtain rfl : B = true := HYES.out fun a b ha hb hab => HQ.out a b ha hb hab (by have := HN2.out; omega)
        obtain rfl : E = 0 := HE.out
        have hni : ¬ (k : Int) < (k : Int) := by omega
        go_wp2_with (go_at_call 82; refine HPK.out.mono ?_; rintro e w3 ⟨v, rfl, hv, hb3⟩; refine Stop.of ?_)
        refine Stop.go ?_
        go_wp2
        go_ret2
        exact ⟨v, rfl, fun _ => hv, hb3⟩
end Go.Proofs.Ytfipebkhomppmaa

namespace Go.Proofs.Ytfipebkhomppmaa
set_option linter.unusedVariables false

def ordS (l : List Int) (k : Nat) : Nat := (l[k]?.getD 0).toNat
def ordT (l : List Int) (j : Nat) : Nat := l.idxOf (j : Int)

theorem permE_ok {M : Mask} {l : List Int} (h : permE M l = 0) : okM M = true ∧ l.length = colsM M ∧ inPix (colsM M) l = true ∧ l.Nodup := by
  unfold permE at h
  split at h
  · rename_i h1
    split at h
    · rename_i h2
      split at h
      · rename_i h3
        split at h
        · rename_i h4
          exact ⟨h1, h2, h3, of_decide_eq_true h4⟩
        · omega
      · omega
    · omega
  · omega

theorem ord_perm {l : List Int} {W : Nat} (hl : l.length = W) (hp : inPix W l = true) (hd : l.Nodup) : Perm2 W (ordS l) (ordT l) ∧ ∀ k, k < W → ((ordS l k : Nat) : Int) = l[k]?.getD 0 := by
  have hin : ∀ x ∈ l, 0 ≤ x ∧ x < (W : Int) := fun x hx => by
    have := List.all_eq_true.1 hp x hx
    unfold inB at this
    simp only [Bool.and_eq_true, decide_eq_true_eq] at this
    omega
  have hget : ∀ k (hk : k < W), l[k]?.getD 0 = l[k]'(by omega) := fun k hk => by rw [List.getElem?_eq_getElem (by omega)]; rfl
  have hS : ∀ k, k < W → ((ordS l k : Nat) : Int) = l[k]?.getD 0 := fun k hk => by
    unfold ordS
    have := hin _ (List.getElem_mem (show k < l.length by omega))
    rw [hget k hk]; omega
  have hmem : ∀ j, j < W → (j : Int) ∈ l := fun j hj => by
    refine Classical.byContradiction fun hno => ?_
    have h1 : ((j : Int) :: l).Nodup := List.nodup_cons.2 ⟨hno, hd⟩
    have h2 := h1.length_le_of_subset (l₂ := (List.range W).map (fun j : Nat => (j : Int))) fun x hx => by
      rw [List.mem_map]
      rcases List.mem_cons.1 hx with rfl | hx
      · exact ⟨j, List.mem_range.2 hj, rfl⟩
      · have := hin x hx
        exact ⟨x.toNat, List.mem_range.2 (by omega), by omega⟩
    simp at h2
    omega
  have hT : ∀ j, j < W → ordT l j < l.length ∧ l[ordT l j]?.getD 0 = (j : Int) := fun j hj => by
    have h1 : ordT l j < l.length := List.idxOf_lt_length_of_mem (hmem j hj)
    refine ⟨h1, ?_⟩
    rw [List.getElem?_eq_getElem h1]
    exact List.getElem_idxOf h1
  refine ⟨⟨fun i hi => ?_, fun i hi => ?_, fun i hi => ?_, fun i hi => ?_⟩, hS⟩
  · have := hS i hi
    have h2 := hin _ (List.getElem_mem (show i < l.length by omega))
    rw [hget i hi] at this; omega
  · have := (hT i hi).1; omega
  · have h1 := (hT i hi).1
    have h2 := hS (ordT l i) (by omega)
    rw [(hT i hi).2] at h2; omega
  · have hs : ordS l i < W := by
      have := hS i hi
      have h2 := hin _ (List.getElem_mem (show i < l.length by omega))
      rw [hget i hi] at this; omega
    obtain ⟨h1, h2⟩ := hT _ hs
    rw [hS i hi, hget i hi, List.getElem?_eq_getElem h1, Option.getD_some] at h2
    exact (List.getElem_inj hd).1 h2

theorem cols_perm {M : Mask} {l : List Int} (h : permE M l = 0) : okM (colsF M l) = true ∧ colsM (colsF M l) = colsM M ∧ Perm2 (colsM M) (ordS l) (ordT l) ∧ Moved M (colsF M l) (colsM M) (ordS l) := by
  obtain ⟨hok, hl, hp, hd⟩ := permE_ok h
  obtain ⟨hM, h1, h6, hc1, hc10⟩ := okM_ok hok
  obtain ⟨hperm, hS⟩ := ord_perm hl hp hd
  have hcm : colsM (colsF M l) = colsM M := by
    unfold colsM
    have : (colsF M l)[0]? = some (l.map (fun j => vec (M[0]'(by omega)) j.toNat)) := by
      unfold colsF
      rw [List.getElem?_map, List.getElem?_eq_getElem (by omega)]; rfl
    rw [this]
    simp
    exact hl
  refine ⟨?_, hcm, hperm, colsF_len M l, fun q hq c hc => ?_⟩
  · unfold okM
    rw [hcm, colsF_len]
    rw [Bool.and_eq_true]
    refine ⟨by unfold inB; simp; omega, List.all_eq_true.2 fun r hr => ?_⟩
    obtain ⟨r', hr', rfl⟩ := List.mem_map.1 hr
    rw [Bool.and_eq_true, decide_eq_true_eq, List.length_map]
    refine ⟨hl, ?_⟩
    unfold okMRow
    rw [Bool.and_eq_true, List.length_map, hl]
    refine ⟨by unfold inB; simp; omega, List.all_eq_true.2 fun x hx => ?_⟩
    obtain ⟨j, _, rfl⟩ := List.mem_map.1 hx
    have := hM.one r' hr' j.toNat
    unfold inB; simp; omega
  · rw [colsF_rowv]
    unfold pickV ordS
    rw [List.getElem?_eq_getElem (by omega)]
    rfl

theorem move_of {W : Nat} {s t : Nat → Nat} (h : Perm2 W s t) {c d : List Int} (hd : d.length = W) (he : ∀ k, k < W → vec d (s k) = vec c k) : d = moveL W t c := by
  refine vec_ext (by rw [hd, moveL_len]) fun j => ?_
  rcases Nat.lt_or_ge j W with hj | hj
  · rw [moveL_vec hj]
    have := he (t j) (h.t_lt j hj)
    rwa [h.st j hj] at this
  · rw [vec_ge (by omega), vec_ge (by rw [moveL_len]; exact hj)]
theorem neg_move_of {W : Nat} {s t : Nat → Nat} (h : Perm2 W s t) {c d : List Int} (hd : d.length = W) (he : ∀ k, k < W → vec d (s k) = - vec c k) : d = negF (moveL W t c) := by
  refine vec_ext (by unfold negF; rw [hd, List.length_map, moveL_len]) fun j => ?_
  rw [negF_vec]
  rcases Nat.lt_or_ge j W with hj | hj
  · rw [moveL_vec hj]
    have := he (t j) (h.t_lt j hj)
    rwa [h.st j hj] at this
  · rw [vec_ge (by omega), vec_ge (by rw [moveL_len]; exact hj)]; rfl

theorem perm_law {M : Mask} {l : List Int} (h : permE M l = 0) :
    (circP (colsF M l) (colsM M)).length = (circP M (colsM M)).length ∧ (∀ c, c ∈ circP (colsF M l) (colsM M) → moveL (colsM M) (ordT l) c ∈ circP M (colsM M) ∨ negF (moveL (colsM M) (ordT l) c) ∈ circP M (colsM M)) ∧
    (knownL (colsF M l)).length = (knownL M).length := by
  obtain ⟨hok, hl, hp, hd⟩ := permE_ok h
  obtain ⟨hM, h1, h6, hc1, hc10⟩ := okM_ok hok
  obtain ⟨hokP, hcm, hperm, hmv⟩ := cols_perm h
  obtain ⟨hP, _⟩ := okM_ok hokP
  rw [hcm] at hP
  refine ⟨move_same hM hP hperm hmv, fun c hc => move_mem hM hP hperm hmv hc, ?_⟩
  unfold knownL
  rw [if_pos hok, if_pos hokP, hcm]
  unfold knTo
  rw [List.length_map, List.length_map, ← List.countP_eq_length_filter, ← List.countP_eq_length_filter]
  refine (List.countP_congr fun k hk => ?_).trans ((List.countP_map (p := knB M) (f := ordS l)).symm.trans (hperm.perm.countP_eq _))
  have hk := List.mem_range.1 hk
  have hs := hperm.s_lt k hk
  simp only [Function.comp]
  rw [knB_iff hokP (by rw [hcm]; exact hk), knB_iff hok hs, hcm, ← hP.known_ref hk, ← hM.known_ref hs]
  exact move_known hM hP hperm hmv hk
end Go.Proofs.Ytfipebkhomppmaa

namespace Go.Proofs.Ytfipebkhomppmaa
open Go.ChangeShapes Go.WideShapes Go.ChangeAt Go.RowKit Go.Deep
set_option linter.unusedVariables false

def Fits64 (n : Int) : Prop := -9223372036854775808 ≤ n ∧ n ≤ 9223372036854775807
theorem fits64 {n : Int} (h : (Lit.int .i64 n).wf = true) : Fits64 n := by
  simpa [Fits64, Lit.wf, IntKind.min, IntKind.max, IntKind.signed, IntKind.bits] using h

theorem cell_plain {w : World} {a : Addr} {v : Value} (h : w.cell? a = some v) : a = ⟨a.block, a.off, none⟩ ∧ a.block < w.heap.size := by
  unfold World.cell? at h
  split at h
  · rename_i c _ _ hb
    obtain ⟨b, o, s⟩ := a
    cases s with
    | none => exact ⟨rfl, (Array.getElem?_eq_some_iff.1 hb).1⟩
    | some s => simp at h
  · simp at h

theorem add_plain (b o : Nat) (i : Nat) : (Addr.mk b o none).add i = ⟨b, o + i, none⟩ := by
  unfold Addr.add
  split
  · rename_i h; rw [h]; rfl
  · rfl

section
variable {H : Type} {enc : TypeId × Value → H} {P : Program} {w : World} {base : Nat} {held : Bool}

theorem ints_opened {e q : TypeId} {fuel : Nat} {a : Option Addr} {n cap : Nat} {x : DataW H × List MemPlace} (he : P.underlying e = some (.slice q)) (hq : P.underlying q = some (.int .i64)) (cq : P.cellsOf q = 1)
    (h : DataW.trod enc P w base (fun _ => true) held fuel e [.slice a n cap] = some x) : ∃ l : List Int, l.length = n ∧ n ≤ maxLen ∧ IntsAt w a l ∧ ∀ y ∈ l, Fits64 y := by
  rcases open_ints he hq cq h with ⟨hcs, _⟩ | ⟨x, l, c, zs, hcs, _, hl, hm, hz, _, hcell, hwz⟩
  · simp at hcs
    obtain ⟨rfl, rfl, rfl⟩ := hcs
    exact ⟨[], rfl, by decide, fun j hj => by simp at hj, fun y hy => by simp at hy⟩
  · simp at hcs
    obtain ⟨rfl, rfl, rfl⟩ := hcs
    simp only [if_true] at hz
    refine ⟨zs.take n, by rw [List.length_take]; omega, by omega, fun j hj => ?_, fun y hy => fits64 (hwz y (List.mem_of_mem_take hy))⟩
    rw [List.length_take] at hj
    have h0 := cell_plain (hcell 0 (by omega))
    simp only [Addr.add, if_true] at h0
    obtain ⟨b, o, s⟩ := x
    have hs : s = none := by have := h0.1; simp at this; exact this
    subst hs
    refine ⟨b, o, rfl, h0.2, ?_⟩
    have := hcell j (by omega)
    rw [add_plain] at this
    rw [this]
    simp [List.getElem?_take, show j < n by omega, List.getD]

theorem arg_ints {r : Reach} {b0 : Nat} {e q : TypeId} {v : Value} {d : DataW H} {p : List MemPlace} (he : P.underlying e = some (.slice q)) (hq : P.underlying q = some (.int .i64)) (cq : P.cellsOf q = 1)
    (hv : Value.okWide P w r b0 e v) (h : DataW.Trod enc P w base (fun _ => true) held e v d p) : ∃ a n cap, ∃ l : List Int, v = .slice a n cap ∧ l.length = n ∧ n ≤ maxLen ∧ IntsAt w a l ∧ ∀ y ∈ l, Fits64 y := by
  obtain ⟨a, n, cap, rfl⟩ := okWide_slice he hv
  obtain ⟨fuel, hf⟩ := h
  obtain ⟨l, h1, h2, h3, h4⟩ := ints_opened he hq cq (by simpa [Value.cells] using hf)
  exact ⟨a, n, cap, l, rfl, h1, h2, h3, h4⟩

theorem arg_rows {r : Reach} {b0 : Nat} {t e q : TypeId} {v : Value} {d : DataW H} {p : List MemPlace} (ht : P.underlying t = some (.slice e)) (ce : P.cellsOf e = 1) (he : P.underlying e = some (.slice q)) (hq : P.underlying q = some (.int .i64)) (cq : P.cellsOf q = 1)
    (hv : Value.okWide P w r b0 t v) (h : DataW.Trod enc P w base (fun _ => true) held t v d p) : ∃ a n cap, ∃ l : List (List Int), v = .slice a n cap ∧ l.length = n ∧ n ≤ maxLen ∧ RowsAt w a l ∧ ∀ y ∈ l, ∀ z ∈ y, Fits64 z := by
  obtain ⟨a, n, cap, rfl⟩ := okWide_slice ht hv
  obtain ⟨fuel, hf⟩ := h
  rcases open_slice1 ht ce (by simpa [Value.cells] using hf) with ⟨hcs, _⟩ | ⟨x, len, c', m, nn, V, D, Pl, hcs, _, hl, hm, hmm, _, hx⟩
  · simp at hcs
    obtain ⟨rfl, rfl, rfl⟩ := hcs
    exact ⟨none, 0, 0, [], rfl, rfl, by decide, fun j hj => by simp at hj, fun y hy => by simp at hy⟩
  simp at hcs
  obtain ⟨rfl, rfl, rfl⟩ := hcs
  simp only [if_true] at hmm
  have each : ∀ i, i < n → ∃ y : List Int × Option Addr × Nat × Nat, w.cell? (x.add i) = some (.slice y.2.1 y.2.2.1 y.2.2.2) ∧ y.1.length = y.2.2.1 ∧ y.2.2.1 ≤ maxLen ∧ IntsAt w y.2.1 y.1 ∧ (∀ z ∈ y.1, Fits64 z) := by
    intro i hi
    obtain ⟨hc, t0⟩ := hx i (by omega)
    have hsl : ∃ ra rn rc, V i = .slice ra rn rc := by
      rcases open_ints he hq cq t0 with ⟨hcs, _⟩ | ⟨x, l, c, zs, hcs, _⟩
      · simp at hcs; exact ⟨_, _, _, hcs⟩
      · simp at hcs; exact ⟨_, _, _, hcs⟩
    obtain ⟨ra, rn, rc, hV⟩ := hsl
    rw [hV] at hc t0
    obtain ⟨l, q1, q2, q3, q4⟩ := ints_opened he hq cq t0
    exact ⟨(l, ra, rn, rc), hc, q1, q2, q3, q4⟩
  haveI : Inhabited (List Int × Option Addr × Nat × Nat) := ⟨([], none, 0, 0)⟩
  obtain ⟨y, hy⟩ := choose_lt each
  refine ⟨some x, n, cap, (List.range n).map fun i => (y i).1, rfl, by simp, by omega, fun j hj => ?_, fun z hz => ?_⟩
  · have hjn : j < n := by simpa using hj
    have hp := cell_plain (hy 0 (by omega)).1
    simp only [Addr.add, if_true] at hp
    obtain ⟨b, o, s⟩ := x
    have hs' : s = none := by have := hp.1; simp at this; exact this
    subst hs'
    obtain ⟨r0, r3, r4, r5, r6⟩ := hy j hjn
    rw [add_plain] at r0
    refine ⟨b, o, (y j).2.1, (y j).2.2.1, (y j).2.2.2, rfl, hp.2, r0, ?_, r4, ?_⟩ <;> simp only [List.getElem_map, List.getElem_range] <;> assumption
  · obtain ⟨i, hi, rfl⟩ := List.mem_map.1 hz
    exact (hy i (List.mem_range.1 hi)).2.2.2.2
end
end Go.Proofs.Ytfipebkhomppmaa

namespace Go.Proofs.Ytfipebkhomppmaa
open Go.RowKit
set_option linter.unusedVariables false

def amongB (C : List (List Int)) (h m : List Int) (q : Nat) : Bool := (C.take q).any (fun d => decide (d = h) || decide (d = m))
theorem among_succ {C : List (List Int)} {h m : List Int} {q : Nat} (hq : q < C.length) : amongB C h m (q + 1) = (amongB C h m q || (decide (C[q] = h) || decide (C[q] = m))) := by
  unfold amongB
  rw [List.take_succ_eq_append_getElem hq, List.any_append]
  simp
theorem among_all {C : List (List Int)} {h m : List Int} (hm : h ∈ C ∨ m ∈ C) : amongB C h m C.length = true := by
  unfold amongB
  rw [List.take_length, List.any_eq_true]
  rcases hm with hm | hm
  · exact ⟨h, hm, by simp⟩
  · exact ⟨m, hm, by simp⟩

theorem sp_madeP (w : World) (k : Nat) : SpRow (w.alloc (.cells (madeCells #[.int .i64 0] k) 3)) w.heap.size (List.replicate k 0) := by
  have e : madeCells #[Value.int .i64 0] k = ((List.replicate k (0 : Int)).map (Value.int .i64)).toArray := by
    apply Array.toList_inj.1
    rw [toList_madeCells_one]; simp
  exact ⟨[], by rw [World.alloc_heap_new, e, List.append_nil]⟩
def Filled (wr : World) (g1 g2 W : Nat) (s : Nat → Nat) (c : List Int) (t : Nat) : Prop :=
  ∃ h m, SpRow wr g1 h ∧ SpRow wr g2 m ∧ h.length = W ∧ m.length = W ∧ ∀ k, k < t → vec h (s k) = vec c k ∧ vec m (s k) = - vec c k

set_option maxRecDepth 100000 in
set_option maxHeartbeats 4000000 in
theorem linPermuted_c (w : World) (a : Option Addr) (n cap : Nat) (M : Mask) (hn : M.length = n) (hm : n ≤ maxLen) (H : RowsAt w a M) (_ : ∀ y ∈ M, ∀ z ∈ y, Fits64 z)
    (a2 : Option Addr) (n2 cap2 : Nat) (l : List Int) (hn2 : l.length = n2) (hm2 : n2 ≤ maxLen) (H2 : IntsAt w a2 l) (_ : ∀ z ∈ l, Fits64 z) (hcap : n2 ≤ cap2) :
    Calls Try.prog 5 #[.slice a n cap, .slice a2 n2 cap2] w fun e w' => e = .returned (.bool true) ∧ Below w.heap.size w w' := by
  have HAW := hid (fun X => awake_c X)
  have HLI := hid (light_c w a n cap M hn hm H)
  have HLG := hid (long_c (w.alloc (.cells #[.slice a2 n2 cap2] 31)) (some ⟨w.heap.size, 0, none⟩) 1 1 [l] rfl (by decide) (rows_one hn2 hm2 H2))
  have HB1 := hid (show Below w.heap.size w (w.alloc (.cells #[.slice a2 n2 cap2] 31)) from (Below.refl _ _).alloc (Nat.le_refl _) _)
  have HPM := hid (fun (X : World) (hX : Below w.heap.size w X) => r2Permuted_c X a a2 n cap n2 cap2 M l hn hn2 hm hm2 hcap (H.below hX) (H2.below hX))
  have HC1 := hid (fun (X : World) (hX : Below w.heap.size w X) => circuits_c X a n cap M hn hm (H.below hX))
  have HK1 := hid (fun (X : World) (hX : Below w.heap.size w X) => lknown_c X a n cap M hn hm (H.below hX))
  have HI := hid (fun (X : World) (hX : Below w.heap.size w X) => H2.below hX)
  obtain ⟨B0, hB0⟩ : ∃ B, B = longB [l] := ⟨_, rfl⟩
  rw [← hB0] at HLG
  clear hB0
  by_cases hE : permE M l = 0
  rotate_left
  · obtain ⟨E, hEE⟩ : ∃ E, E = permE M l := ⟨_, rfl⟩
    rw [← hEE] at HPM hE
    have hpb : (E != 0) = true := by simpa using hE
    clear hn hn2 H H2 HC1 HK1 HI hEE
    go_enter Try.func5, Try.ntmps5
    go_wp2_with (go_at_call 13; refine HLI.out.mono ?_; rintro e w1 ⟨⟨sb, rfl⟩, rfl⟩; refine Stop.of ?_)
    refine Stop.go ?_
    cases sb
    · go_wp2_with (go_at_call 14; refine (HAW.out _).mono ?_; rintro e w2 ⟨rfl, hb2⟩)
      go_ret
      exact ⟨rfl, hb2⟩
    · go_wp2_with (go_at_call 24; refine HLG.out.mono ?_; rintro e w2 ⟨rfl, hw2⟩; refine Stop.of ?_)
      refine Stop.go ?_
      rw [hw2] at HB1
      clear hw2 HLG HLI
      cases B0
      · go_wp2_with (go_at_call 32; refine (HPM.out _ HB1.out).mono ?_; rintro e w3 ⟨v, rfl, _, hb3⟩; refine Stop.of ?_)
        refine Stop.go ?_
        have HB3 := hid (chain HB1.out hb3)
        go_wp2_with (go_at_call 14; refine (HAW.out _).mono ?_; rintro e w4 ⟨rfl, hb4⟩)
        go_ret
        exact ⟨rfl, chain HB3.out hb4⟩
      · go_wp2_with (go_at_call 14; refine (HAW.out _).mono ?_; rintro e w3 ⟨rfl, hb3⟩)
        go_ret
        exact ⟨rfl, chain HB1.out hb3⟩
  obtain ⟨hok, hll, hip, hnd⟩ := permE_ok hE
  obtain ⟨hM, h1, h6, hc1, hc10⟩ := okM_ok hok
  obtain ⟨hokP, hcm, hperm, hmv⟩ := cols_perm hE
  obtain ⟨hP', _⟩ := okM_ok hokP
  rw [hcm] at hP'
  obtain ⟨p1, p2, p3⟩ := perm_law hE
  obtain ⟨_, hS⟩ := ord_perm hll hip hnd
  have hPl : (colsF M l).length = n := by rw [colsF_len, hn]
  have hPw : ∀ r ∈ colsF M l, r.length ≤ maxLen := fun r hr => by rw [colsF_wid M l r hr, hn2]; exact hm2
  rw [hok] at HC1
  rw [hE] at HPM
  have HE1 := hid (show okE M = 0 from by unfold okE; rw [if_pos hok])
  rw [HE1.out] at HK1
  have HE2 := hid (show okE (colsF M l) = 0 from by unfold okE; rw [if_pos hokP])
  have HC2 := hid (fun (X : World) (pa : Option Addr) (pc : Nat) (hR : RowsAt X pa (colsF M l)) => circuits_c X pa n pc (colsF M l) hPl hm hR)
  rw [hokP, hcm] at HC2
  have HK2 := hid (fun (X : World) (pa : Option Addr) (pc : Nat) (hR : RowsAt X pa (colsF M l)) => lknown_c X pa n pc (colsF M l) hPl hm hR)
  rw [HE2.out, p3] at HK2
  have HPR := hid (fun (X : World) (base : Nat) (pa : Option Addr) (pc : Nat) (hT : TabS X base (.slice pa n pc) (colsF M l)) => hT.rows hPl hPw)
  have hTS : ∀ (X : World) (base : Nat) (v : Value), TabS X base v (colsF M l) → ∃ pa pc, v = .slice pa n pc := fun X base v hT => by
    obtain ⟨_, ho1, _⟩ := hT
    obtain ⟨a', c', e⟩ := ownsRow_slice ho1
    exact ⟨a', c', by rw [e, hPl]⟩
  have HTS := hid hTS
  have hcl : (circP M (colsM M)).length ≤ maxLen := by
    rw [← circK_all hM (Nat.le_refl _)]
    have h1 := circK_le M (colsM M) (allS (colsM M)).length
    have h2 := allS_le hc10
    unfold maxLen; omega
  have HCW := hid (show ∀ c ∈ circP (colsF M l) (colsM M), c.length = colsM M ∧ ∀ j, -518400 ≤ vec c j ∧ vec c j ≤ 518400 from fun c hc => by
    obtain ⟨k, S, _, hS', hcc⟩ := circP_mem.1 hc
    have hne : S ≠ [] := fun e => by have := comb_len _ _ _ S hS'; rw [e] at this; simp at this
    obtain ⟨f1, _, f3, _, _⟩ := circ_facts hP' (comb_ok hS') hne hcc
    exact ⟨f1, fun j => by have := f3 j; omega⟩)
  obtain ⟨C, hC⟩ : ∃ C, C = circP M (colsM M) := ⟨_, rfl⟩
  obtain ⟨D, hD⟩ : ∃ D, D = circP (colsF M l) (colsM M) := ⟨_, rfl⟩
  rw [← hC] at HC1 hcl p1 p2
  rw [← hD] at HC2 HCW p1 p2
  obtain ⟨W, hW⟩ : ∃ W, W = colsM M := ⟨_, rfl⟩
  rw [← hW] at HCW hll hperm hS p2 hc1 hc10
  obtain ⟨N, hN⟩ : ∃ N, N = C.length := ⟨_, rfl⟩
  rw [← hN] at hcl p1
  obtain ⟨K, hK⟩ : ∃ K, K = (knownL M).length := ⟨_, rfl⟩
  rw [← hK] at HK1 HK2
  obtain ⟨P, hPP⟩ : ∃ P, P = colsF M l := ⟨_, rfl⟩
  rw [← hPP] at HC2 HK2 HPR HTS HPM
  have HNC := hid hN
  have HND := hid p1
  have HOW := hid hll
  have HOS := hid hS
  have HPE := hid hperm
  have HMEM := hid p2
  have hW10 : W ≤ 10 := hc10
  obtain rfl : n2 = W := by omega
  have hN1 : N ≤ 9223372036854775807 := by unfold maxLen at hcl; omega
  have HMK := hid (show ∀ w, (Instr.makeSlice 31 (.int .i64 (n2 : Int)) (.int .i64 (n2 : Int))).run Try.prog w = .ok (.slice (some ⟨w.heap.size, 0, none⟩) n2 n2) (w.alloc (.cells (madeCells #[.int .i64 0] n2) 3)) from fun w => run_make_row' 31 3 (.int .i64 0) 8 Try.underlying31 li_int rfl .i64 .i64 n2 (by omega) (by omega) w)
  have hNN : ((N : Int) != (N : Int)) = false := by simp
  have hKK : ((K : Int) == (K : Int)) = true := by simp
  clear hn hn2 H H2 hok hip hnd hM h1 h6 hc1 hc10 hokP hcm hperm hmv hP' p1 p2 p3 hS hPl hPw hTS hC hD hW hN hK hPP hll hE HE1 HE2
  go_enter Try.func5, Try.ntmps5
  go_wp2_with (go_at_call 13; refine HLI.out.mono ?_; rintro e w1 ⟨⟨sb, rfl⟩, rfl⟩; refine Stop.of ?_)
  refine Stop.go ?_
  cases sb
  · go_wp2_with (go_at_call 14; refine (HAW.out _).mono ?_; rintro e w2 ⟨rfl, hb2⟩)
    go_ret
    exact ⟨rfl, hb2⟩
  go_wp2_with (go_at_call 24; refine HLG.out.mono ?_; rintro e w2 ⟨rfl, hw2⟩; refine Stop.of ?_)
  refine Stop.go ?_
  rw [hw2] at HB1
  clear hw2 HLG HLI
  cases B0
  rotate_left
  · go_wp2_with (go_at_call 14; refine (HAW.out _).mono ?_; rintro e w3 ⟨rfl, hb3⟩)
    go_ret
    exact ⟨rfl, chain HB1.out hb3⟩
  go_wp2_with (go_at_call 32; refine (HPM.out _ HB1.out).mono ?_; rintro e w3 ⟨v, rfl, hpp, hb3⟩; refine Stop.of ?_)
  refine Stop.go ?_
  have hT := hpp rfl
  obtain ⟨pa, pc, rfl⟩ := HTS.out _ _ _ hT
  have HP3 := hid (HPR.out _ _ _ _ hT)
  have HB3 := hid (chain HB1.out hb3)
  clear hpp hT hb3 HPM HB1 HPR HTS
  go_wp2_with (go_at_call 15; refine (HC1.out _ HB3.out).mono ?_; rintro e w4 ⟨v4, base4, hbs4, hb4, ⟨hx, _⟩ | ⟨_, rfl, hR4⟩⟩; cases hx; refine Stop.of ?_)
  refine Stop.go ?_
  have HB4 := hid (chain HB3.out hb4)
  obtain ⟨va, vc, rfl, _, hRA, _⟩ := hR4.reads
  rw [← HNC.out]
  have HRA := hid hRA
  have HP4 := hid (HP3.out.below hb4)
  clear hb4 hbs4 hR4 hRA HC1 HB3 HP3
  go_wp2_with (go_at_call 15; refine (HC2.out _ pa pc HP4.out).mono ?_; rintro e w5 ⟨v5, base5, hbs5, hb5, ⟨hx, _⟩ | ⟨_, rfl, hR5⟩⟩; cases hx; refine Stop.of ?_)
  refine Stop.go ?_
  have HB5 := hid (chain HB4.out hb5)
  obtain ⟨ua, uc, rfl, _, hRD, _⟩ := hR5.reads
  rw [HND.out]
  have HRD := hid hRD
  have HRC := hid (HRA.out.below hb5)
  have HP5 := hid (HP4.out.below hb5)
  clear hb5 hbs5 hR5 hRD HC2 HB4 HP4 HRA
  go_wp2
  go_loopw [67] (fun i wr => ∃ k : Nat, k ≤ N ∧ i = .int .i64 k ∧ Below w5.heap.size w5 wr) (fun i _ => N - (intOf i).toNat)
  case atStart => exact ⟨0, Nat.zero_le _, rfl, Below.refl _ _⟩
  case round =>
    obtain ⟨k, hk, rfl, hbk⟩ := hrel
    by_cases hlt : k < N
    · have hkD : k < D.length := by rw [HND.out]; exact hlt
      obtain ⟨b6, o6, ra6, rn6, rc6, e6, hb6, hc6, hrn6, hrm6, hri6⟩ := (HRD.out.below hbk) k hkD
      cases e6
      obtain ⟨hcw, hcb⟩ := HCW.out D[k] (List.getElem_mem hkD)
      obtain rfl : rn6 = n2 := by omega
      have hme := HMEM.out D[k] (List.getElem_mem hkD)
      obtain ⟨c, hc⟩ : ∃ c, c = D[k] := ⟨_, rfl⟩
      rw [← hc] at hcw hcb hme hri6 hrn6
      have HCL := hid hcw
      have HCB := hid hcb
      have HME := hid hme
      have HCI := hid (fun (X : World) (hX : Below wr.heap.size wr X) => hri6.below hX)
      have HBK := hid hbk
      have hmk := HMK.out
      obtain ⟨wa, hwa⟩ : ∃ wa, wa = (wr.alloc (.cells (madeCells #[.int .i64 0] rn6) 3)).alloc (.cells (madeCells #[.int .i64 0] rn6) 3) := ⟨_, rfl⟩
      obtain ⟨g1, hg1⟩ : ∃ g, g = wr.heap.size := ⟨_, rfl⟩
      have hs1 : SpRow wa g1 (List.replicate rn6 0) := by
        rw [hwa, hg1]
        exact (sp_madeP wr rn6).keep (Below.heap_alloc _ _ _ (by simp))
      have hs2 : SpRow wa (g1 + 1) (List.replicate rn6 0) := by
        have := sp_madeP (wr.alloc (.cells (madeCells #[.int .i64 0] rn6) 3)) rn6
        rw [hwa, hg1]
        simpa using this
      have HFA := hid (show Filled wa g1 (g1 + 1) rn6 (ordS l) c 0 from ⟨_, _, hs1, hs2, by simp, by simp, fun k hk => by omega⟩)
      have hba : Below wr.heap.size wr wa := by rw [hwa]; exact ((Below.refl _ _).alloc (Nat.le_refl _) _).alloc (by simp) _
      have HBA := hid hba
      have i1 : (k : Int) < (N : Int) := by omega
      have HG1 := hid hg1
      clear hg1 hs1 hs2 hba hcw hcb hme hri6 hrn6 hc hkD hbk
      obtain ⟨wo, hwo⟩ : ∃ wo, wo = wr := ⟨_, rfl⟩
      subst hwo
      go_wp2_with fail
      rw [← hwa, ← HG1.out]
      clear hwa hmk
      go_loopw [79] (fun i wr => ∃ t : Nat, t ≤ rn6 ∧ i = .int .i64 t ∧ Filled wr g1 (g1 + 1) rn6 (ordS l) c t ∧ Below wo.heap.size wo wr) (fun i _ => rn6 - (intOf i).toNat)
      case atStart => exact ⟨0, Nat.zero_le _, rfl, HFA.out, HBA.out⟩
      case round =>
        obtain ⟨t, ht, rfl, hfl, hbt⟩ := hrel
        by_cases htl : t < rn6
        · have hbw : Below w.heap.size w wr := chain HB5.out (HBK.out.trans (hbt.mono HBK.out.size))
          obtain ⟨b7, o7, rfl, hb7, hc7⟩ := (HI.out wr hbw) t (by rw [HOW.out]; exact htl)
          rw [← HOS.out t htl] at hc7
          have hpl := HPE.out.s_lt t htl
          have hinj : ∀ k, k < t → ordS l k ≠ ordS l t := fun k hk e => by
            have h1 := HPE.out.ts k (by omega)
            have h2 := HPE.out.ts t htl
            rw [e] at h1; omega
          obtain ⟨b8, o8, rfl, hb8, hc8'⟩ := (HCI.out wo (Below.refl _ _)) t (by rw [HCL.out]; exact htl)
          have hc8 := (hbt.cell (p := ⟨b8, o8 + t, none⟩) hb8).trans hc8'
          have hv8 : c[t]?.getD 0 = vec c t := rfl
          rw [hv8] at hc8
          have hcb := HCB.out t
          obtain ⟨h, m, f1, f2, fl1, fl2, f3⟩ := hfl
          obtain ⟨p, hp⟩ : ∃ p, p = ordS l t := ⟨_, rfl⟩
          rw [← hp] at hc7 hpl hinj
          obtain ⟨x, hx⟩ : ∃ x, x = vec c t := ⟨_, rfl⟩
          rw [← hx] at hc8 hcb
          have hne : g1 ≠ g1 + 1 := by omega
          have s1 := f1.set p (by omega) x
          have s2 : SpRow (wr.setCell ⟨g1, p, none⟩ (.int .i64 x)) (g1 + 1) m := f2.keep (Below.heap_setCell _ _ _ _ (by show g1 + 1 ≠ g1; omega))
          have s3 := s2.set p (by omega) (-x)
          have s4 : SpRow ((wr.setCell ⟨g1, p, none⟩ (.int .i64 x)).setCell ⟨g1 + 1, p, none⟩ (.int .i64 (-x))) g1 (h.set p x) := s1.keep (Below.heap_setCell _ _ _ _ (by show g1 ≠ g1 + 1; omega))
          have HFN := hid (show Filled ((wr.setCell ⟨g1, p, none⟩ (.int .i64 x)).setCell ⟨g1 + 1, p, none⟩ (.int .i64 (-x))) g1 (g1 + 1) rn6 (ordS l) c (t + 1) from
            ⟨_, _, s4, s3, by simpa using fl1, by simpa using fl2, fun k hk => by
              rw [vec_set (by omega), vec_set (by omega)]
              by_cases e : k = t
              · subst e; rw [← hp, if_pos rfl, if_pos rfl, hx]; exact ⟨rfl, rfl⟩
              · rw [if_neg (hinj k (by omega)), if_neg (hinj k (by omega))]; exact f3 k (by omega)⟩)
          have hgs : wo.heap.size ≤ g1 := by rw [HG1.out]; exact Nat.le_refl _
          have HBE := hid (show Below wo.heap.size wo ((wr.setCell ⟨g1, p, none⟩ (.int .i64 x)).setCell ⟨g1 + 1, p, none⟩ (.int .i64 (-x))) from below_set (below_set hbt hgs _ _) (Nat.le_succ_of_le hgs) _ _)
          have c1 : wr.cell? ⟨g1, p, none⟩ = some (.int .i64 (h[p]?.getD 0)) := f1.cell (by omega)
          have c2 : wr.cell? ⟨g1 + 1, p, none⟩ = some (.int .i64 (m[p]?.getD 0)) := f2.cell (by omega)
          obtain ⟨y1, k1⟩ : ∃ y, wr.cell? ⟨g1, p, none⟩ = some (.int .i64 y) := ⟨_, c1⟩
          obtain ⟨y2, k2⟩ : ∃ y, wr.cell? ⟨g1 + 1, p, none⟩ = some (.int .i64 y) := ⟨_, c2⟩
          have z1 := f1.frozen p
          have z2 := f2.frozen p
          have l1 := f1.lt
          have l2 := f2.lt
          have j1 : (t : Int) < (rn6 : Int) := by omega
          have j2 : (p : Int) < (rn6 : Int) := by omega
          have j3 : ¬ (rn6 : Int) ≤ (t : Int) := by omega
          have j4 : ¬ (rn6 : Int) ≤ (p : Int) := by omega
          have hwn : IntKind.i64.wrap (-x) = -x := IntWalk.i64_in _ (by omega)
          have hb8n : b8 ≠ g1 := by have := HG1.out; omega
          have c8b : (wr.setCell ⟨g1, p, none⟩ (.int .i64 x)).cell? ⟨b8, o8 + t, none⟩ = some (.int .i64 x) := by rw [World.cell?_setCell_far _ _ _ _ (by show g1 ≠ b8; omega)]; exact hc8
          have c2b : (wr.setCell ⟨g1, p, none⟩ (.int .i64 x)).cell? ⟨g1 + 1, p, none⟩ = some (.int .i64 y2) := by rw [World.cell?_setCell_far _ _ _ _ (by show g1 ≠ g1 + 1; omega)]; exact k2
          clear hc8' f1 f2 f3 fl1 fl2 s1 s2 s3 s4 c1 c2 hv8 hx hp hinj hpl hbw hbt hb7 hgs
          go_wp2
          refine ⟨⟨t + 1, by omega, by go_num, HFN.out, HBE.out⟩, by simp [intOf]; omega⟩
        · obtain rfl : t = rn6 := by omega
          obtain ⟨h, m, f1, f2, fl1, fl2, f3⟩ := hfl
          have eh := move_of HPE.out fl1 (fun k hk => (f3 k hk).1)
          have em := neg_move_of HPE.out fl2 (fun k hk => (f3 k hk).2)
          have hall := among_all (h := h) (m := m) (C := C) (by rw [eh, em]; exact HME.out)
          rw [← HNC.out] at hall
          have HALL := hid hall
          have HASU := hid (fun (q : Nat) (hq : q < C.length) => among_succ (h := h) (m := m) hq)
          have HA0 := hid (show amongB C h m 0 = false from by simp [amongB])
          have HF1 := hid (fun (X : World) (hX : Below wr.heap.size wr X) => (f1.keep (hX.block _ f1.lt)).ints)
          have HF2 := hid (fun (X : World) (hX : Below wr.heap.size wr X) => (f2.keep (hX.block _ f2.lt)).ints)
          have HL1 := hid fl1
          have HL2 := hid fl2
          have HBT := hid hbt
          have HCX := hid (fun (X : World) (hX : Below wr.heap.size wr X) => HRC.out.below (HBK.out.trans ((hbt.trans (hX.mono hbt.size)).mono HBK.out.size)))
          have HCN := hid (show ∀ (X : World) (a : Option Addr) (cc : Nat), True from fun _ _ _ => trivial)
          have hni : ¬ (t : Int) < (t : Int) := by omega
          have ht10 : t ≤ maxLen := Nat.le_trans hW10 (by decide)
          clear f1 f2 f3 eh em hall fl1 fl2 hbt
          go_wp2
          obtain ⟨wi, hwi⟩ : ∃ wi, wi = wr := ⟨_, rfl⟩
          subst hwi
          go_loopw [17, 112] (fun u i wr => ∃ q : Nat, q ≤ N ∧ i = .int .i64 q ∧ u = .bool (amongB C h m q) ∧ Below wi.heap.size wi wr) (fun _ i _ => N - (intOf i).toNat)
          case atStart => exact ⟨0, Nat.zero_le _, rfl, by rw [HA0.out], Below.refl _ _⟩
          case round =>
            obtain ⟨q, hq, rfl, rfl, hbq⟩ := hrel
            by_cases hql : q < N
            · have hqC : q < C.length := by rw [← HNC.out]; exact hql
              obtain ⟨b9, o9, ra9, rn9, rc9, e9, hb9, hc9, hrn9, hrm9, hri9⟩ := (HCX.out wr hbq) q hqC
              cases e9
              have has := HASU.out q hqC
              obtain ⟨d, hd⟩ : ∃ d, d = C[q] := ⟨_, rfl⟩
              rw [← hd] at has hrn9 hri9
              have HS1 := hid (fun (X : World) (hX : Below wr.heap.size wr X) => sameInts_c X ra9 (some ⟨g1, 0, none⟩) rn9 rc9 t t d h hrn9 HL1.out hrm9 ht10 (hri9.below hX) (HF1.out X (hbq.trans (hX.mono hbq.size))))
              have HS2 := hid (fun (X : World) (hX : Below wr.heap.size wr X) => sameInts_c X ra9 (some ⟨g1 + 1, 0, none⟩) rn9 rc9 t t d m hrn9 HL2.out hrm9 ht10 (hri9.below hX) (HF2.out X (hbq.trans (hX.mono hbq.size))))
              obtain ⟨x1, hx1⟩ : ∃ x, x = decide (d = h) := ⟨_, rfl⟩
              obtain ⟨x2, hx2⟩ : ∃ x, x = decide (d = m) := ⟨_, rfl⟩
              rw [← hx1, ← hx2] at has
              rw [← hx1] at HS1
              rw [← hx2] at HS2
              have HAS := hid has
              obtain ⟨A, hA⟩ : ∃ A, A = amongB C h m q := ⟨_, rfl⟩
              rw [← hA] at HAS ⊢
              have HBQ := hid hbq
              have i5 : (q : Int) < (N : Int) := by omega
              clear hqC hd has hx1 hx2 hA hri9 hrn9 hbq
              cases A
              · go_wp2_with (go_at_call 22; refine (HS1.out _ (Below.refl _ _)).mono ?_; rintro e w6 ⟨rfl, k6, rfl⟩; refine Stop.of ?_)
                refine Stop.go ?_
                have HB6 := hid (below_drewN (Below.refl wr.heap.size wr) k6)
                cases x1
                · go_wp2_with (go_at_call 22; refine (HS2.out _ HB6.out).mono ?_; rintro e w7 ⟨rfl, k7, rfl⟩; refine Stop.of ?_)
                  refine Stop.go ?_
                  have HB7 := hid (HBQ.out.trans ((below_drewN (Below.refl wr.heap.size wr) (k6 + k7)).mono HBQ.out.size))
                  go_wp2
                  refine ⟨⟨q + 1, by omega, by go_num, by rw [HAS.out]; simp, HB7.out⟩, by simp [intOf]; omega⟩
                · have HB7 := hid (HBQ.out.trans (HB6.out.mono HBQ.out.size))
                  go_wp2
                  refine ⟨⟨q + 1, by omega, by go_num, by rw [HAS.out]; simp, HB7.out⟩, by simp [intOf]; omega⟩
              · go_wp2
                refine ⟨⟨q + 1, by omega, by go_num, by rw [HAS.out]; simp, HBQ.out⟩, by simp [intOf]; omega⟩
            · obtain rfl : q = N := by omega
              have hnq : ¬ (q : Int) < (q : Int) := by omega
              rw [HALL.out]
              have HFI := hid (HBK.out.trans ((HBT.out.trans (hbq.mono HBT.out.size)).mono HBK.out.size))
              clear hbq
              go_wp2
              exact ⟨⟨k + 1, by omega, by go_num, HFI.out⟩, by simp [intOf]; omega⟩
    · obtain rfl : k = N := by omega
      have hni : ¬ (k : Int) < (k : Int) := by omega
      have HBF := hid (chain HB5.out hbk)
      have HPF := hid (HP5.out.below hbk)
      clear hbk
      go_wp2_with (go_at_call 33; refine (HK1.out _ HBF.out).mono ?_; rintro e w6 ⟨v6, base6, rfl, hbs6, ho6, hb6⟩; refine Stop.of ?_)
      refine Stop.go ?_
      obtain ⟨a6, c6, rfl⟩ := ownsRow_slice ho6
      have HB6 := hid (chain HBF.out hb6)
      have HP6 := hid (HPF.out.below hb6)
      clear hbs6 ho6 hb6 HK1
      go_wp2_with (go_at_call 33; refine (HK2.out _ pa pc HP6.out).mono ?_; rintro e w7 ⟨v7, base7, rfl, hbs7, ho7, hb7⟩; refine Stop.of ?_)
      refine Stop.go ?_
      obtain ⟨a7, c7, rfl⟩ := ownsRow_slice ho7
      have HB7 := hid (chain HB6.out hb7)
      clear hbs7 ho7 hb7 HK2
      go_wp2_with (go_at_call 14; refine (HAW.out _).mono ?_; rintro e w8 ⟨rfl, hb8⟩)
      go_ret
      exact ⟨rfl, chain HB7.out hb8⟩
end Go.Proofs.Ytfipebkhomppmaa
