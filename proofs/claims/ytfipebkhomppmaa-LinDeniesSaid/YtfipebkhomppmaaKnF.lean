/- Plain: a pixel's weight and value. · Walks: Unit (package part), seen, weight (package lin). · Walk: weight (package lin). · Walks: Known (package lin), known, Known (reference 03). · Walks: Clone (slices), Dot (package part), conflict, Weight (package lin). · Walks: conflict, Weight, Value (package lin). · Walks: Weight, Value (package lin). -/
import Derived.Test.YtfipebkhomppmaaLinO
import Derived.Test.YtfipebkhomppmaaLinS
import Derived.Test.YtfipebkhomppmaaRatC
import Derived.Test.YtfipebkhomppmaaLwAO
import Derived.Test.YtfipebkhomppmaaLwAD
import Derived.Lib.SliceRun
namespace Go.Proofs.Ytfipebkhomppmaa
section
set_option linter.unusedVariables false

/-- equal fractions in lowest terms -/
theorem ratioF_eq {a b c d : Int} (hb : 0 < b) (hd : 0 < d) (h : a * d = c * b) : ratioF a b = ratioF c d := by
  have g1 : 0 < Int.gcd a b := Nat.pos_of_ne_zero fun e => by have := (Int.gcd_eq_zero_iff.1 e).2; omega
  have g2 : 0 < Int.gcd c d := Nat.pos_of_ne_zero fun e => by have := (Int.gcd_eq_zero_iff.1 e).2; omega
  have k1 : Int.gcd (a * d) (b * d) = Int.gcd a b * d.natAbs := Int.gcd_mul_right _ _ _
  have k2 : Int.gcd (c * b) (d * b) = Int.gcd c d * b.natAbs := Int.gcd_mul_right _ _ _
  rw [h, Int.mul_comm b d, k2] at k1
  obtain ⟨a1, ha⟩ := Int.gcd_dvd_left a b
  obtain ⟨b1, hb1⟩ := Int.gcd_dvd_right a b
  obtain ⟨c1, hc⟩ := Int.gcd_dvd_left c d
  obtain ⟨d1, hd1⟩ := Int.gcd_dvd_right c d
  unfold ratioF
  obtain ⟨G, hG⟩ : ∃ G : Int, G = ((Int.gcd a b : Nat) : Int) := ⟨_, rfl⟩
  obtain ⟨H, hH⟩ : ∃ G : Int, G = ((Int.gcd c d : Nat) : Int) := ⟨_, rfl⟩
  have k3 : H * b = G * d := by
    have := congrArg (fun n : Nat => (n : Int)) k1
    simp only [Int.natCast_mul] at this
    rw [← hG, ← hH] at this
    rw [show ((b.natAbs : Nat) : Int) = b by omega, show ((d.natAbs : Nat) : Int) = d by omega] at this
    exact this
  rw [← hG] at ha hb1 ⊢
  rw [← hH] at hc hd1 ⊢
  have hG0 : G ≠ 0 := by omega
  have hH0 : H ≠ 0 := by omega
  have e1 : b1 = d1 := by
    rw [hb1, hd1] at k3
    have : (H * G) * b1 = (H * G) * d1 := by grind
    exact Int.eq_of_mul_eq_mul_left (Int.mul_ne_zero hH0 hG0) this
  have hb10 : b1 ≠ 0 := fun e => by rw [e] at hb1; omega
  have e2 : a1 = c1 := by
    rw [ha, hd1, hc, hb1, ← e1] at h
    have : (G * H * b1) * a1 = (G * H * b1) * c1 := by grind
    exact Int.eq_of_mul_eq_mul_left (Int.mul_ne_zero (Int.mul_ne_zero hG0 hH0) hb10) this
  rw [Int.tdiv_eq_of_eq_mul_left hG0 (c := a1) (by rw [ha]; exact Int.mul_comm _ _), Int.tdiv_eq_of_eq_mul_left hG0 (c := b1) (by rw [hb1]; exact Int.mul_comm _ _),
    Int.tdiv_eq_of_eq_mul_left hH0 (c := c1) (by rw [hc]; exact Int.mul_comm _ _), Int.tdiv_eq_of_eq_mul_left hH0 (c := d1) (by rw [hd1]; exact Int.mul_comm _ _), e1, e2]

/-- 0 at all pixels but one -/
def zeroBut (n p : Nat) (r : List Int) : Bool := decide (∀ c, c < n → c ≠ p → vec r c = 0)
/-- a pixel's weight and what it sees of it -/
def weightF (M : List (List Int)) (n p : Nat) : Option (List Int × Int) :=
  match (JE M n).findIdx? (fun j => decide (j = p)) with
  | none => none
  | some k => if zeroBut n p ((RE M n)[k]?.getD []) = true then some (((RE M n)[k]?.getD []).drop n, vec ((RE M n)[k]?.getD []) p) else none

theorem weight_some {M : List (List Int)} {n p : Nat} (h : MaskOk M n) {z : List Int} {c : Int} (e : weightF M n p = some (z, c)) :
    ∃ k, knownAt M n k p ∧ z = ((RE M n)[k]?.getD []).drop n ∧ c = rowv (RE M n) k p := by
  unfold weightF at e
  cases hf : (JE M n).findIdx? (fun j => decide (j = p)) with
  | none => rw [hf] at e; cases e
  | some k =>
    rw [hf] at e
    simp only [] at e
    by_cases hz : zeroBut n p ((RE M n)[k]?.getD []) = true
    · rw [if_pos hz] at e
      simp only [Option.some.injEq, Prod.mk.injEq] at e
      obtain ⟨hk, h1, _⟩ := List.findIdx?_eq_some_iff_getElem.1 hf
      have hJ := h.ext_same.1
      refine ⟨k, ⟨by rw [← hJ]; exact hk, ?_, fun c hc hne => of_decide_eq_true hz c hc hne⟩, e.1.symm, e.2.symm⟩
      rw [← hJ]
      unfold jf
      rw [List.getElem?_eq_getElem hk]
      simpa using h1
    · rw [if_neg hz] at e; cases e
theorem weight_none {M : List (List Int)} {n p : Nat} (h : MaskOk M n) (e : weightF M n p = none) : ¬ knownF M n p := by
  rintro ⟨k, hk, hj, hz⟩
  have hJ := h.ext_same.1
  unfold weightF at e
  cases hf : (JE M n).findIdx? (fun j => decide (j = p)) with
  | none =>
    rw [List.findIdx?_eq_none_iff] at hf
    have := hf (jf (JE M n) k) (jf_mem (by rw [hJ]; exact hk))
    rw [hJ, hj] at this
    simp at this
  | some i =>
    rw [hf] at e
    simp only [] at e
    obtain ⟨hi, h1, _⟩ := List.findIdx?_eq_some_iff_getElem.1 hf
    have hji : jf (JP M n) i = p := by
      rw [← hJ]; unfold jf; rw [List.getElem?_eq_getElem hi]; simpa using h1
    have hi2 : i < (JP M n).length := by rw [← hJ]; exact hi
    have hik : i = k := Classical.byContradiction fun hne => by
      have h2 := (h.inv n).ech.red.off i hi2 k hk hne
      rw [hj, ← hji] at h2
      exact (h.inv n).ech.red.piv i hi2 h2
    subst hik
    rw [if_pos (show zeroBut n p ((RE M n)[i]?.getD []) = true from decide_eq_true hz)] at e
    cases e

theorem vec_drop (l : List Int) (n i : Nat) : vec (l.drop n) i = vec l (n + i) := by unfold vec; rw [List.getElem?_drop]

/-- what a weight is -/
theorem MaskOk.weight {M : List (List Int)} {n p : Nat} (h : MaskOk M n) {z : List Int} {c : Int} (e : weightF M n p = some (z, c)) :
    z.length = M.length ∧ (∀ i, -720 ≤ vec z i ∧ vec z i ≤ 720) ∧ 1 ≤ c ∧ c ≤ 720 ∧ (∀ j, j < n → sm (fun i => vec z i * rowv M i j) M.length = if j = p then c else 0) ∧
    ∃ k, knownAt M n k p ∧ c = rowv (RE M n) k p ∧ ∀ y : Vec, sm (fun i => vec z i * y i) M.length = dotY n (rowv (RE M n) k) y M.length := by
  obtain ⟨k, hk, rfl, rfl⟩ := weight_some h e
  have hkn := hk.1
  have hKN : (JP M n).length ≤ M.length := (h.inv n).K_le
  have hlen : (RE M n).length = M.length := by rw [pRed_len, extF_len]
  have hkl : k < (RE M n).length := by omega
  have hw : ((RE M n)[k]?.getD []).length = n + M.length := by
    rw [List.getElem?_eq_getElem hkl]; exact (h.einv n).wid _ (List.getElem_mem hkl)
  have hz : ∀ i, vec (((RE M n)[k]?.getD []).drop n) i = wtV n (rowv (RE M n) k) i := fun i => vec_drop _ _ _
  have hpos := (h.piv_pos hkn).2
  rw [hk.2.1] at hpos
  have hle := h.re_le (t := n) k p
  refine ⟨by rw [List.length_drop]; omega, fun i => by rw [hz]; exact h.re_le k _, by omega, hle.2, fun j hj => ?_, k, hk, rfl, fun y => ?_⟩
  · have h1 := h.weigh ((h.einv n).sp1 k (by omega)) hj
    have h2 : sm (fun i => vec (((RE M n)[k]?.getD []).drop n) i * rowv M i j) M.length = rowv (RE M n) k j := by
      rw [h1]; exact sm_congr fun i _ => by rw [hz]
    rw [h2]
    by_cases hjp : j = p
    · rw [if_pos hjp, hjp]
    · rw [if_neg hjp]; exact hk.2.2 j hj hjp
  · unfold dotY; exact sm_congr fun i _ => by rw [hz]

/-- where no reading's conflict is: the value of a known pixel -/
theorem MaskOk.value {M : List (List Int)} {n : Nat} (h : MaskOk M n) {y : List Int} (hy : y.length = M.length) {k p : Nat} (hk : knownAt M n k p) (hp : p < n) (hnc : ¬ confF M n y) :
    ∃ i, i < (rRed (withY M y) (n + 1)).piv.length ∧ jf (rRed (withY M y) (n + 1)).piv i = p ∧ 0 < vec ((rRed (withY M y) (n + 1)).done[i]?.getD []) p ∧
      dotY n (rowv (RE M n) k) (vec y) M.length * vec ((rRed (withY M y) (n + 1)).done[i]?.getD []) p = vec ((rRed (withY M y) (n + 1)).done[i]?.getD []) n * rowv (RE M n) k p := by
  have hw : ∀ r ∈ withY M y, r.length = n + 1 := fun r hr => by
    obtain ⟨r', h1, v, _, rfl⟩ := withY_mem hr
    simp [h.wid r' h1]
  have hnp : n ∉ (rRed (withY M y) (n + 1)).piv := fun hm => hnc ((h.conf_iff hy).2 hm)
  obtain ⟨q, hq⟩ := rRed_inv (withY M y) hw (n + 1)
  rw [withY_len hy] at q
  have h3 : ∀ v, Sp (RB (rRed (withY M y) (n + 1)).piv.length (rowv ((rRed (withY M y) (n + 1)).done ++ (rRed (withY M y) (n + 1)).left))) v ↔ Sp (RB M.length (rowv (withY M y))) v := fun v => by
    have := q.span (v := v) (fun q1 h1 h2 c => by
      rcases Nat.lt_or_ge c (n + 1) with hc | hc
      · exact q.zero q1 h1 h2 c hc
      · exact rowv_wid q.wid q1 hc)
    rw [this]
    have := primF_span (withY M y) v
    rwa [withY_len hy] at this
  have hkN : k < M.length := by
    have h1 : (JP M n).length ≤ M.length := (h.inv n).K_le
    have := hk.1; omega
  have hu := (h3 _).2 (gY_sp h hy ((h.einv n).sp1 k hkN))
  obtain ⟨U, hU⟩ : ∃ U, U = gY n (vec y) M.length (rowv (RE M n) k) := ⟨_, rfl⟩
  rw [← hU] at hu
  have hpos := (h.piv_pos hk.1).2
  rw [hk.2.1] at hpos
  have up : U p = rowv (RE M n) k p := by rw [hU]; unfold gY; rw [if_pos hp]
  have un : U n = dotY n (rowv (RE M n) k) (vec y) M.length := by rw [hU]; unfold gY; rw [if_neg (by omega), if_pos rfl]
  have u0 : ∀ c, c < n → c ≠ p → U c = 0 := fun c hc hne => by rw [hU]; unfold gY; rw [if_pos hc]; exact hk.2.2 c hc hne
  obtain ⟨i, hi, hji⟩ := (q.ech.pivot_iff p).2 ⟨U, hu, by omega, fun c hc => u0 c (by omega) (by omega)⟩
  have hrow : ∀ c, rowv ((rRed (withY M y) (n + 1)).done ++ (rRed (withY M y) (n + 1)).left) i c = vec ((rRed (withY M y) (n + 1)).done[i]?.getD []) c := fun c => by
    unfold rowv; rw [List.getElem?_append_left (by omega)]
  have hpp := (q.pp i hi).2
  rw [hji, hrow] at hpp
  refine ⟨i, hi, hji, hpp, ?_⟩
  have hz := q.ech.red.zero (v := fun c => rowv ((rRed (withY M y) (n + 1)).done ++ (rRed (withY M y) (n + 1)).left) i p * U c + (-(U p)) * rowv ((rRed (withY M y) (n + 1)).done ++ (rRed (withY M y) (n + 1)).left) i c) (Sp.lin _ _ hu (RB.sp hi)) (fun j hj => by
    by_cases hji2 : j = i
    · subst hji2; rw [hji]; grind
    · have hjl := q.jf_lt hj
      have hjn : jf (rRed (withY M y) (n + 1)).piv j ≠ n := fun e => hnp (by have := jf_mem hj; rwa [e] at this)
      have hjp : jf (rRed (withY M y) (n + 1)).piv j ≠ p := fun e => by
        have := q.ech.red.off j hj i hi hji2
        rw [hji, ← e] at this
        exact q.ech.red.piv j hj this
      have h1 := q.ech.red.off i hi j hj (fun e => hji2 e.symm)
      simp only [h1]
      rw [u0 _ (by omega) hjp]; simp) n
  simp only [hrow] at hz
  rw [up, un] at hz
  grind
end

section
section
open Go.RowKit
set_option linter.unusedVariables false

theorem unit1 (w : World) (b N : Nat) (hN : N ≤ 1000) (hc : w.cell? ⟨b, 0, none⟩ = some (.int .i64 N)) (hb : b < w.heap.size) :
    MoreP Try.prog 169 #[.pointer (some ⟨b, 0, none⟩)] w N (fun i => unitF N i) := by
  intro i W hi hW
  have hc' : W.cell? ⟨b, 0, none⟩ = some (.int .i64 N) := (hW.cell (p := ⟨b, 0, none⟩) hb).trans hc
  rw [unitF_len]
  show Calls Try.prog 169 #[.int .i64 i, .pointer (some ⟨b, 0, none⟩)] W fun e W' => ∃ a c, e = .returned (.slice a N c) ∧ IntsAt W' a (unitF N i) ∧ Below W.heap.size W W'
  have hmk : ∀ w, (Instr.makeSlice 31 (.int .i64 (N : Int)) (.int .i64 (N : Int))).run Try.prog w = .ok (.slice (some ⟨w.heap.size, 0, none⟩) N N) (w.alloc (.cells (madeCells #[.int .i64 0] N) 3)) :=
    fun w => run_make_row' 31 3 (.int .i64 0) 8 Try.underlying31 li_int rfl .i64 .i64 N (by omega) (by omega) w
  have hmsz : (madeCells #[Value.int .i64 0] N).size = N := by rw [size_madeCells]
  have HSP := hid (sp_made_set W N i 1)
  have i1 : (i : Int) < (N : Int) := by omega
  have i0 : (0 : Int) ≤ (i : Int) := by omega
  clear hc hN
  go_enter Try.func169, Try.ntmps169
  go_wp2
  go_ret
  refine ⟨some ⟨W.heap.size, 0, none⟩, N, rfl, HSP.out.ints, (Below.refl _ _).alloc (Nat.le_refl _) _⟩

theorem unit_c (w : World) (N : Nat) : Calls Try.prog 153 #[.int .i64 N] w
    fun e w' => e = .returned (.func (.func 169) #[] #[.pointer (some ⟨w.heap.size, 0, none⟩)]) ∧ w' = w.alloc (.cells #[.int .i64 N] 3) := by
  have hmf : ∀ (fn : Fn) (first cap : Array Value) (w : World), (Instr.makeFunc fn first cap).run Try.prog w = .ok (.func fn first cap) w := fun _ _ _ _ => rfl
  go_enter Try.func153, Try.ntmps153
  go_wp2
  go_ret
  exact ⟨rfl, rfl⟩

theorem chosenF_unit {M : List (List Int)} {W : Nat} (h : ∀ r ∈ M, r.length = W) : chosenF M (allI W) (fun i => unitF M.length i) = extF M := by
  unfold chosenF extF
  refine List.ext_getElem (by simp) fun i h1 h2 => ?_
  have hi : i < M.length := by simpa using h1
  simp only [List.getElem_mapIdx]
  congr 1
  have := congrArg (fun l => l[i]?) (cols_all h)
  unfold colsF at this
  simp only [List.getElem?_map, List.getElem?_eq_getElem hi, Option.map_some, Option.some.injEq] at this
  exact this

/-- the reduced rows, each with room for what it holds -/
def SeenAt (w : World) (g0 : Nat) (M : Mask) (W : Nat) : Prop :=
  ∀ i, i < M.length → ∃ gi x, w.cell? ⟨g0, i, none⟩ = some (.slice (some ⟨gi, 0, none⟩) (W + M.length) (W + M.length + x)) ∧ g0 < w.heap.size ∧ gi < w.heap.size ∧ IntsAt w (some ⟨gi, 0, none⟩) ((RE M W)[i]?.getD []) ∧ ((RE M W)[i]?.getD []).length = W + M.length
theorem SeenAt.below {w w' : World} {g0 : Nat} {M : Mask} {W : Nat} (h : SeenAt w g0 M W) (hb : Below w.heap.size w w') : SeenAt w' g0 M W := by
  intro i hi
  obtain ⟨gi, x, h1, h2, h3, h4, h5⟩ := h i hi
  exact ⟨gi, x, (hb.cell (p := ⟨g0, i, none⟩) h2).trans h1, Nat.lt_of_lt_of_le h2 hb.size, Nat.lt_of_lt_of_le h3 hb.size, h4.below hb, h5⟩

set_option maxRecDepth 100000 in
set_option maxHeartbeats 4000000 in
theorem seen_c (w : World) (a : Option Addr) (n cap : Nat) (M : Mask) (hn : M.length = n) (H : RowsAt w a M) (hok : okM M = true) :
    Calls Try.prog 132 #[.slice a n cap] w fun e w' => ∃ g0 c0 ja jc, e = .returned (.tuple #[.slice (some ⟨g0, 0, none⟩) n c0, .slice ja (JP M (colsM M)).length jc]) ∧
      SeenAt w' g0 M (colsM M) ∧ n ≤ c0 ∧ IntsAt w' ja (intsJ (JP M (colsM M))) ∧ Below w.heap.size w w' := by
  obtain ⟨hM, h1, h6, hc1, hc10⟩ := okM_ok hok
  obtain ⟨b, off, ra, rc, rfl, hb, hc⟩ := rows_head H (by omega)
  have hn6 : n ≤ 6 := by omega
  have hn1 : 1 ≤ n := by omega
  obtain ⟨W, hW⟩ : ∃ W, W = colsM M := ⟨_, rfl⟩
  rw [← hW] at hM hc1 hc10 hc ⊢
  have hS : ∀ r ∈ M, ∀ j ∈ allI W, 0 ≤ j ∧ j < r.length := fun r hr j hj => by rw [hM.wid r hr]; exact allI_mem hj
  have HCh := hid (fun (X : World) (hX : Below w.heap.size w X) (va : Option Addr) (vc q : Nat) (hI : IntsAt X va (allI W)) (hq : X.cell? ⟨q, 0, none⟩ = some (.int .i64 n)) (hqs : q < X.heap.size) =>
    chosen_c X (some ⟨b, off, none⟩) n cap M hn (by omega) (H.below hX) va W vc (allI W) (allI_len W) (by omega) hI hS 169 #[.pointer (some ⟨q, 0, none⟩)] (enters_of Try.func169 (by kernel_rfl) rfl) (fun i => unitF n i)
      (unit1 X q n (by omega) hq hqs) (fun i _ => ⟨by rw [unitF_len]; omega, by omega⟩))
  have hcu : chosenF M (allI W) (fun i => unitF n i) = extF M := by rw [← hn]; exact chosenF_unit hM.wid
  rw [hcu] at HCh
  have hEl : (extF M).length = n := by rw [extF_len, hn]
  have hle : ∀ t, t ≤ W → ∀ r ∈ (pRed (extF M) t).1, r.length = W + n ∧ BndL 1073741824 r := fun t ht r hr => by
    have h2 := (hM.einv t).wid r hr
    rw [hn] at h2
    refine ⟨h2, fun x hx => ?_⟩
    obtain ⟨c, hc, rfl⟩ := List.mem_iff_getElem.1 hx
    obtain ⟨k, hk, rfl⟩ := List.mem_iff_getElem.1 hr
    have := hM.re_le (t := t) k c
    rw [List.getElem?_eq_getElem hk] at this
    simp only [Option.getD_some] at this
    rw [vec_lt hc] at this
    omega
  have HRd := hid (fun (W1 : World) (base : Nat) (v0 : Value) (hO : OwnT W1 base W1.heap.size v0 (extF M)) (hb : base ≤ W1.heap.size) => reduce_c W1 base v0 (extF M) (W + n) hO hb (fun r hr => by have := hM.ext.wid r hr; rw [hn] at this; exact this) (by omega) (by omega) (by omega) W (by omega) hle)
  have hJE : (pRed (extF M) W).2 = JP M W := hM.ext_same.1
  rw [hJE] at HRd
  have hRl : (pRed (extF M) W).1.length = n := by rw [pRed_len, hEl]
  have hRw : ∀ r ∈ (pRed (extF M) W).1, r.length = W + n := fun r hr => (hle W (Nat.le_refl _) r hr).1
  have HN := hid hn
  have HRL := hid hRl
  have HRW := hid hRw
  have HCC := hid (fun (X : World) (hX : Below w.heap.size w X) => show X.cell? ⟨b, off, none⟩ = some (.slice ra W rc) from (hX.cell (p := ⟨b, off, none⟩) hb).trans hc)
  obtain ⟨K, hK⟩ : ∃ K, K = (JP M W).length := ⟨_, rfl⟩
  have HKJ := hid hK
  rw [← hK] at HRd ⊢
  have i0 : (0 : Int) < (n : Int) := by omega
  clear hn H hok hM h1 h6 hb hc hS hcu hEl hle hRl hRw hJE hK hW
  go_enter Try.func132, Try.ntmps132
  have c0 := HCC.out w (Below.refl _ _)
  go_wp2_with (go_at_call 70; refine (all_c _ W (by omega)).mono ?_; rintro e w2 ⟨v, rfl, ho2, hb2⟩; refine Stop.of ?_)
  refine Stop.go ?_
  obtain ⟨va, vc, rfl, hi2, hm2⟩ := ints_of_own ho2 (allI_len W)
  have HI2 := hid hi2
  have HB2 := hid hb2
  clear hi2 ho2 hb2 c0
  have hb23 : Below w2.heap.size w2 (w2.alloc (.cells #[.int .i64 n] 3)) := (Below.refl _ _).alloc (Nat.le_refl _) _
  have HB3 := hid (chain HB2.out hb23)
  have HC3 := hid (HCh.out (w2.alloc (.cells #[.int .i64 n] 3)) HB3.out va vc w2.heap.size (HI2.out.below hb23) (by rw [World.cell?_alloc_at _ _ _ _ rfl]; rfl) (by simp))
  clear HCh hb23 HI2 HB2
  go_wp2_with (go_at_call 153; refine (unit_c w2 n).mono ?_; rintro e w3 ⟨rfl, rfl⟩; refine Stop.of ?_)
  refine Stop.go ?_
  go_wp2_with (go_at_call 79; refine HC3.out.mono ?_; rintro e w4 ⟨v0, rfl, hO4, hb4⟩; refine Stop.of ?_)
  refine Stop.go ?_
  have HRd1 := hid (HRd.out w4 _ v0 (OwnT.of hO4) hb4.size)
  have HB4 := hid (chain HB3.out hb4)
  have c4 := HCC.out w4 HB4.out
  have HB34 := hid hb4
  clear hO4 HRd HC3 hb4
  go_wp2_with (go_at_call 78; refine HRd1.out.mono ?_; rintro e w5 ⟨vJ, rfl, hJo, hT5, hb5⟩; refine Stop.of ?_)
  refine Stop.go ?_
  rw [intsJ_vals] at hJo
  obtain ⟨ja, jc, rfl, hJI, hJm⟩ := ints_of_own hJo (by rw [intsJ_len, HKJ.out])
  have hv0 : ∃ g0 c0, v0 = .slice (some ⟨g0, 0, none⟩) n c0 := by
    obtain ⟨g0, c0, _, _, e, _⟩ := hT5.at 0 (by rw [HRL.out]; omega)
    exact ⟨g0, c0, by rw [e, HRL.out]⟩
  obtain ⟨g0, cc, rfl⟩ := hv0
  have hinf := hT5.info HRL.out
  have hSE : SeenAt w5 g0 M W := by
    intro i hi
    have hiR : i < (pRed (extF M) W).1.length := by rw [HRL.out, ← HN.out]; exact hi
    obtain ⟨gi, x, hx1, hx2, hx3⟩ := hT5.caps HRL.out i hiR
    have hlen := HRW.out _ (List.getElem_mem hiR)
    rw [List.getElem?_eq_getElem hiR]
    simp only [Option.getD_some]
    refine ⟨gi, x, ?_, hinf.2.2.1, hx2, hx3.ints, by rw [hlen, HN.out]⟩
    rw [hx1, hlen, HN.out]
  have HSE := hid hSE
  have HJI := hid hJI
  have HBF := hid (show Below w.heap.size w w5 from HB3.out.trans ((HB34.out.trans hb5).mono HB3.out.size))
  have hcc := hinf.2.2.2.1
  clear hSE hJI hinf hT5 hJo hb5
  go_wp2
  go_ret2
  exact ⟨g0, cc, ja, jc, rfl, HSE.out, hcc, HJI.out, HBF.out⟩
end

section
open Go.RowKit
set_option linter.unusedVariables false

theorem idx_J (J : List Nat) (p : Nat) : idxP (fun y => decide (y = (p : Int))) (intsJ J) 0 = match J.findIdx? (fun j => decide (j = p)) with | some i => (i : Int) | none => -1 := by
  rw [idxP_find]
  have e : (intsJ J).findIdx? (fun y => decide (y = (p : Int))) = J.findIdx? (fun j => decide (j = p)) := by
    unfold intsJ
    rw [List.findIdx?_map]
    congr 1
    funext j
    simp only [Function.comp]
    by_cases h : j = p
    · simp [h]
    · rw [decide_eq_false h, decide_eq_false (by omega)]
  rw [e]
  cases J.findIdx? (fun j => decide (j = p)) <;> simp

theorem ints_drop {w : World} {g o W : Nat} {l : List Int} (h : IntsAt w (some ⟨g, o, none⟩) l) : IntsAt w (some ⟨g, o + W, none⟩) (l.drop W) := by
  intro j hj
  obtain ⟨b, off, e, hb, hc⟩ := h (W + j) (by rw [List.length_drop] at hj; omega)
  cases e
  refine ⟨g, o + W, rfl, hb, ?_⟩
  rw [List.getElem?_drop, ← hc, show o + W + j = o + (W + j) by omega]

/-- what weight returns -/
def WtPost (M : Mask) (W p n : Nat) (e : Ending) (w' : World) : Prop :=
  (weightF M W p = none ∧ e = .returned (.tuple #[.slice none 0 0, .int .i64 0, .bool false])) ∨
  (∃ z c aa cap', weightF M W p = some (z, c) ∧ e = .returned (.tuple #[.slice aa n cap', .int .i64 c, .bool true]) ∧ IntsAt w' aa z)

set_option maxRecDepth 100000 in
set_option maxHeartbeats 4000000 in
theorem weight_c (w : World) (a : Option Addr) (n cap : Nat) (M : Mask) (hn : M.length = n) (H : RowsAt w a M) (hok : okM M = true) (p : Nat) (hp : p < colsM M) :
    Calls Try.prog 83 #[.slice a n cap, .int .i64 p] w fun e w' => Below w.heap.size w w' ∧ WtPost M (colsM M) p n e w' := by
  have HSN := hid (seen_c w a n cap M hn H hok)
  obtain ⟨hM, h1, h6, hc1, hc10⟩ := okM_ok hok
  obtain ⟨b, off, ra, rc, rfl, hb, hc⟩ := rows_head H (by omega)
  obtain ⟨W, hW⟩ : ∃ W, W = colsM M := ⟨_, rfl⟩
  rw [← hW] at HSN hM hc1 hc10 hc hp ⊢
  have hKn : (JP M W).length ≤ n := by
    have : (JP M W).length ≤ M.length := (hM.inv W).K_le
    omega
  have hwe : ∀ o, (JP M W).findIdx? (fun j => decide (j = p)) = o → weightF M W p = match o with | none => none | some k => if zeroBut W p ((RE M W)[k]?.getD []) = true then some (((RE M W)[k]?.getD []).drop W, vec ((RE M W)[k]?.getD []) p) else none := by
    intro o ho
    unfold weightF
    rw [show JE M W = JP M W from hM.ext_same.1, ho]
    all_goals (cases o <;> rfl)
  have HCC := hid (fun (X : World) (hX : Below w.heap.size w X) => show X.cell? ⟨b, off, none⟩ = some (.slice ra W rc) from (hX.cell (p := ⟨b, off, none⟩) hb).trans hc)
  have HIX := hid (fun (X : World) (ja : Option Addr) (jc : Nat) (hI : IntsAt X ja (intsJ (JP M W))) => indexV X ja (JP M W).length jc (intsJ (JP M W)) (intsJ_len _) (by unfold maxLen; omega) hI p)
  rw [idx_J] at HIX
  have i0 : (0 : Int) < (n : Int) := by omega
  have HN := hid hn
  obtain ⟨K, hK⟩ : ∃ K, K = (JP M W).length := ⟨_, rfl⟩
  have HKJ := hid hK
  rw [← hK] at HSN HIX hKn
  cases hf : (JP M W).findIdx? (fun j => decide (j = p)) with
  | none =>
    rw [hf] at HIX
    have HWE := hid (hwe none hf)
    simp only [] at HIX
    clear hn H hok hM h1 h6 hb hc hwe hf hK hW
    go_enter Try.func83, Try.ntmps83
    go_wp2_with (go_at_call 132; refine HSN.out.mono ?_; rintro e w1 ⟨g0, c0, ja, jc, rfl, hSE, hcc, hJI, hb1⟩; refine Stop.of ?_)
    refine Stop.go ?_
    have HX := hid (HIX.out w1 ja jc hJI)
    have HB1 := hid hb1
    clear hSE hJI hb1 HIX HSN
    go_wp2_with (go_at_call 117; refine HX.out.mono ?_; rintro e w2 ⟨rfl, rfl⟩; refine Stop.of ?_)
    refine Stop.go ?_
    go_wp2
    go_ret3
    exact ⟨HB1.out, Or.inl ⟨HWE.out, rfl⟩⟩
  | some k =>
    rw [hf] at HIX
    have HWE := hid (hwe (some k) hf)
    simp only [] at HIX HWE
    have hkK : k < K := by
      obtain ⟨hk, _⟩ := List.findIdx?_eq_some_iff_getElem.1 hf
      rw [hK]; exact hk
    clear hn H hok hM h1 h6 hb hc hwe hf hK hW
    go_enter Try.func83, Try.ntmps83
    go_wp2_with (go_at_call 132; refine HSN.out.mono ?_; rintro e w1 ⟨g0, c0, ja, jc, rfl, hSE, hcc, hJI, hb1⟩; refine Stop.of ?_)
    refine Stop.go ?_
    have HX := hid (HIX.out w1 ja jc hJI)
    obtain ⟨gi, x, hh, hg0, hgi, hri, hrl⟩ := hSE k (by rw [HN.out]; omega)
    rw [HN.out] at hh hrl
    have hm1 := HCC.out w1 hb1
    have HB1 := hid hb1
    have HRI := hid hri
    have HRL := hid hrl
    obtain ⟨row, hrow⟩ : ∃ row, row = (RE M W)[k]?.getD [] := ⟨_, rfl⟩
    rw [← hrow] at HRI HRL HWE
    clear hSE hJI hb1 HIX HSN hri hrl hrow
    obtain ⟨L, hL⟩ : ∃ L, L = W + n := ⟨_, rfl⟩
    rw [← hL] at hh HRL
    have hLW : W ≤ L := by omega
    have hLn : L - W = n := by omega
    have i1 : (k : Int) < (n : Int) := by omega
    have i2 : (W : Int) ≤ ((L + x : Nat) : Int) := by omega
    have i3 : (W : Int) ≤ (L : Int) := by omega
    have i4 : (p : Int) < (L : Int) := by omega
    have i5 : (L : Int) ≤ ((L + x : Nat) : Int) := by omega
    obtain ⟨C, hC⟩ : ∃ C, C = L + x := ⟨_, rfl⟩
    rw [← hC] at hh i2 i5
    clear hL hC
    go_wp2_with (go_at_call 117; refine HX.out.mono ?_; rintro e w2 ⟨rfl, rfl⟩; refine Stop.of ?_)
    refine Stop.go ?_
    go_wp2
    go_quiet (fail)
    go_wp2
    have HRI2 := hid (HRI.out.below (below_drewN (Below.refl _ _) nq))
    have HB2 := hid (below_drewN HB1.out nq)
    have hh2 : (w1.drewN nq).cell? ⟨g0, k, none⟩ = some (.slice (some ⟨gi, 0, none⟩) L C) := hh
    have hm2 : (w1.drewN nq).cell? ⟨b, off, none⟩ = some (.slice ra W rc) := hm1
    have hgi2 : gi < (w1.drewN nq).heap.size := hgi
    clear hh hm1 hgi HRI HB1 hg0
    generalize w1.drewN nq = w2 at HRI2 HB2 hh2 hm2 hgi2 ⊢
    go_loop [32] (fun i => ∃ t : Nat, t ≤ W ∧ i = .int .i64 t ∧ Hid (∀ c, c < t → c ≠ p → vec row c = 0)) (fun i => W - (intOf i).toNat)
    case atStart => exact ⟨0, Nat.zero_le _, rfl, hid (fun c h => by omega)⟩
    case round =>
      obtain ⟨t, ht, rfl, HNO⟩ := hrel
      by_cases hlt : t < W
      · obtain ⟨_, _, e, _, hct⟩ := HRI2.out t (by rw [HRL.out]; omega)
        cases e
        rw [Nat.zero_add] at hct
        have HZ := hid (fun (h : vec row t ≠ 0) (h2 : t ≠ p) => show zeroBut W p row = false from decide_eq_false fun h3 => h (h3 t hlt h2))
        have HX1 := hid (fun (h : vec row t = 0 ∨ t = p) => show ∀ c, c < t + 1 → c ≠ p → vec row c = 0 from fun c hc hne => by
          rcases Nat.lt_or_ge c t with h1 | h1
          · exact HNO.out c h1 hne
          · obtain rfl : c = t := by omega
            rcases h with h | h
            · exact h
            · exact absurd h hne)
        obtain ⟨v, hv⟩ : ∃ v, v = vec row t := ⟨_, rfl⟩
        rw [← hv] at HZ HX1
        have hct' : w2.cell? ⟨gi, t, none⟩ = some (.int .i64 v) := by rw [hct, hv]; rfl
        have j1 : (t : Int) < (W : Int) := by omega
        clear hct hv
        by_cases h0 : v = 0
        · have HX := hid (HX1.out (.inl h0))
          have hb0 : (v != 0) = false := by simpa using h0
          clear HZ HX1
          go_wp2
          go_round
          case rel => exact ⟨t + 1, by omega, by go_num, HX⟩
          case measure => simp [intOf]; omega
        · have hb0 : (v != 0) = true := by simpa using h0
          by_cases htp : t = p
          · have HX := hid (HX1.out (.inr htp))
            subst htp
            have hb1 : ((t : Int) != (t : Int)) = false := by simp
            clear HZ HX1
            go_wp2
            go_round
            case rel => exact ⟨t + 1, by omega, by go_num, HX⟩
            case measure => simp [intOf]; omega
          · have hz := HZ.out h0 htp
            have hb1 : ((t : Int) != (p : Int)) = true := by simp; omega
            have hwn : weightF M W p = none := by rw [HWE.out, if_neg (by rw [hz]; decide)]
            clear HZ HX1
            go_wp2
            go_ret3
            exact ⟨HB2.out, Or.inl ⟨hwn, rfl⟩⟩
      · obtain rfl : t = W := by omega
        have hz : zeroBut t p row = true := decide_eq_true fun c hc hne => HNO.out c hc hne
        have hwn : weightF M t p = some (row.drop t, vec row p) := by rw [HWE.out, if_pos hz]
        obtain ⟨_, _, e, _, hct⟩ := HRI2.out p (by rw [HRL.out]; omega)
        cases e
        rw [Nat.zero_add] at hct
        have HZI := hid (ints_drop (W := t) HRI2.out)
        obtain ⟨v, hv⟩ : ∃ v, v = vec row p := ⟨_, rfl⟩
        rw [← hv] at hwn
        have hct' : w2.cell? ⟨gi, p, none⟩ = some (.int .i64 v) := by rw [hct, hv]; rfl
        have HWN := hid hwn
        clear hct hv hz hwn HWE
        go_wp2
        go_quiet (fail)
        go_wp2
        go_ret3
        refine ⟨below_drewN HB2.out _, Or.inr ⟨row.drop t, v, some ⟨gi, t, none⟩, C - t, HWN.out, ?_, ?_⟩⟩
        · rw [← hLn]; rfl
        · have := HZI.out.below (below_drewN (Below.refl _ _) nq)
          rwa [Nat.zero_add] at this
end

section
open Go.RowKit
set_option linter.unusedVariables false

/-- is a pixel known? -/
def knB (M : Mask) (p : Nat) : Bool := (weightF M (colsM M) p).isSome
theorem knB_iff {M : Mask} (hok : okM M = true) {p : Nat} (hp : p < colsM M) : knB M p = true ↔ ∀ l ∈ kernP (RP M (colsM M)) (JP M (colsM M)) (colsM M), vec l p = 0 := by
  obtain ⟨hM, _⟩ := okM_ok hok
  rw [← hM.known_ref hp]
  unfold knB
  constructor
  · intro h
    obtain ⟨⟨z, c⟩, e⟩ := Option.isSome_iff_exists.1 h
    obtain ⟨k, hk, _⟩ := weight_some hM e
    exact ⟨k, hk⟩
  · intro h
    cases e : weightF M (colsM M) p with
    | none => exact absurd h (weight_none hM e)
    | some x => rfl

theorem r3known_c (w : World) (a : Option Addr) (n cap : Nat) (M : Mask) (hn : M.length = n) (H : RowsAt w a M) (hok : okM M = true) (p : Nat) (hp : p < colsM M) :
    Calls Try.prog 109 #[.slice a n cap, .int .i64 p] w fun e w' => e = .returned (.bool (knB M p)) ∧ Below w.heap.size w w' := by
  obtain ⟨hM, h1, h6, hc1, hc10⟩ := okM_ok hok
  have HK := hid (r3kernel_c w a n cap M hn (by omega) (colsM M) hc1 (by omega) hM H)
  have hke : kerSP M (allI (colsM M)) = kernP (RP M (colsM M)) (JP M (colsM M)) (colsM M) := by unfold kerSP; rw [cols_all hM.wid, allI_len]
  have hiff := knB_iff hok hp
  have hw : ∀ l ∈ kernP (RP M (colsM M)) (JP M (colsM M)) (colsM M), l.length = colsM M := fun l hl => (ker_isKer hok (by rw [hke]; exact hl)).2
  have hlen : (kernP (RP M (colsM M)) (JP M (colsM M)) (colsM M)).length ≤ 10 := by have := hM.rank_ker; omega
  obtain ⟨L, hL⟩ : ∃ L, L = kernP (RP M (colsM M)) (JP M (colsM M)) (colsM M) := ⟨_, rfl⟩
  rw [← hL] at HK hiff hw hlen
  obtain ⟨W, hW⟩ : ∃ W, W = colsM M := ⟨_, rfl⟩
  rw [← hW] at hw hp hc10
  obtain ⟨B, hB⟩ : ∃ B, B = knB M p := ⟨_, rfl⟩
  rw [← hB] at hiff ⊢
  obtain ⟨K, hK⟩ : ∃ K, K = L.length := ⟨_, rfl⟩
  rw [← hK] at hlen
  have HLK := hid hK.symm
  have HIF := hid hiff
  have HWD := hid hw
  have i1 : (p : Int) < (W : Int) := by omega
  clear hn H hok hM hke hiff hw hL hW hB hK h1 h6
  go_enter Try.func109, Try.ntmps109
  go_wp2_with (go_at_call 66; refine HK.out.mono ?_; rintro e w1 ⟨v, base, rfl, hbs, hT, hb1⟩; refine Stop.of ?_)
  refine Stop.go ?_
  obtain ⟨va, vc, rfl⟩ : ∃ a c, v = .slice a K c := by
    obtain ⟨_, ho, _⟩ := hT
    obtain ⟨a', c', e⟩ := ownsRow_slice ho
    exact ⟨a', c', by rw [e, HLK.out]⟩
  have HR := hid (hT.rows HLK.out (fun r hr => by rw [HWD.out r hr]; unfold maxLen; omega))
  have HB1 := hid hb1
  clear hT hb1 HK hbs
  go_wp2
  go_loop [10] (fun i => ∃ t : Nat, t ≤ K ∧ i = .int .i64 t ∧ Hid (∀ c, c < t → vec (L[c]?.getD []) p = 0)) (fun i => K - (intOf i).toNat)
  case atStart => exact ⟨0, Nat.zero_le _, rfl, hid (fun c h => by omega)⟩
  case round =>
    obtain ⟨t, ht, rfl, HNO⟩ := hrel
    by_cases hlt : t < K
    · have htL : t < L.length := by rw [HLK.out]; exact hlt
      obtain ⟨b, off, ra, rn, rc, rfl, hbs, hq, hrn, hrm, hri⟩ := HR.out t htL
      obtain rfl : rn = W := by rw [← hrn]; exact HWD.out _ (List.getElem_mem htL)
      obtain ⟨b2, o2, rfl, hbs2, hc2⟩ := hri p (by rw [hrn]; exact hp)
      have hv : (L[t])[p]?.getD 0 = vec (L[t]?.getD []) p := by rw [List.getElem?_eq_getElem htL]; rfl
      rw [hv] at hc2
      have HZ := hid (fun (h : vec (L[t]?.getD []) p ≠ 0) => show B = false from by
        rw [Bool.eq_false_iff]
        intro hB
        refine h ?_
        rw [List.getElem?_eq_getElem htL]
        exact HIF.out.1 hB _ (List.getElem_mem htL))
      have HX1 := hid (fun (h : vec (L[t]?.getD []) p = 0) => show ∀ c, c < t + 1 → vec (L[c]?.getD []) p = 0 from fun c hc => by
        rcases Nat.lt_or_ge c t with h1 | h1
        · exact HNO.out c h1
        · obtain rfl : c = t := by omega
          exact h)
      obtain ⟨x, hx⟩ : ∃ x, x = vec (L[t]?.getD []) p := ⟨_, rfl⟩
      rw [← hx] at hc2 HZ HX1
      clear hv hx hri hrn htL
      by_cases h0 : x = 0
      · have HX := hid (HX1.out h0)
        have hb0 : (x != 0) = false := by simpa using h0
        clear HZ HX1
        go_wp2
        go_round
        case rel => exact ⟨t + 1, by omega, by go_num, HX⟩
        case measure => simp [intOf]; omega
      · have hb0 : (x != 0) = true := by simpa using h0
        obtain rfl : B = false := HZ.out h0
        clear HZ HX1
        go_wp2
        go_ret
        exact ⟨rfl, HB1.out⟩
    · obtain rfl : B = true := HIF.out.2 fun l hl => by
        obtain ⟨c, hc, rfl⟩ := List.mem_iff_getElem.1 hl
        have := HNO.out c (by have := HLK.out; omega)
        rw [List.getElem?_eq_getElem hc] at this
        exact this
      go_wp2
      go_ret
      exact ⟨rfl, HB1.out⟩

/-- the known pixels below k -/
def knTo (M : Mask) (k : Nat) : List Int := ((List.range k).filter (knB M)).map (fun p : Nat => (p : Int))
theorem knTo_succ (M : Mask) (k : Nat) : knTo M (k + 1) = if knB M k = true then knTo M k ++ [(k : Int)] else knTo M k := by
  unfold knTo
  rw [List.range_succ, List.filter_append]
  by_cases h : knB M k = true
  · rw [if_pos h]; simp [h]
  · rw [if_neg h]; simp [h]
theorem knTo_len (M : Mask) (k : Nat) : (knTo M k).length ≤ k := by
  unfold knTo; rw [List.length_map]
  have := List.length_filter_le (knB M) (List.range k)
  simpa using this
def knownL (M : Mask) : List Int := if okM M = true then knTo M (colsM M) else []
def okE (M : Mask) : Int := if okM M = true then 0 else 1

set_option maxRecDepth 100000 in
set_option maxHeartbeats 4000000 in
theorem lknown_c (w : World) (a : Option Addr) (n cap : Nat) (M : Mask) (hn : M.length = n) (hm : n ≤ maxLen) (H : RowsAt w a M) :
    Calls Try.prog 33 #[.slice a n cap] w fun e w' => ∃ v base, e = .returned (.tuple #[v, .int .i64 (okE M)]) ∧ w.heap.size ≤ base ∧ w'.ownsRow base 3 1 v (knownL M).length ((knownL M).map (Value.int .i64)) ∧ Below w.heap.size w w' := by
  have HV := hid (maskValid_c w a n cap M hn hm H)
  unfold okE knownL
  cases hok : okM M
  · rw [hok] at HV
    simp only [Bool.false_eq_true, if_false]
    clear hn H hok
    go_enter Try.func33, Try.ntmps33
    go_wp2_with (go_at_call 69; refine HV.out.mono ?_; rintro e w1 ⟨rfl, hb1⟩)
    go_ret2
    exact ⟨.slice none 0 0, w.heap.size, rfl, Nat.le_refl _, World.ownsRow_nil _ _ _ _, hb1⟩
  · rw [hok] at HV
    simp only [if_true]
    obtain ⟨hM, h1, h6, hc1, hc10⟩ := okM_ok hok
    obtain ⟨b, off, ra, rc, rfl, hb, hc⟩ := rows_head H (by omega)
    have HWT := hid (fun (X : World) (hX : Below w.heap.size w X) (p : Nat) (hp : p < colsM M) => weight_c X (some ⟨b, off, none⟩) n cap M hn (H.below hX) hok p hp)
    have HKB := hid (fun (p : Nat) => show knB M p = (weightF M (colsM M) p).isSome from rfl)
    obtain ⟨W, hW⟩ : ∃ W, W = colsM M := ⟨_, rfl⟩
    rw [← hW] at HWT HKB hc hc10 ⊢
    have HCC := hid (fun (X : World) (hX : Below w.heap.size w X) => show X.cell? ⟨b, off, none⟩ = some (.slice ra W rc) from (hX.cell (p := ⟨b, off, none⟩) hb).trans hc)
    have i0 : (0 : Int) < (n : Int) := by omega
    clear hn H hok hM h1 h6 hb hc hW
    go_enter Try.func33, Try.ntmps33
    go_wp2_with (go_at_call 69; refine HV.out.mono ?_; rintro e w1 ⟨rfl, hb1⟩; refine Stop.of ?_)
    refine Stop.go ?_
    have hc1 := HCC.out w1 hb1
    have HB1 := hid hb1
    clear hb1 HV
    go_wp2
    clear hc1
    go_loopw [4, 16] (fun v i wr => ∃ k : Nat, k ≤ W ∧ i = .int .i64 k ∧ wr.ownsRow w1.heap.size 3 1 v (knTo M k).length ((knTo M k).map (Value.int .i64)) ∧ Below w1.heap.size w1 wr) (fun _ i _ => W - (intOf i).toNat)
    case atStart => exact ⟨0, Nat.zero_le _, rfl, World.ownsRow_nil _ _ _ _, Below.refl _ _⟩
    case round =>
      obtain ⟨k, hk, rfl, ho, hbk⟩ := hrel
      by_cases hlt : k < W
      · have HW1 := hid (HWT.out wr (chain HB1.out hbk) k hlt)
        have hsn := knTo_succ M k
        have hkb := HKB.out k
        obtain ⟨T, hT⟩ : ∃ T, T = knTo M k := ⟨_, rfl⟩
        rw [← hT] at ho hsn
        have hTl : T.length ≤ k := by rw [hT]; exact knTo_len M k
        obtain ⟨m, hm⟩ : ∃ m, m = T.length := ⟨_, rfl⟩
        rw [← hm] at ho hTl
        have HSN := hid hsn
        have HKBK := hid hkb
        have HO := hid ho
        have HBK := hid hbk
        have HML := hid hm
        obtain ⟨va, vc, rfl⟩ := ownsRow_slice ho
        clear ho hbk hsn hkb hT hm
        go_wp2_with (go_at_call 83; refine HW1.out.mono ?_; rintro e w2 ⟨hb2, hpost⟩; rcases hpost with ⟨hwn, rfl⟩ | ⟨z, c, aa, cap', hws, rfl, _⟩; all_goals refine Stop.of ?_)
        · refine Stop.go ?_
          have hkf : knB M k = false := by rw [HKBK.out, hwn]; rfl
          have HS2 := hid (show knTo M (k + 1) = T by rw [HSN.out, if_neg (by rw [hkf]; decide)])
          have HO2 := hid (own_below HO.out hb2)
          have HB2 := hid (chain HBK.out hb2)
          clear hwn hkf hb2
          go_wp2
          refine ⟨⟨k + 1, by omega, by go_num, ?_, HB2.out⟩, by simp [intOf]; omega⟩
          rw [HS2.out, ← HML.out]; exact HO2.out
        · refine Stop.go ?_
          have hkt : knB M k = true := by rw [HKBK.out, hws]; rfl
          have HS2 := hid (show knTo M (k + 1) = T ++ [(k : Int)] by rw [HSN.out, if_pos hkt])
          have HO2 := hid (own_below HO.out hb2)
          have HB2 := hid (chain HBK.out hb2)
          have M1 := hid (show m + 1 ≤ maxLen by unfold maxLen; omega)
          have M2 := hid (show (m + 1) * 8 ≤ 140737488355328 by omega)
          have M3 := hid (Nat.le_trans HB2.out.size (le_alloc w2 (.cells #[.int .i64 (k : Int)] 3)))
          clear hws hkt hb2
          go_wp2_with (at_builtin; refine wpList_app _ rfl (.tmp 27) (.tmp 29) 31 rfl w1.heap.size 3 (.int .i64 0) 1 8 Try.underlying31 li_int rfl Nat.one_pos (.slice va m vc) m _ rfl (HO2.out.alloc _) (some ⟨w2.heap.size, 0, none⟩) 1 1 [.int .i64 (k : Int)] rfl rfl no_none (one_news w2 _ _) (li_one _) M1.out M2.out M3.out ?_; refine Stop.of ?_)
          refine Stop.go ?_
          intro a3 c3 w3 own3 g3
          have hB3 : Below w1.heap.size w1 w3 := (HB2.out.alloc HB2.out.size _).grown g3 M3.out (fun k hk => (HO2.out.lt k hk).1)
          go_wp2
          refine ⟨⟨k + 1, by omega, by go_num, ?_, hB3⟩, by simp [intOf]; omega⟩
          rw [HS2.out, List.length_append, ← HML.out]
          simpa using own3
      · obtain rfl : k = W := by omega
        obtain ⟨va, vc, rfl⟩ := ownsRow_slice ho
        have HO := hid ho
        have HBK := hid hbk
        clear ho hbk
        go_wp2
        go_ret2
        exact ⟨_, w1.heap.size, rfl, HB1.out.size, HO.out, chain HB1.out HBK.out⟩

set_option maxRecDepth 100000 in
set_option maxHeartbeats 4000000 in
theorem r3Known_c (w : World) (a : Option Addr) (n cap : Nat) (M : Mask) (hn : M.length = n) (hm : n ≤ maxLen) (H : RowsAt w a M) :
    Calls Try.prog 52 #[.slice a n cap] w fun e w' => ∃ v base, e = .returned (.tuple #[v, .int .i64 (okE M)]) ∧ w.heap.size ≤ base ∧ w'.ownsRow base 3 1 v (knownL M).length ((knownL M).map (Value.int .i64)) ∧ Below w.heap.size w w' := by
  have HV := hid (r2Valid_c w a n cap M hn hm H)
  unfold okE knownL
  cases hok : okM M
  · rw [hok] at HV
    simp only [Bool.false_eq_true, if_false]
    clear hn H hok
    go_enter Try.func52, Try.ntmps52
    go_wp2_with (go_at_call 64; refine HV.out.mono ?_; rintro e w1 ⟨rfl, rfl⟩)
    go_ret2
    exact ⟨.slice none 0 0, w.heap.size, rfl, Nat.le_refl _, World.ownsRow_nil _ _ _ _, Below.refl _ _⟩
  · rw [hok] at HV
    simp only [if_true]
    obtain ⟨hM, h1, h6, hc1, hc10⟩ := okM_ok hok
    obtain ⟨b, off, ra, rc, rfl, hb, hc⟩ := rows_head H (by omega)
    have HWT := hid (fun (X : World) (hX : Below w.heap.size w X) (p : Nat) (hp : p < colsM M) => r3known_c X (some ⟨b, off, none⟩) n cap M hn (H.below hX) hok p hp)
    obtain ⟨W, hW⟩ : ∃ W, W = colsM M := ⟨_, rfl⟩
    rw [← hW] at HWT hc hc10 ⊢
    have i0 : (0 : Int) < (n : Int) := by omega
    clear hn H hok hM h1 h6 hW
    go_enter Try.func52, Try.ntmps52
    go_wp2_with (go_at_call 64; refine HV.out.mono ?_; rintro e w1 ⟨rfl, rfl⟩; refine Stop.of ?_)
    refine Stop.go ?_
    clear HV
    go_wp2
    clear hc
    go_loopw [4, 13] (fun v i wr => ∃ k : Nat, k ≤ W ∧ i = .int .i64 k ∧ wr.ownsRow w.heap.size 3 1 v (knTo M k).length ((knTo M k).map (Value.int .i64)) ∧ Below w.heap.size w wr) (fun _ i _ => W - (intOf i).toNat)
    case atStart => exact ⟨0, Nat.zero_le _, rfl, World.ownsRow_nil _ _ _ _, Below.refl _ _⟩
    case round =>
      obtain ⟨k, hk, rfl, ho, hbk⟩ := hrel
      by_cases hlt : k < W
      · have HW1 := hid (HWT.out wr hbk k hlt)
        have hsn := knTo_succ M k
        obtain ⟨T, hT⟩ : ∃ T, T = knTo M k := ⟨_, rfl⟩
        rw [← hT] at ho hsn
        have hTl : T.length ≤ k := by rw [hT]; exact knTo_len M k
        obtain ⟨m, hm⟩ : ∃ m, m = T.length := ⟨_, rfl⟩
        rw [← hm] at ho hTl
        obtain ⟨B, hB⟩ : ∃ B, B = knB M k := ⟨_, rfl⟩
        rw [← hB] at HW1 hsn
        have HSN := hid hsn
        have HO := hid ho
        have HBK := hid hbk
        have HML := hid hm
        obtain ⟨va, vc, rfl⟩ := ownsRow_slice ho
        clear ho hbk hsn hT hm hB
        go_wp2_with (go_at_call 109; refine HW1.out.mono ?_; rintro e w2 ⟨rfl, hb2⟩; refine Stop.of ?_)
        refine Stop.go ?_
        have HO2 := hid (own_below HO.out hb2)
        have HB2 := hid (chain HBK.out hb2)
        clear hb2
        cases B
        · have HS2 := hid (show knTo M (k + 1) = T by rw [HSN.out, if_neg (by decide)])
          go_wp2
          refine ⟨⟨k + 1, by omega, by go_num, ?_, HB2.out⟩, by simp [intOf]; omega⟩
          rw [HS2.out, ← HML.out]; exact HO2.out
        · have HS2 := hid (show knTo M (k + 1) = T ++ [(k : Int)] by rw [HSN.out, if_pos rfl])
          have M1 := hid (show m + 1 ≤ maxLen by unfold maxLen; omega)
          have M2 := hid (show (m + 1) * 8 ≤ 140737488355328 by omega)
          have M3 := hid (Nat.le_trans HB2.out.size (le_alloc w2 (.cells #[.int .i64 (k : Int)] 3)))
          go_wp2_with (at_builtin; refine wpList_app _ rfl (.tmp 19) (.tmp 21) 31 rfl w.heap.size 3 (.int .i64 0) 1 8 Try.underlying31 li_int rfl Nat.one_pos (.slice va m vc) m _ rfl (HO2.out.alloc _) (some ⟨w2.heap.size, 0, none⟩) 1 1 [.int .i64 (k : Int)] rfl rfl no_none (one_news w2 _ _) (li_one _) M1.out M2.out M3.out ?_; refine Stop.of ?_)
          refine Stop.go ?_
          intro a3 c3 w3 own3 g3
          have hB3 : Below w.heap.size w w3 := (HB2.out.alloc HB2.out.size _).grown g3 M3.out (fun k hk => (HO2.out.lt k hk).1)
          go_wp2
          refine ⟨⟨k + 1, by omega, by go_num, ?_, hB3⟩, by simp [intOf]; omega⟩
          rw [HS2.out, List.length_append, ← HML.out]
          simpa using own3
      · obtain rfl : k = W := by omega
        obtain ⟨va, vc, rfl⟩ := ownsRow_slice ho
        have HO := hid ho
        have HBK := hid hbk
        clear ho hbk
        go_wp2
        go_ret2
        exact ⟨_, w.heap.size, rfl, Nat.le_refl _, HO.out, HBK.out⟩
end

section
open Go.RowKit
set_option linter.unusedVariables false

theorem clone_c (w : World) (a : Option Addr) (n cap : Nat) (l : List Int) (hn : l.length = n) (hm : n * 8 ≤ 140737488355328) (H : IntsAt w a l) :
    Calls Try.prog 113 #[.slice a n cap] w fun e w' => ∃ v, e = .returned v ∧ w'.ownsRow w.heap.size 3 1 v n (l.map (Value.int .i64)) ∧ Below w.heap.size w w' := by
  obtain ⟨i0, hi, hz0, hz1, hz2⟩ := info_parts li_int
  have heq := fun (w : World) (a : Option Addr) (n c : Nat) => Lib.run_eql_slice_nil (P := Try.prog) w 31 3 a n c 0 0 Try.underlying31
  cases a with
  | none =>
    have h0 : n = 0 := by
      rcases Nat.eq_zero_or_pos n with h | h
      · exact h
      · obtain ⟨_, _, e, _⟩ := H 0 (by omega); cases e
    subst h0
    have hl : l = [] := List.eq_nil_of_length_eq_zero hn
    subst hl
    clear hn H hm
    go_enter Try.func113, Try.ntmps113
    go_wp2
    go_ret
    exact ⟨_, rfl, World.ownsRow_nil _ _ _ _, Below.refl _ _⟩
  | some ad =>
    have HN := hid hn
    have hnews : ∀ j u, (l.map (Value.int .i64))[j]? = some u → (w.alloc (.cells #[] 3)).cell? (ad.add j) = some u := by
      intro j u hu
      rw [List.getElem?_map] at hu
      obtain ⟨x, hx, rfl⟩ := Option.map_eq_some_iff.1 hu
      obtain ⟨hjl, e⟩ := List.getElem?_eq_some_iff.1 hx
      obtain ⟨b, off, ea, hb, hc⟩ := H j hjl
      cases ea
      rw [Addr.add_lit]
      refine (((Below.refl _ w).alloc (Nat.le_refl _) (.cells #[] 3)).cell (p := ⟨b, off + j, none⟩) hb).trans ?_
      rw [hc, hx]; rfl
    have HNews := hid hnews
    clear hnews H hn
    go_enter Try.func113, Try.ntmps113
    go_wp2_with (at_builtin; refine wpList_append_own _ rfl _ _ 31 rfl w.heap.size 3 i0 (.int .i64 0) 1 8 Try.underlying31 hi hz0 hz1 hz2 rfl (by decide) _ 0 [] rfl (World.ownsRow_made _ _ 0 (Nat.le_refl _) (by unfold maxLen; omega) rfl) ad n cap (l.map (Value.int .i64)) rfl (by rw [List.length_map, HN.out]; omega) HNews.out (ints_one _) (by unfold maxLen; omega) (by omega) (by simp) ?_; intro v' w1 hown' hgrow _)
    go_ret
    refine ⟨_, rfl, by simpa using hown', ((Below.refl _ w).alloc (Nat.le_refl _) _).grown hgrow (by simp) (fun k hk => by cases hk; exact Nat.le_refl _)⟩

theorem pdot_c (w : World) (a a2 : Option Addr) (n cap n2 cap2 : Nat) (r h : List Int) (hn : r.length = n) (hn2 : h.length = n2) (hm : n ≤ 1000) (hle : n ≤ n2) (H : IntsAt w a r) (H2 : IntsAt w a2 h) (hr : BndL 67108864 r) (hh : BndL 67108864 h) :
    Calls Try.prog 111 #[.slice a n cap, .slice a2 n2 cap2] w fun e w' => e = .returned (.int .i64 (dotV r h)) ∧ ∃ k, w' = w.drewN k := by
  have HN := hid hn
  have HN2 := hid hn2
  have HH := hid H
  have HH2 := hid H2
  have HDL := hid (dot_le hr hh)
  have HR := hid hr
  have HHB := hid hh
  have HD := hid (show dotV r h = sm (fun c => vec r c * vec h c) n by unfold dotV; rw [hn])
  clear hn hn2 H H2 hr hh
  go_enter Try.func111, Try.ntmps111
  go_wp2
  go_loopw [5, 10] (fun s i wr => ∃ k : Nat, k ≤ n ∧ i = .int .i64 k ∧ s = .int .i64 (sm (fun c => vec r c * vec h c) k) ∧ ∃ q, wr = w.drewN q) (fun _ i _ => n - (intOf i).toNat)
  case atStart => exact ⟨0, Nat.zero_le _, rfl, rfl, 0, rfl⟩
  case round =>
    obtain ⟨k, hk, rfl, rfl, q, rfl⟩ := hrel
    by_cases hlt : k < n
    · have hkl : k < r.length := by rw [HN.out]; exact hlt
      have hkl2 : k < h.length := by rw [HN2.out]; omega
      obtain ⟨b, off, rfl, hbs, hc⟩ := HH.out k hkl
      obtain ⟨b2, off2, rfl, hbs2, hc2⟩ := HH2.out k hkl2
      have g1 := HR.out.get hkl
      have g2 := HHB.out.get hkl2
      have e1 := HDL.out k
      have e2 := HDL.out (k + 1)
      have es : sm (fun c => vec r c * vec h c) (k + 1) = sm (fun c => vec r c * vec h c) k + r[k]?.getD 0 * h[k]?.getD 0 := rfl
      obtain ⟨x, hx⟩ : ∃ x, x = r[k]?.getD 0 := ⟨_, rfl⟩
      obtain ⟨y, hy⟩ : ∃ x, x = h[k]?.getD 0 := ⟨_, rfl⟩
      rw [← hx] at hc g1 es
      rw [← hy] at hc2 g2 es
      obtain ⟨s0, hs0⟩ : ∃ x, x = sm (fun c => vec r c * vec h c) k := ⟨_, rfl⟩
      rw [← hs0] at es e1 ⊢
      rw [es] at e2
      have e3 := mul_bnd (show -(67108864 : Int) ≤ x ∧ x ≤ 67108864 by omega) (show -(67108864 : Int) ≤ y ∧ y ≤ 67108864 by omega)
      obtain ⟨m, hmm⟩ : ∃ m, m = x * y := ⟨_, rfl⟩
      rw [← hmm] at es e2 e3
      have w1 : IntKind.i64.wrap (x * y) = m := by rw [← hmm]; exact IntWalk.i64_in _ (by omega)
      have w2 : IntKind.i64.wrap (s0 + m) = s0 + m := IntWalk.i64_in _ (by omega)
      have w1' : wrap64 (x * y) = m := by rw [← hmm]; unfold wrap64; omega
      have w2' : wrap64 (s0 + m) = s0 + m := by unfold wrap64; omega
      have HES := hid es
      have i1 : (0 : Int) ≤ (k : Int) := by omega
      have i2 : (k : Int) < (n : Int) := by omega
      have i3 : (k : Int) < (n2 : Int) := by omega
      clear hx hy hs0 hmm es e1 e2 e3 g1 g2 hkl hkl2
      go_wp2
      exact ⟨⟨k + 1, by omega, by go_num, by rw [HES.out], _, rfl⟩, by simp [intOf]; omega⟩
    · obtain rfl : n = k := by omega
      go_wp2
      go_ret
      exact ⟨ret_int HD.out.symm, q, rfl⟩
end

section
open Go.RowKit
set_option linter.unusedVariables false

/-- the weights of a reduced row -/
def confZ (M : Mask) (W q : Nat) : List Int := ((RE M W)[q]?.getD []).drop W
/-- a reading's conflict: the weights of the first row below the pivots that tells -/
def conflictF (M : Mask) (y : List Int) : Option (List Int) :=
  ((List.range' (JP M (colsM M)).length (M.length - (JP M (colsM M)).length)).find? (fun q => decide (dotV (confZ M (colsM M) q) y ≠ 0))).map (confZ M (colsM M))
def ConfPost (M : Mask) (y : List Int) (n : Nat) (e : Ending) (w' : World) : Prop :=
  (conflictF M y = none ∧ e = .returned (.slice none 0 0)) ∨ (∃ z a cap, conflictF M y = some z ∧ e = .returned (.slice (some a) n cap) ∧ IntsAt w' (some a) z)
theorem conf_at {M : Mask} {y : List Int} {q : Nat} (h1 : (JP M (colsM M)).length ≤ q) (h2 : q < M.length) (h3 : dotV (confZ M (colsM M) q) y ≠ 0) (h4 : ∀ i, (JP M (colsM M)).length ≤ i → i < q → dotV (confZ M (colsM M) i) y = 0) :
    conflictF M y = some (confZ M (colsM M) q) := by
  unfold conflictF
  have : (List.range' (JP M (colsM M)).length (M.length - (JP M (colsM M)).length)).find? (fun q => decide (dotV (confZ M (colsM M) q) y ≠ 0)) = some q := by
    rw [List.find?_eq_some_iff_getElem]
    refine ⟨by simpa using h3, q - (JP M (colsM M)).length, by simp; omega, by simp; omega, fun j hj => ?_⟩
    simp only [List.getElem_range', Nat.one_mul]
    have := h4 ((JP M (colsM M)).length + j) (by omega) (by omega)
    simpa using this
  rw [this]; rfl
theorem conf_no {M : Mask} {y : List Int} (h4 : ∀ i, (JP M (colsM M)).length ≤ i → i < M.length → dotV (confZ M (colsM M) i) y = 0) : conflictF M y = none := by
  unfold conflictF
  have : (List.range' (JP M (colsM M)).length (M.length - (JP M (colsM M)).length)).find? (fun q => decide (dotV (confZ M (colsM M) q) y ≠ 0)) = none := by
    rw [List.find?_eq_none]
    intro i hi
    rw [List.mem_range'_1] at hi
    have := h4 i hi.1 (by omega)
    simpa using this
  rw [this]; rfl
/-- the weights are a conflict's -/
theorem confZ_len {M : Mask} (hok : okM M = true) {q : Nat} (hq : q < M.length) : (confZ M (colsM M) q).length = M.length ∧ ∀ i, -720 ≤ vec (confZ M (colsM M) q) i ∧ vec (confZ M (colsM M) q) i ≤ 720 := by
  obtain ⟨hM, _⟩ := okM_ok hok
  have hl : (RE M (colsM M)).length = M.length := by rw [pRed_len, extF_len]
  have hw : ((RE M (colsM M))[q]?.getD []).length = colsM M + M.length := by
    rw [List.getElem?_eq_getElem (by omega)]; exact (hM.einv (colsM M)).wid _ (List.getElem_mem _)
  refine ⟨by unfold confZ; rw [List.length_drop]; omega, fun i => ?_⟩
  unfold confZ
  rw [vec_drop]
  exact hM.re_le q _
theorem confZ_bnd {M : Mask} (hok : okM M = true) {q : Nat} (hq : q < M.length) : BndL 67108864 (confZ M (colsM M) q) :=
  mem_vec (P := fun x => -((67108864 : Nat) : Int) ≤ x ∧ x ≤ ((67108864 : Nat) : Int)) fun c => by have := (confZ_len hok hq).2 c; omega

set_option maxRecDepth 100000 in
set_option maxHeartbeats 4000000 in
theorem conflict_c (w : World) (a a2 : Option Addr) (n cap cap2 : Nat) (M : Mask) (y : List Int) (hn : M.length = n) (hn2 : y.length = n) (H : RowsAt w a M) (H2 : IntsAt w a2 y) (hok : okM M = true) (hmil : milB y = true) :
    Calls Try.prog 110 #[.slice a n cap, .slice a2 n cap2] w fun e w' => Below w.heap.size w w' ∧ ConfPost M y n e w' := by
  have HSN := hid (seen_c w a n cap M hn H hok)
  have HZL := hid (fun q (hq : q < M.length) => confZ_len hok hq)
  have HZB := hid (fun q (hq : q < M.length) => confZ_bnd hok hq)
  have HYB := hid (mil_bnd hmil)
  have HAT := hid (fun q => conf_at (M := M) (y := y) (q := q))
  have HNO := hid (conf_no (M := M) (y := y))
  have HZD := hid (fun q => show confZ M (colsM M) q = ((RE M (colsM M))[q]?.getD []).drop (colsM M) from rfl)
  obtain ⟨hM, h1, h6, hc1, hc10⟩ := okM_ok hok
  obtain ⟨b, off, ra, rc, rfl, hb, hc⟩ := rows_head H (by omega)
  have hKn : (JP M (colsM M)).length ≤ n := by
    have : (JP M (colsM M)).length ≤ M.length := (hM.inv (colsM M)).K_le
    omega
  obtain ⟨W, hW⟩ : ∃ W, W = colsM M := ⟨_, rfl⟩
  rw [← hW] at HSN HZL HZB HAT HNO HZD hM hc1 hc10 hc hKn
  obtain ⟨K, hK⟩ : ∃ K, K = (JP M W).length := ⟨_, rfl⟩
  rw [← hK] at HSN HAT HNO hKn
  have HCC := hid (fun (X : World) (hX : Below w.heap.size w X) => show X.cell? ⟨b, off, none⟩ = some (.slice ra W rc) from (hX.cell (p := ⟨b, off, none⟩) hb).trans hc)
  have HYI := hid (fun (X : World) (hX : Below w.heap.size w X) => H2.below hX)
  have HN := hid hn
  have HN2 := hid hn2
  have i0 : (0 : Int) < (n : Int) := by omega
  have hn6 : n ≤ 6 := by omega
  clear hn hn2 H H2 hok hM h1 h6 hb hc hK hW hmil
  go_enter Try.func110, Try.ntmps110
  go_wp2_with (go_at_call 132; refine HSN.out.mono ?_; rintro e w1 ⟨g0, c0, ja, jc, rfl, hSE, hcc, hJI, hb1⟩; refine Stop.of ?_)
  refine Stop.go ?_
  have HSE := hid hSE
  have HB1 := hid hb1
  clear hSE hJI hb1 HSN
  have i1 : (K : Int) ≤ (n : Int) := by omega
  have i2 : (n : Int) ≤ (c0 : Int) := by omega
  have i3 : (K : Int) ≤ (c0 : Int) := by omega
  have i4 : (0 : Int) ≤ (K : Int) := by omega
  rcases Nat.lt_or_ge K n with hlt | hge
  · have hcK : ¬ (c0 = K) := by omega
    obtain ⟨m, hm⟩ : ∃ m, m = n - K := ⟨_, rfl⟩
    have hmk : n - K = m := hm.symm
    clear hm
    go_wp2
    go_loopw [20] (fun i wr => ∃ t : Nat, t ≤ m ∧ i = .int .i64 t ∧ (∃ q, wr = w1.drewN q) ∧ Hid (∀ q, K ≤ q → q < K + t → dotV (confZ M W q) y = 0)) (fun i _ => m - (intOf i).toNat)
    case atStart => exact ⟨0, Nat.zero_le _, rfl, ⟨0, rfl⟩, hid (fun q h1 h2 => by omega)⟩
    case round =>
      obtain ⟨t, ht, rfl, ⟨q0, rfl⟩, HZ⟩ := hrel
      by_cases htm : t < m
      · obtain ⟨gi, x, hh, hg0, hgi, hri, hrl⟩ := HSE.out (K + t) (by rw [HN.out]; omega)
        rw [HN.out] at hh hrl
        have hqM : K + t < M.length := by rw [HN.out]; omega
        have hzl := (HZL.out (K + t) hqM).1
        have HZE := hid (ints_drop (W := W) hri)
        rw [← HZD.out] at HZE
        have HZB2 := hid (HZB.out (K + t) hqM)
        have HAT2 := hid (fun (h : dotV (confZ M W (K + t)) y ≠ 0) => HAT.out (K + t) (by omega) hqM h (fun i h1 h2 => HZ.out i h1 (by omega)))
        have HNX := hid (fun (h : dotV (confZ M W (K + t)) y = 0) => show ∀ q, K ≤ q → q < K + (t + 1) → dotV (confZ M W q) y = 0 from fun q h1 h2 => by
          rcases Nat.lt_or_ge q (K + t) with h3 | h3
          · exact HZ.out q h1 h3
          · obtain rfl : q = K + t := by omega
            exact h)
        obtain ⟨Z, hZ⟩ : ∃ Z, Z = confZ M W (K + t) := ⟨_, rfl⟩
        rw [← hZ] at hzl HZE HZB2 HAT2 HNX
        rw [HN.out] at hzl
        have hm1 := HCC.out (w1.drewN q0) (below_drewN HB1.out q0)
        have hh2 : (w1.drewN q0).cell? ⟨g0, K + t, none⟩ = some (.slice (some ⟨gi, 0, none⟩) (W + n) (W + n + x)) := hh
        have HDT := hid (fun (X : World) (hX : Below w1.heap.size w1 X) => pdot_c X (some ⟨gi, 0 + W, none⟩) a2 n (W + n + x - W) n cap2 Z y hzl HN2.out (by omega) (Nat.le_refl _) (HZE.out.below hX) (HYI.out X (chain HB1.out hX)) HZB2.out HYB.out)
        have HZE2 := hid (fun (X : World) (hX : Below w1.heap.size w1 X) => HZE.out.below hX)
        obtain ⟨d, hd⟩ : ∃ d, d = dotV Z y := ⟨_, rfl⟩
        rw [← hd] at HDT HAT2 HNX
        have HZL2 := hid hzl
        rw [Nat.zero_add] at HDT HZE2
        obtain ⟨L, hL⟩ : ∃ L, L = W + n := ⟨_, rfl⟩
        rw [← hL] at hh2 HDT
        obtain ⟨C, hC⟩ : ∃ C, C = L + x := ⟨_, rfl⟩
        rw [← hC] at hh2 HDT
        have hLn : L - W = n := by omega
        have j1 : (W : Int) ≤ (L : Int) := by omega
        have j2 : (L : Int) ≤ (C : Int) := by omega
        have j3 : (W : Int) ≤ (C : Int) := by omega
        have j4 : ¬ (C = W) := by omega
        have j5 : (t : Int) < (m : Int) := by omega
        have j0 : (0 : Int) ≤ (W : Int) := by omega
        clear hh hri hrl hgi hzl hZ hd hL hC HZE hqM
        have hb0 : Below w1.heap.size w1 (w1.drewN q0) := below_drewN (Below.refl _ _) q0
        have HDT2 := hid (HDT.out _ hb0)
        go_wp2_with (go_at_call 111; refine HDT2.out.mono ?_; rintro e w3 ⟨rfl, k3, rfl⟩; refine Stop.of ?_)
        refine Stop.go ?_
        have hb3 : Below w1.heap.size w1 (w1.drewN (q0 + k3)) := below_drewN (Below.refl _ _) (q0 + k3)
        by_cases h0 : d = 0
        · have hd0 : (d != 0) = false := by simpa using h0
          have HX := hid (HNX.out h0)
          clear HNX HAT2 HDT HDT2
          go_wp2
          exact ⟨⟨t + 1, by omega, by go_num, ⟨_, rfl⟩, HX⟩, by simp [intOf]; omega⟩
        · have hd0 : (d != 0) = true := by simpa using h0
          have HX := hid (HAT2.out h0)
          have HCL := hid (clone_c (w1.drewN (q0 + k3)) (some ⟨gi, W, none⟩) n (C - W) Z HZL2.out (by omega) (HZE2.out _ hb3))
          clear HNX HAT2 HDT HDT2
          go_wp2_with (go_at_call 113; refine HCL.out.mono ?_; rintro e w4 ⟨v4, rfl, ho4, hb4⟩; refine Stop.of ?_)
          refine Stop.go ?_
          obtain ⟨g4, c4, rfl, _, hs4⟩ := spRow_own ho4 HZL2.out (by omega)
          have hbf := chain HB1.out (chain hb3 hb4)
          have HI4 := hid hs4.ints
          clear ho4 hs4
          go_wp2
          go_ret
          exact ⟨hbf, Or.inr ⟨Z, _, c4, HX.out, rfl, HI4.out⟩⟩
      · obtain rfl : t = m := by omega
        have HX := hid (HNO.out fun i h1 h2 => HZ.out i h1 (by have := HN.out; omega))
        go_wp2
        go_ret
        exact ⟨below_drewN HB1.out q0, Or.inl ⟨HX.out, rfl⟩⟩
  · obtain rfl : K = n := by omega
    have HZ := hid (HNO.out fun i h1 h2 => by have := HN.out; omega)
    by_cases hcK : c0 = K
    all_goals
      go_wp2
      trace_state
      go_loop [20] (fun i => i = .int .i64 0) (fun i => 0)
      case atStart => rfl
      case round =>
        subst hrel
        go_wp2
        go_ret
        exact ⟨HB1.out, Or.inl ⟨HZ.out, rfl⟩⟩
end

section
open Go.RowKit
set_option linter.unusedVariables false

def WeightPost (M : Mask) (p : Int) (n : Nat) (e : Ending) (w' : World) : Prop :=
  (pixE M [p] ≠ 0 ∧ e = .returned (.tuple #[.slice none 0 0, .int .i64 (pixE M [p])])) ∨
  (pixE M [p] = 0 ∧ ∃ q : Nat, p = (q : Int) ∧ q < colsM M ∧ ((weightF M (colsM M) q = none ∧ e = .returned (.tuple #[.slice none 0 0, .int .i64 8])) ∨
    (∃ z c a cap, weightF M (colsM M) q = some (z, c) ∧ e = .returned (.tuple #[.slice a n cap, .int .i64 0]) ∧ IntsAt w' a z)))
theorem pix_oneK {M : Mask} {p : Int} (h : pixE M [p] = 0) : okM M = true ∧ ∃ q : Nat, p = (q : Int) ∧ q < colsM M := by
  obtain ⟨h1, h2⟩ := pix_ok h
  have := h2.2 p (by simp)
  exact ⟨h1, p.toNat, by omega, by omega⟩

set_option maxRecDepth 100000 in
set_option maxHeartbeats 4000000 in
theorem lweight_c (w : World) (a : Option Addr) (n cap : Nat) (M : Mask) (hn : M.length = n) (hm : n ≤ maxLen) (H : RowsAt w a M) (p : Int) :
    Calls Try.prog 55 #[.slice a n cap, .int .i64 p] w fun e w' => Below w.heap.size w w' ∧ WeightPost M p n e w' := by
  obtain ⟨wf, hwf⟩ : ∃ wf, wf = w.alloc (.cells #[.int .i64 p] 3) := ⟨_, rfl⟩
  have hb0 : Below w.heap.size w wf := by rw [hwf]; exact (Below.refl _ _).alloc (Nat.le_refl _) _
  have hI : IntsAt wf (some ⟨w.heap.size, 0, none⟩) [p] := by
    intro j hj
    obtain rfl : j = 0 := by simpa using hj
    exact ⟨w.heap.size, 0, rfl, by rw [hwf]; simp, by rw [hwf, World.cell?_alloc_at _ _ _ _ rfl]; rfl⟩
  have HP := hid (pixels_c wf a (some ⟨w.heap.size, 0, none⟩) n cap 1 1 M [p] hn rfl hm (by decide) (H.below hb0) hI)
  have HB0 := hid hb0
  by_cases hp : pixE M [p] = 0
  · obtain ⟨hok, q, rfl, hq⟩ := pix_oneK hp
    have HWT := hid (fun (X : World) (hX : Below w.heap.size w X) => weight_c X a n cap M hn (H.below hX) hok q hq)
    have HPO := hid (show ∀ e w', (weightF M (colsM M) q = none ∧ e = .returned (.tuple #[.slice none 0 0, .int .i64 8])) ∨ (∃ z c a cap, weightF M (colsM M) q = some (z, c) ∧ e = .returned (.tuple #[.slice a n cap, .int .i64 0]) ∧ IntsAt w' a z) → WeightPost M (q : Int) n e w' from fun e w' h => Or.inr ⟨hp, q, rfl, hq, h⟩)
    have HZL := hid (fun z c (e : weightF M (colsM M) q = some (z, c)) => show z.length = n from by
      obtain ⟨hM, _⟩ := okM_ok hok
      rw [← hn]; exact (hM.weight e).1)
    have hn6 : n ≤ 6 := by obtain ⟨_, _, h6, _⟩ := okM_ok hok; omega
    rw [hp] at HP
    obtain ⟨P, hP⟩ : ∃ P : Ending → World → Prop, P = WeightPost M (q : Int) n := ⟨_, rfl⟩
    have hpe : (fun (e : Ending) (w' : World) => Below w.heap.size w w' ∧ WeightPost M (q : Int) n e w') = fun e w' => Below w.heap.size w w' ∧ P e w' := by rw [hP]
    rw [← hP] at HPO ⊢
    clear hn H hok hp hI hb0 hP hpe
    go_enter Try.func55, Try.ntmps55
    go_wp2_with fail
    rw [← hwf]
    clear hwf
    go_wp2_with (go_at_call 84; refine HP.out.mono ?_; rintro e w1 ⟨rfl, hb1⟩; refine Stop.of ?_)
    refine Stop.go ?_
    have HB1 := hid (chain HB0.out hb1)
    clear hb1 HP
    go_wp2_with (go_at_call 83; refine (HWT.out w1 HB1.out).mono ?_; rintro e w2 ⟨hb2, hpost⟩; rcases hpost with ⟨hwn, rfl⟩ | ⟨z, c, aa, cap', hws, rfl, hzi⟩; all_goals refine Stop.of ?_)
    · refine Stop.go ?_
      have HB2 := hid (chain HB1.out hb2)
      have HWN := hid hwn
      clear hwn hb2
      go_wp2
      go_ret2
      exact ⟨HB2.out, HPO.out _ _ (.inl ⟨HWN.out, rfl⟩)⟩
    · refine Stop.go ?_
      have HB2 := hid (chain HB1.out hb2)
      have HWS := hid hws
      have hzl := HZL.out z c hws
      have HCL := hid (clone_c w2 aa n cap' z hzl (by omega) hzi)
      have HZ := hid hzl
      clear hws hb2 hzl hzi
      go_wp2_with (go_at_call 113; refine HCL.out.mono ?_; rintro e w4 ⟨v4, rfl, ho4, hb4⟩; refine Stop.of ?_)
      refine Stop.go ?_
      obtain ⟨a4, c4, rfl, hi4, _⟩ := ints_of_own ho4 HZ.out
      have HI4 := hid hi4
      have HB4 := hid (chain HB2.out hb4)
      clear ho4 hi4 hb4
      go_wp2
      go_ret2
      exact ⟨HB4.out, HPO.out _ _ (.inr ⟨z, c, a4, c4, HWS.out, rfl, HI4.out⟩)⟩
  · have HPO := hid (show ∀ e w', e = .returned (.tuple #[.slice none 0 0, .int .i64 (pixE M [p])]) → WeightPost M p n e w' from fun e w' h => Or.inl ⟨hp, h⟩)
    obtain ⟨P, hP⟩ : ∃ P : Ending → World → Prop, P = WeightPost M p n := ⟨_, rfl⟩
    rw [← hP] at HPO ⊢
    obtain ⟨E, hE⟩ : ∃ E, E = pixE M [p] := ⟨_, rfl⟩
    rw [← hE] at HP HPO hp
    have hpb : (E != 0) = true := by simpa using hp
    clear hn H hI hb0 hP hE
    go_enter Try.func55, Try.ntmps55
    go_wp2_with fail
    rw [← hwf]
    clear hwf
    go_wp2_with (go_at_call 84; refine HP.out.mono ?_; rintro e w1 ⟨rfl, hb1⟩)
    go_ret2
    exact ⟨chain HB0.out hb1, HPO.out _ _ rfl⟩

/-- the value of a pixel, and the error -/
def valueV (M : Mask) (y : List Int) (p : Int) : Rt × Int :=
  if checkE M y [p] = 0 then
    match weightF M (colsM M) p.toNat with
    | none => ((0, 0), 8)
    | some (z, c) => match conflictF M y with
      | some _ => ((0, 0), 10)
      | none => (ofF (dotV z y) c, 0)
  else ((0, 0), checkE M y [p])
theorem dot_bnd {z y : List Int} (hz : ∀ i, -720 ≤ vec z i ∧ vec z i ≤ 720) (hl : z.length ≤ 6) (hy : milB y = true) : -4320000000 ≤ dotV z y ∧ dotV z y ≤ 4320000000 := by
  have key : ∀ k : Nat, (sm (fun c => vec z c * vec y c) k).natAbs ≤ k * 720000000 := by
    intro k
    induction k with
    | zero => simp [sm]
    | succ k ih =>
      have h1 := hz k
      have h2 := vec_mem (P := fun x => -1000000 ≤ x ∧ x ≤ 1000000) (by decide) (fun x hx => by have := mil_bnd6 hy x hx; omega) k
      have h3 := mul_bnd (show -(720 : Int) ≤ vec z k ∧ vec z k ≤ 720 by omega) (show -(1000000 : Int) ≤ vec y k ∧ vec y k ≤ 1000000 by omega)
      show (sm (fun c => vec z c * vec y c) k + vec z k * vec y k).natAbs ≤ _
      omega
  have := key z.length
  have h2 : dotV z y = sm (fun c => vec z c * vec y c) z.length := rfl
  rw [h2]
  omega
end
end
end Go.Proofs.Ytfipebkhomppmaa
