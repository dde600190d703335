/- Walks and plain laws for DualScalesRow, part 11. -/
import Derived.Test.YtlffndehhhpgjaaGreatPkDualScalesRow10
namespace Go.Proofs.YtlffndehhhpgjaaGreat
set_option linter.unusedVariables false
set_option linter.unusedSimpArgs false

def valF (M : Mask) (y : List Int) : Rt := (scanC (fitsF M y 10)).1
theorem fits_valid {M : Mask} {y : List Int} (hM : okM M = true) (hy : y.length = M.length) (hmil : milB y = true) : ∀ f ∈ fitsF M y 10, 0 < (nrmQ f.2).2 ∧ validR (normF f) = true := fun f hf => by
  obtain ⟨_, _, _, _, h1, h2, _⟩ := sol_of_fit hM hy hmil hf
  exact ⟨h1, h2⟩
theorem normF_val {f : FitT} (h : 0 < (nrmQ f.2).2) : (normF f).1 * (nrmQ f.2).2 = (nrmQ f.2).1 * (normF f).2 ∧ 0 < (normF f).2 := by
  obtain ⟨g, a, b, e, hg, hb, e1, e2, _⟩ := low_facts (n := (nrmQ f.2).1) h
  unfold normF
  rw [e]
  refine ⟨?_, hb⟩
  show a * (nrmQ f.2).2 = (nrmQ f.2).1 * b
  rw [e1, e2]; grind
structure OptN (M : Mask) (y : List Int) (v : Rt) : Prop where
  valid : validR v = true
  le : ∀ (l : Nat → Int) (D : Int), SolM M (colsM M) y l D → v.1 * D ≤ nrmI l (colsM M) * v.2
  at_ : ∃ (l : Nat → Int) (D : Int), SolM M (colsM M) y l D ∧ v.1 * D = nrmI l (colsM M) * v.2
theorem OptN.pos {M : Mask} {y : List Int} {v : Rt} (h : OptN M y v) : 0 < v.2 := by have := validR_iff.1 h.valid; omega
theorem OptN.uniq {M : Mask} {y : List Int} {v u : Rt} (h : OptN M y v) (k : OptN M y u) : v = u := by
  refine low_eq h.valid k.valid ?_
  have key : ∀ {a b : Rt}, OptN M y a → OptN M y b → a.1 * b.2 ≤ b.1 * a.2 := fun {a b} ha hb => by
    obtain ⟨l, D, hl, e⟩ := hb.at_
    have h1 := ha.le l D hl
    have pb := hb.pos
    have pD := hl.1
    have h2 : a.1 * D * b.2 ≤ nrmI l (colsM M) * a.2 * b.2 := Int.mul_le_mul_of_nonneg_right h1 (by omega)
    have h3 : nrmI l (colsM M) * a.2 * b.2 = b.1 * D * a.2 := by rw [e]; grind
    have h4 : a.1 * b.2 * D ≤ b.1 * a.2 * D := by
      have e1 : a.1 * b.2 * D = a.1 * D * b.2 := by grind
      have e2 : b.1 * a.2 * D = b.1 * D * a.2 := by grind
      omega
    exact Int.le_of_mul_le_mul_right h4 pD
  have h1 := key h k
  have h2 := key k h
  omega
theorem opt_of_fits {M : Mask} {y : List Int} (hM : okM M = true) (hy : y.length = M.length) (hmil : milB y = true) (hne : fitsF M y 10 ≠ []) : OptN M y (valF M y) := by
  have hv := fits_valid hM hy hmil
  obtain ⟨_, h2⟩ := scan_facts (fitsF M y 10) (fun f hf => (hv f hf).2)
  obtain ⟨_, ⟨f, hf, ef⟩, hle, _⟩ := h2 hne
  have hvf := hv f hf
  have hnv := normF_val hvf.1
  have pv : 0 < (valF M y).2 := by unfold valF; rw [ef]; exact hnv.2
  refine ⟨by unfold valF; rw [ef]; exact hvf.2, fun l D hl => ?_, ?_⟩
  · obtain ⟨g, hg, pg, hgl⟩ := fits_least hM hy hmil hl
    have h1 := hle g hg
    have hng := normF_val pg
    have h3 : (valF M y).1 * (nrmQ g.2).2 ≤ (nrmQ g.2).1 * (valF M y).2 := by
      have a1 : (valF M y).1 * (normF g).2 * (nrmQ g.2).2 ≤ (normF g).1 * (valF M y).2 * (nrmQ g.2).2 := Int.mul_le_mul_of_nonneg_right h1 (by omega)
      have a2 : (normF g).1 * (valF M y).2 * (nrmQ g.2).2 = (nrmQ g.2).1 * (valF M y).2 * (normF g).2 := by
        have : (normF g).1 * (valF M y).2 * (nrmQ g.2).2 = (normF g).1 * (nrmQ g.2).2 * (valF M y).2 := by grind
        rw [this, hng.1]; grind
      have a3 : (valF M y).1 * (nrmQ g.2).2 * (normF g).2 ≤ (nrmQ g.2).1 * (valF M y).2 * (normF g).2 := by
        have : (valF M y).1 * (nrmQ g.2).2 * (normF g).2 = (valF M y).1 * (normF g).2 * (nrmQ g.2).2 := by grind
        omega
      exact Int.le_of_mul_le_mul_right a3 hng.2
    have h4 : (valF M y).1 * (nrmQ g.2).2 * D ≤ (nrmQ g.2).1 * (valF M y).2 * D := Int.mul_le_mul_of_nonneg_right h3 (by have := hl.1; omega)
    have h5 : (nrmQ g.2).1 * D * (valF M y).2 ≤ nrmI l (colsM M) * (nrmQ g.2).2 * (valF M y).2 := Int.mul_le_mul_of_nonneg_right hgl (by omega)
    have h6 : (valF M y).1 * D * (nrmQ g.2).2 ≤ nrmI l (colsM M) * (valF M y).2 * (nrmQ g.2).2 := by
      have e1 : (valF M y).1 * D * (nrmQ g.2).2 = (valF M y).1 * (nrmQ g.2).2 * D := by grind
      have e2 : (nrmQ g.2).1 * (valF M y).2 * D = (nrmQ g.2).1 * D * (valF M y).2 := by grind
      have e3 : nrmI l (colsM M) * (valF M y).2 * (nrmQ g.2).2 = nrmI l (colsM M) * (nrmQ g.2).2 * (valF M y).2 := by grind
      omega
    exact Int.le_of_mul_le_mul_right h6 pg
  · obtain ⟨_, _, _, _, _, _, _, l, D, hl, _, _, _, hn⟩ := sol_of_fit hM hy hmil hf
    refine ⟨l, D, hl, ?_⟩
    have e1 : (valF M y).1 * (nrmQ f.2).2 = (nrmQ f.2).1 * (valF M y).2 := by unfold valF; rw [ef]; exact hnv.1
    have e2 : (valF M y).1 * D * (nrmQ f.2).2 = nrmI l (colsM M) * (valF M y).2 * (nrmQ f.2).2 := by
      have a1 : (valF M y).1 * D * (nrmQ f.2).2 = (valF M y).1 * (nrmQ f.2).2 * D := by grind
      have a2 : (nrmQ f.2).1 * (valF M y).2 * D = (nrmQ f.2).1 * D * (valF M y).2 := by grind
      rw [a1, e1, a2, hn]; grind
    exact Int.eq_of_mul_eq_mul_right (by have := hvf.1; omega) e2
theorem fits_iff {M : Mask} {y : List Int} (hM : okM M = true) (hy : y.length = M.length) (hmil : milB y = true) : fitsF M y 10 ≠ [] ↔ ∃ (l : Nat → Int) (D : Int), SolM M (colsM M) y l D := by
  constructor
  · intro h
    obtain ⟨f, t, e⟩ := List.exists_cons_of_ne_nil h
    obtain ⟨_, _, _, _, _, _, _, l, D, hl, _⟩ := sol_of_fit hM hy hmil (show f ∈ fitsF M y 10 by rw [e]; simp)
    exact ⟨l, D, hl⟩
  · rintro ⟨l, D, hl⟩ e
    obtain ⟨f, hf, _⟩ := fits_least hM hy hmil hl
    rw [e] at hf; cases hf
def timesY (y : List Int) (t : Int) : List Int := y.map (fun n => n * t)
theorem vec_timesY (y : List Int) (t : Int) (q : Nat) : vec (timesY y t) q = vec y q * t := by
  unfold vec timesY
  rw [List.getElem?_map]
  cases y[q]? <;> simp
theorem SolM.times {M : Mask} {n : Nat} {y : List Int} {l : Nat → Int} {D : Int} (h : SolM M n y l D) (t : Int) : SolM M n (timesY y t) (fun j => t * l j) D := by
  refine ⟨h.1, fun q hq => ?_⟩
  have h1 := h.2 q hq
  have e : sm (fun i => rowv M q i * (t * l i)) n = t * sm (fun i => rowv M q i * l i) n := by
    rw [← sm_mul]; exact sm_congr fun k _ => by grind
  rw [e, h1, vec_timesY]; grind
theorem nrmI_times (t : Int) (l : Nat → Int) : ∀ n, nrmI (fun j => t * l j) n = (t.natAbs : Int) * nrmI l n
  | 0 => by simp [nrmI, sm]
  | n + 1 => by
    have ih := nrmI_times t l n
    show nrmI (fun j => t * l j) n + ((t * l n).natAbs : Int) = (t.natAbs : Int) * (nrmI l n + ((l n).natAbs : Int))
    rw [ih, Int.natAbs_mul, Int.natCast_mul, Int.mul_add]
theorem timesY_back {y : List Int} : timesY (timesY y (-1)) (-1) = y := by
  unfold timesY
  rw [List.map_map]
  conv => rhs; rw [← List.map_id y]
  exact List.map_congr_left fun n _ => by simp
theorem opt_neg {M : Mask} {y : List Int} {v : Rt} (h : OptN M y v) : OptN M (timesY y (-1)) v := by
  refine ⟨h.valid, fun l D hl => ?_, ?_⟩
  · have h1 := hl.times (-1)
    rw [timesY_back] at h1
    have h2 := h.le _ _ h1
    rw [nrmI_times] at h2
    have e1 : (((-1 : Int).natAbs : Nat) : Int) = 1 := rfl
    rw [e1, Int.one_mul] at h2
    exact h2
  · obtain ⟨l, D, hl, e⟩ := h.at_
    refine ⟨_, D, hl.times (-1), ?_⟩
    have e1 : (((-1 : Int).natAbs : Nat) : Int) = 1 := rfl
    rw [nrmI_times, e, e1, Int.one_mul]
theorem opt_times {M : Mask} {y : List Int} {t : Int} (ht : 0 < t) {v u : Rt} (h : OptN M y v) (k : OptN M (timesY y t) u) : u.1 * v.2 = t * v.1 * u.2 := by
  have pv := h.pos
  have pu := k.pos
  obtain ⟨l, D, hl, e⟩ := h.at_
  have h1 := k.le _ _ (hl.times t)
  rw [nrmI_times, show (t.natAbs : Int) = t by omega] at h1
  have h2 : u.1 * v.2 * D ≤ t * v.1 * u.2 * D := by
    have a1 : u.1 * D * v.2 ≤ t * nrmI l (colsM M) * u.2 * v.2 := Int.mul_le_mul_of_nonneg_right h1 (by omega)
    have a2 : t * nrmI l (colsM M) * u.2 * v.2 = t * (nrmI l (colsM M) * v.2) * u.2 := by grind
    rw [a2, ← e] at a1
    have a3 : u.1 * v.2 * D = u.1 * D * v.2 := by grind
    have a4 : t * v.1 * u.2 * D = t * (v.1 * D) * u.2 := by grind
    omega
  have h3 : u.1 * v.2 ≤ t * v.1 * u.2 := Int.le_of_mul_le_mul_right h2 hl.1
  obtain ⟨m, E, hm, e'⟩ := k.at_
  -- a solution of the greater reading, with a lower part t times as great, is one of the lesser
  have hm2 : SolM M (colsM M) y m (t * E) := ⟨Int.mul_pos ht hm.1, fun q hq => by rw [hm.2 q hq, vec_timesY]; grind⟩
  have h4 := h.le _ _ hm2
  have h5 : t * v.1 * u.2 * E ≤ u.1 * v.2 * E := by
    have a1 : v.1 * (t * E) * u.2 ≤ nrmI m (colsM M) * v.2 * u.2 := Int.mul_le_mul_of_nonneg_right h4 (by omega)
    have a2 : nrmI m (colsM M) * v.2 * u.2 = (nrmI m (colsM M) * u.2) * v.2 := by grind
    rw [a2, ← e'] at a1
    have a3 : t * v.1 * u.2 * E = v.1 * (t * E) * u.2 := by grind
    have a4 : u.1 * v.2 * E = u.1 * E * v.2 := by grind
    omega
  have h6 : t * v.1 * u.2 ≤ u.1 * v.2 := Int.le_of_mul_le_mul_right h5 hm.1
  omega
def sumY (y z : List Int) : List Int := List.zipWith (· + ·) y z
theorem vec_sumY {y z : List Int} (h : y.length = z.length) (q : Nat) : vec (sumY y z) q = vec y q + vec z q := by
  unfold vec sumY
  rw [List.getElem?_zipWith]
  rcases Nat.lt_or_ge q y.length with c | c
  · rw [List.getElem?_eq_getElem c, List.getElem?_eq_getElem (by omega)]; rfl
  · rw [List.getElem?_eq_none c, List.getElem?_eq_none (by omega)]; rfl
theorem nrmI_add (l m : Nat → Int) : ∀ n, nrmI (fun j => l j + m j) n ≤ nrmI l n + nrmI m n
  | 0 => by simp [nrmI, sm]
  | n + 1 => by
    have ih := nrmI_add l m n
    show nrmI (fun j => l j + m j) n + ((l n + m n).natAbs : Int) ≤ (nrmI l n + ((l n).natAbs : Int)) + (nrmI m n + ((m n).natAbs : Int))
    omega
theorem SolM.sum {M : Mask} {n : Nat} {y z : List Int} {l m : Nat → Int} {D E : Int} (hyz : y.length = z.length) (h : SolM M n y l D) (k : SolM M n z m E) : SolM M n (sumY y z) (fun j => E * l j + D * m j) (D * E) := by
  refine ⟨Int.mul_pos h.1 k.1, fun q hq => ?_⟩
  have e : sm (fun i => rowv M q i * (E * l i + D * m i)) n = E * sm (fun i => rowv M q i * l i) n + D * sm (fun i => rowv M q i * m i) n := by
    rw [← sm_mul, ← sm_mul, ← sm_add]; exact sm_congr fun k _ => by grind
  rw [e, h.2 q hq, k.2 q hq, vec_sumY hyz]; grind
theorem opt_sum {M : Mask} {y z : List Int} (hyz : y.length = z.length) {v u s : Rt} (h : OptN M y v) (k : OptN M z u) (hs : OptN M (sumY y z) s) : s.1 * (v.2 * u.2) ≤ (v.1 * u.2 + u.1 * v.2) * s.2 := by
  have pv := h.pos
  have pu := k.pos
  have ps := hs.pos
  obtain ⟨l, D, hl, e⟩ := h.at_
  obtain ⟨m, E, hm, e'⟩ := k.at_
  have h1 := hs.le _ _ (hl.sum hyz hm)
  have h2 := nrmI_add (fun j => E * l j) (fun j => D * m j) (colsM M)
  rw [nrmI_times, nrmI_times, show (E.natAbs : Int) = E by have := hm.1; omega, show (D.natAbs : Int) = D by have := hl.1; omega] at h2
  have h3 : s.1 * (D * E) ≤ (E * nrmI l (colsM M) + D * nrmI m (colsM M)) * s.2 := Int.le_trans h1 (Int.mul_le_mul_of_nonneg_right h2 (by omega))
  have pDE : 0 < D * E := Int.mul_pos hl.1 hm.1
  have pvu : 0 < v.2 * u.2 := Int.mul_pos pv pu
  have h4 : s.1 * (v.2 * u.2) * (D * E) ≤ (v.1 * u.2 + u.1 * v.2) * s.2 * (D * E) := by
    have a1 : s.1 * (D * E) * (v.2 * u.2) ≤ (E * nrmI l (colsM M) + D * nrmI m (colsM M)) * s.2 * (v.2 * u.2) := Int.mul_le_mul_of_nonneg_right h3 (by omega)
    have a2 : (E * nrmI l (colsM M) + D * nrmI m (colsM M)) * s.2 * (v.2 * u.2) = (E * u.2 * (nrmI l (colsM M) * v.2) + D * v.2 * (nrmI m (colsM M) * u.2)) * s.2 := by grind
    rw [a2, ← e, ← e'] at a1
    have a3 : s.1 * (v.2 * u.2) * (D * E) = s.1 * (D * E) * (v.2 * u.2) := by grind
    have a4 : (v.1 * u.2 + u.1 * v.2) * s.2 * (D * E) = (E * u.2 * (v.1 * D) + D * v.2 * (u.1 * E)) * s.2 := by grind
    omega
  exact Int.le_of_mul_le_mul_right h4 pDE
end Go.Proofs.YtlffndehhhpgjaaGreat

namespace Go.Proofs.YtlffndehhhpgjaaGreat
open Go.RowKit
set_option linter.unusedVariables false
set_option linter.unusedSimpArgs false

set_option maxRecDepth 100000 in
set_option maxHeartbeats 40000000 in
theorem sratio_c (w : World) (n d : Int) (hn : -170141183460469231731687303715884105728 < n ∧ n < 170141183460469231731687303715884105728) (hd : 0 < d ∧ d < 166153499473114484112975882535043072) :
    Calls Tryz.prog 83 #[sumV n d] w fun e w' => RatioR n d e ∧ Below w.heap.size w w' := by
  obtain ⟨N, hN⟩ : ∃ N : Int, N = (n.natAbs : Int) := ⟨_, rfl⟩
  obtain ⟨n1, n2, pn⟩ := WP.ex n
  obtain ⟨d1, d2, pd⟩ := WP.ex d
  obtain ⟨m1, m2, pm⟩ := WP.ex N
  obtain ⟨q1, q2, pq⟩ := WP.ex (N / d)
  obtain ⟨r1, r2, pr⟩ := WP.ex (N % d)
  have HSG := hid (show ∀ X : World, Calls Tryz.prog 148 #[.agg #[.int .i64 n1, .int .u64 n2]] X fun e w' => e = .returned (.int .i64 (cmpI n 0)) ∧ Below X.heap.size X w' from fun X => by
    have := wsign_c X n hn
    rw [pn.val] at this; exact this)
  have HOP := hid (show n < 0 → ∀ X : World, Calls Tryz.prog 149 #[.agg #[.int .i64 n1, .int .u64 n2]] X fun e w' => e = .returned (.agg #[.int .i64 m1, .int .u64 m2]) ∧ Below X.heap.size X w' from fun h X => by
    have := wopp_c X n hn
    rw [pn.val, show -n = N by omega, pm.val] at this; exact this)
  have HOV := hid (show ∀ X : World, Calls Tryz.prog 150 #[.agg #[.int .i64 m1, .int .u64 m2], .agg #[.int .i64 d1, .int .u64 d2]] X fun e w' => e = .returned (.tuple #[.agg #[.int .i64 q1, .int .u64 q2], .agg #[.int .i64 r1, .int .u64 r2]]) ∧ Below X.heap.size X w' from fun X => by
    have := wover_c X N d (by omega) (by omega)
    rw [pm.val, pd.val, pq.val, pr.val] at this; exact this)
  have hmn : ¬ n < 0 → m1 = n1 ∧ m2 = n2 := fun h => by
    have e : N = n := by omega
    rw [pm.1, pm.2, pn.1, pn.2, e]; exact ⟨rfl, rfl⟩
  rw [pn.sum pd]
  obtain ⟨s, hs⟩ : ∃ s, s = w.heap.size := ⟨_, rfl⟩
  obtain ⟨wz, hwz⟩ : ∃ wz, wz = ((w.alloc (.cells #[.int .i64 n1, .int .u64 n2, .int .i64 d1, .int .u64 d2] 102)).alloc (.cells #[.int .i64 0, .int .i64 0] 29)).alloc (.cells #[.int .i64 n1, .int .u64 n2] 100) := ⟨_, rfl⟩
  have hsz : wz.heap.size = s + 3 := by rw [hwz, hs]; simp
  have SZ : SumB wz s n d := by
    rw [hwz, hs]
    exact ((SumB.made w pn pd).keep (Below.heap_alloc _ _ _ (by simp))).keep (Below.heap_alloc _ _ _ (by simp; omega))
  have RZ : wz.heap[s + 1]? = some (.cells #[.int .i64 0, .int .i64 0] 29 (0, 0)) := by
    have h := World.alloc_heap_new (w.alloc (.cells #[.int .i64 n1, .int .u64 n2, .int .i64 d1, .int .u64 d2] 102)) (.cells #[.int .i64 0, .int .i64 0] 29)
    rw [World.size_alloc] at h
    rw [hwz, hs, Below.heap_alloc _ _ _ (by simp)]
    exact h
  have NZ : WideI wz (s + 2) n := by
    have h := WideI.made ((w.alloc (.cells #[.int .i64 n1, .int .u64 n2, .int .i64 d1, .int .u64 d2] 102)).alloc (.cells #[.int .i64 0, .int .i64 0] 29)) pn
    rw [World.size_alloc, World.size_alloc] at h
    rw [hwz, hs]
    exact h
  have BZ : Below w.heap.size w wz := by rw [hwz]; exact (((Below.refl _ _).alloc (Nat.le_refl _) _).alloc (by simp) _).alloc (by simp; omega) _
  have HSZ := hid hsz
  have HS := hid SZ
  have HR := hid RZ
  have HN0 := hid NZ
  have HB := hid BZ
  have PN := hid pn
  have PD := hid pd
  have PM := hid pm
  have PQ := hid pq
  have PR := hid pr
  have HNE := hid hN
  have HSV := hid hs
  have HND := hid (And.intro hn hd)
  have hsg : (n < 0 ∧ cmpI n 0 < 0) ∨ (¬ n < 0 ∧ ¬ cmpI n 0 < 0 ∧ m1 = n1 ∧ m2 = n2) := by
    by_cases h : n < 0
    · exact .inl ⟨h, by unfold cmpI; rw [if_pos h]; decide⟩
    · exact .inr ⟨h, by unfold cmpI; rw [if_neg h]; split <;> decide, hmn h⟩
  have HSG2 := hid hsg
  clear hsg hsz SZ RZ NZ BZ pn pd pm pq pr hN hn hd hmn
  go_enter Tryz.func83, Tryz.ntmps83
  go_upto_region 2 with fail
  rw [← hs, ← hwz]
  clear hs hwz
  obtain ⟨v0, v1, v2, v3, v4⟩ := HN0.out.cells PN.out
  go_upto_if 15 with (go_at_call 148; refine (HSG.out _).mono ?_; rintro e w1 ⟨rfl, hb1⟩; refine Stop.of ?_)
  refine Stop.go ?_
  have HB1 := hid hb1
  clear hb1 v0 v1 v2 v3 v4
  go_upto_if 15 with fail
  go_cut [3] from 13 to 17 (fun v wx => v = .bool false ∧ SumB wx s n d ∧ wx.heap[s + 1]? = some (.cells #[.int .i64 0, .int .i64 0] 29 (0, 0)) ∧ WideI wx (s + 2) N ∧ Below w.heap.size w wx)
  case first =>
    have hN2 := HN0.out.keep (HB1.out.block _ HN0.out.lt)
    have hS2 := HS.out.keep (HB1.out.block _ HS.out.lt)
    have hR2 := (HB1.out.block (s + 1) (by have := HSZ.out; omega)).trans HR.out
    rcases HSG2.out with ⟨h1, h2⟩ | ⟨h1, h2, h3, h4⟩
    · have HO := hid (HOP.out h1)
      have HN2 := hid hN2
      have HS2 := hid hS2
      have HR2 := hid hR2
      obtain ⟨v0, v1, v2, v3, v4⟩ := hN2.cells PN.out
      clear hN2 hS2 hR2
      go_wp2_with (go_at_call 149; refine (HO.out _).mono ?_; rintro e w2 ⟨rfl, hb2⟩; refine Stop.of ?_)
      refine Stop.go ?_
      have hN3 := HN2.out.keep (hb2.block _ HN2.out.lt)
      have hS3 := HS2.out.keep (hb2.block _ HS2.out.lt)
      have hR3 := (hb2.block (s + 1) (by have := HSZ.out; have := HB1.out.size; omega)).trans HR2.out
      have HN3 := hid hN3
      have K := keep_set2 w2 (s + 2) (.int .i64 m1) (.int .u64 m2)
      have X1 := hid (WideI.set hN3 PM.out)
      have X2 := hid (hS3.keep (K.block s hS3.lt (by show s ≠ s + 2; omega)))
      have X3 := hid ((K.block (s + 1) (by have := hN3.lt; omega) (by show s + 1 ≠ s + 2; omega)).trans hR3)
      have X4 := hid (K.below (chain HB.out (chain HB1.out hb2)) (by have := hN3.lt; have := HSV.out; omega) (fun k hk => by have := HSV.out; show k ≠ s + 2; omega))
      clear v0 v1 v2 v3 v4
      obtain ⟨v0, v1, v2, v3, v4⟩ := HN3.out.cells PN.out
      clear hN3 hS3 hR3 hb2 K
      go_wp2
      go_meet
      case rel => exact ⟨rfl, X2.out, X3.out, X1.out, X4.out⟩
    · have hNn : N = n := by have := HNE.out; omega
      have HX := hid (And.intro hS2 (And.intro hR2 (And.intro hN2 (chain HB.out HB1.out))))
      rw [← hNn] at HX
      have HNN := hid hNn
      clear hN2 hS2 hR2 hNn h3 h4
      go_wp2
      go_meet
      case rel => exact ⟨rfl, by rw [← HNN.out]; exact HX.out.1, HX.out.2.1, HX.out.2.2.1, HX.out.2.2.2⟩
  case rest =>
    obtain ⟨rfl, hS, hR, hN, hBc⟩ := hcut
    obtain ⟨v0, v1, v2, v3, v4⟩ := hN.cells PM.out
    obtain ⟨c0, c1, c2, c3⟩ := hS.cells PN.out PD.out
    have HS1 := hid hS
    have HR1 := hid hR
    have HN1 := hid hN
    have HBC := hid hBc
    clear hS hR hN hBc HOP HB1 HN0 HS HR HB HSZ
    go_wp2_with (go_at_call 150; refine (HOV.out _).mono ?_; rintro e w2 ⟨rfl, hb2⟩; refine Stop.of ?_)
    refine Stop.go ?_
    obtain ⟨u, hu⟩ : ∃ u, u = w2.heap.size := ⟨_, rfl⟩
    obtain ⟨w3, hw3⟩ : ∃ w3, w3 = (w2.alloc (.cells #[.int .i64 q1, .int .u64 q2] 100)).alloc (.cells #[.int .i64 r1, .int .u64 r2] 100) := ⟨_, rfl⟩
    have hb3 : Below wc.heap.size wc w3 := by rw [hw3]; exact (hb2.alloc hb2.size _).alloc (by have := hb2.size; simp; omega) _
    have hs3 : w3.heap.size = u + 2 := by rw [hw3, hu]; simp
    have Q3 : WideI w3 u (N / d) := by rw [hw3, hu]; exact (WideI.made w2 PQ.out).keep (Below.heap_alloc _ _ _ (by simp))
    have R3 : WideI w3 (u + 1) (N % d) := by
      have h := WideI.made (w2.alloc (.cells #[.int .i64 q1, .int .u64 q2] 100)) PR.out
      rw [World.size_alloc] at h
      rw [hw3, hu]; exact h
    have S3 := hid (HS1.out.keep (hb3.block _ HS1.out.lt))
    have T3 := hid ((hb3.block (s + 1) (by have := HN1.out.lt; omega)).trans HR1.out)
    have B3 := hid (chain HBC.out hb3)
    have hsu : s + 2 < u := by have := HN1.out.lt; have := hb2.size; omega
    have HQ3 := hid Q3
    have HR3 := hid R3
    have HS3 := hid hs3
    have HSU := hid hsu
    clear hb3 hs3 Q3 R3 hsu v0 v1 v2 v3 v4 c0 c1 c2 c3 hb2 HOV
    go_upto_region 5 with fail
    rw [← hu, ← hw3]
    clear hu hw3
    obtain ⟨g, a, b, hab, hg, hb, hNa, hdb, hcop⟩ := low_facts (n := N) HND.out.2.1
    have hN0 : 0 ≤ N := by have := HNE.out; omega
    have hq0 : 0 ≤ N / d := Int.ediv_nonneg hN0 (by have := HND.out.2.1; omega)
    have hqw : q1 = N / d / 18446744073709551616 ∧ q2 = N / d % 18446744073709551616 := PQ.out
    have hqN : N / d ≤ N := Int.ediv_le_self _ hN0
    -- the answer by the one without its sign
    have hval : validR (ratioF n d) = validR (a, b) ∧ ratioF n d = (if n < 0 then -a else a, b) := by
      have hd0 := HND.out.2.1
      by_cases h : n < 0
      · have e : n = -N := by have := HNE.out; omega
        rw [e, low_neg hd0, hab, if_pos (by have := HNE.out; omega)]
        exact ⟨validR_neg, rfl⟩
      · have e : n = N := by have := HNE.out; omega
        rw [e, hab, if_neg (by omega)]
        exact ⟨rfl, rfl⟩
    have HVAL := hid hval
    have HLOW := hid (And.intro hab (And.intro hg (And.intro hb (And.intro hNa (And.intro hdb hcop)))))
    obtain ⟨c0, c1, c2, c3, c4⟩ := HQ3.out.cells PQ.out
    have T4 : RatI w3 (s + 1) (0, 0) := T3.out
    have HT4 := hid T4
    by_cases hbig : 10000000000 < N / d
    · have hno : validR (a, b) = false := by rw [← hab]; exact low_big hN0 HND.out.2.1 hbig
      have hcase : (q1 != 0) = true ∨ (q1 = 0 ∧ 10000000000 < q2) := by
        by_cases h : q1 = 0
        · right; exact ⟨h, by omega⟩
        · left; simpa using h
      have HNO := hid (hval.1.trans hno)
      have HCS := hid hcase
      clear hcase hno hval hab hg hb hNa hdb hcop hN0 hq0 hqw hqN hbig
      obtain ⟨t0, t1, t2, t3, t4⟩ := T4.cells
      clear T4
      have K := keep_set2 w3 (s + 1) (.int .i64 0) (.int .i64 0)
      have X1 := hid (RatI.set (p := (0, 0)) HT4.out)
      have X2 := hid (K.below B3.out (by have := HSU.out; have := HS3.out; have := HSV.out; omega) (fun k hk => by have := HSV.out; show k ≠ s + 1; omega))
      clear K
      rcases HCS.out with h | ⟨h1, h2⟩
      all_goals
        first | subst h1 | skip
        go_wp2
        clear t0 t1 t2 t3 t4
        generalize (w3.setCell ⟨s + 1, 0, none⟩ (.int .i64 0)).setCell ⟨s + 1, 1, none⟩ (.int .i64 0) = WF at X1 X2 ⊢
        obtain ⟨t0, t1, t2, t3, t4⟩ := X1.out.cells
        refine bodyPost_ret (v := .tuple #[.agg #[.int .i64 0, .int .i64 0], .bool false]) ?_ rfl ⟨⟨(0, 0), by rw [HNO.out]; rfl, fun h => by rw [HNO.out] at h; cases h⟩, X2.out⟩
        simp [results, Tryz.results83, go_sem, t0, t1, t2, t3, t4]
    · have hq1 : q1 = 0 := by omega
      have hq2 : q2 = N / d := by omega
      subst hq1
      have hq10 : ¬ 10000000000 < q2 := by omega
      have hq2' : 0 ≤ q2 ∧ q2 ≤ 10000000000 := by omega
      have HQ2 := hid hq2
      have hd0 := HND.out.2.1
      have hrd : 0 ≤ N % d ∧ N % d < d := ⟨Int.emod_nonneg _ (by omega), Int.emod_lt_of_pos _ hd0⟩
      have HRD := hid hrd
      have HB0 := hid hb
      have HSX := hid (show ∀ X : World, Below w3.heap.size w3 X → X.cell? ⟨u + 1, 0, none⟩ = some (.int .i64 r1) ∧ X.cell? ⟨u + 1, 1, none⟩ = some (.int .u64 r2) ∧ X.cell? ⟨s, 2, none⟩ = some (.int .i64 d1) ∧ X.cell? ⟨s, 3, none⟩ = some (.int .u64 d2) from fun X hX => by
        obtain ⟨a0, a1, _⟩ := (HR3.out.keep (hX.block _ HR3.out.lt)).cells PR.out
        obtain ⟨b0, b1, b2, b3, _⟩ := (S3.out.keep (hX.block _ S3.out.lt)).cells PN.out PD.out
        exact ⟨a0, a1, b2, b3⟩)
      clear hval hab hg hb hNa hdb hcop hN0 hq0 hqw hqN hbig T4 hq2 hd0 hrd
      go_wp2
      clear c0 c1 c2 c3 c4
      go_loopw [7] (fun v wr => ∃ k : Nat, k ≤ 400 ∧ v = .int .i64 ((k : Int) + 1) ∧ (∀ j : Int, 1 ≤ j → j ≤ k → ¬ b ∣ j) ∧ Below w3.heap.size w3 wr) (fun v _ => 401 - (intOf v).toNat)
      case atStart => exact ⟨0, by omega, rfl, fun j h1 h2 => by omega, Below.refl _ _⟩
      case round =>
        obtain ⟨k, hk, rfl, hnd, hbk⟩ := hrel
        by_cases hlt : k < 400
        · have HNDV := hid hnd
          have HBK := hid hbk
          have hRD := HRD.out
          have hNDd := HND.out.2
          obtain ⟨x1, x2, px⟩ := WP.ex (N % d * ((k : Int) + 1))
          obtain ⟨Y, hYe⟩ : ∃ Y, Y = N % d * ((k : Int) + 1) / d := ⟨_, rfl⟩
          obtain ⟨Z, hZe⟩ : ∃ Z, Z = N % d * ((k : Int) + 1) % d := ⟨_, rfl⟩
          obtain ⟨y1, y2, py⟩ := WP.ex Y
          obtain ⟨z1, z2, pz⟩ := WP.ex Z
          have hxb : 0 ≤ N % d * ((k : Int) + 1) ∧ N % d * ((k : Int) + 1) ≤ d * 400 := by
            refine ⟨Int.mul_nonneg (by omega) (by omega), ?_⟩
            exact Int.mul_le_mul (by omega) (by omega) (by omega) (by omega)
          have HTI := hid (show ∀ X : World, Calls Tryz.prog 151 #[.agg #[.int .i64 r1, .int .u64 r2], .int .i64 ((k : Int) + 1)] X fun e w' => e = .returned (.agg #[.int .i64 x1, .int .u64 x2]) ∧ Below X.heap.size X w' from fun X => by
            have := wtimes_c X (N % d) ((k : Int) + 1) (by omega) (by omega) (by
              have e : (((N % d).natAbs * ((k : Int) + 1).natAbs : Nat) : Int) = N % d * ((k : Int) + 1) := by rw [Int.natCast_mul]; congr 1 <;> omega
              omega)
            rw [PR.out.val, px.val] at this; exact this)
          have HOV := hid (show ∀ X : World, Calls Tryz.prog 150 #[.agg #[.int .i64 x1, .int .u64 x2], .agg #[.int .i64 d1, .int .u64 d2]] X fun e w' => e = .returned (.tuple #[.agg #[.int .i64 y1, .int .u64 y2], .agg #[.int .i64 z1, .int .u64 z2]]) ∧ Below X.heap.size X w' from fun X => by
            have := wover_c X (N % d * ((k : Int) + 1)) d (by omega) (by omega)
            rw [px.val, PD.out.val, ← hYe, ← hZe, py.val, pz.val] at this; exact this)
          have HYE := hid hYe
          have HZE := hid hZe
          have PX := hid px
          have PY := hid py
          have PZ := hid pz
          clear hnd hbk hRD hNDd hxb px py pz hYe hZe
          go_wp2
          refine plain_region (fun _ _ => True) (by kernel_rfl) ?_
          obtain ⟨wd, hwd⟩ : ∃ wd, wd = wr.drew := ⟨_, rfl⟩
          have hbd : Below wr.heap.size wr wd := by rw [hwd]; exact (Below.refl _ _).drew
          rw [← hwd]
          have HBD := hid (chain HBK.out hbd)
          have HWD := hid hwd
          clear hbd hwd
          refine anyT_gen fun a0 ha0 => ?_
          have hsz : a0.tmps.size = 73 := by rw [ha0]; rfl
          have v6 : a0.eval (.tmp 6) = .pointer (some ⟨u + 1, 0, none⟩) := by rw [ha0]; rfl
          have v7 : a0.eval (.tmp 7) = .int .i64 ((k : Int) + 1) := by rw [ha0]; rfl
          have v1 : a0.eval (.tmp 1) = .pointer (some ⟨s, 0, none⟩) := by rw [ha0]; rfl
          have HA0 := hid ha0
          clear ha0
          refine AnyT.regF [8, 9, 38, 39, 40, 41, 42, 43, 44, 45, 46] (fun l f w => Below wd.heap.size wd w ∧ (l 0 = true → f 39 = .agg #[.int .i64 r1, .int .u64 r2]) ∧ (l 1 = true → f 40 = .int .i64 ((k : Int) + 1)) ∧ (l 2 = true → f 41 = .agg #[.int .i64 x1, .int .u64 x2]) ∧ (l 3 = true → f 42 = .pointer (some ⟨s, 2, none⟩)) ∧ (l 4 = true → f 43 = .agg #[.int .i64 d1, .int .u64 d2]) ∧ (l 5 = true → f 44 = .tuple #[.agg #[.int .i64 y1, .int .u64 y2], .agg #[.int .i64 z1, .int .u64 z2]]) ∧ (l 6 = true → f 38 = .tuple #[.agg #[.int .i64 y1, .int .u64 y2], .agg #[.int .i64 z1, .int .u64 z2]]) ∧ (l 7 = true → f 45 = .agg #[.int .i64 y1, .int .u64 y2]) ∧ (l 8 = true → f 46 = .agg #[.int .i64 z1, .int .u64 z2]) ∧ (l 9 = true → ∃ g, f 8 = .pointer (some ⟨g, 0, none⟩) ∧ wd.heap.size ≤ g ∧ (l 11 = false → WideI w g 0) ∧ (l 11 = true → WideI w g Y)) ∧ (l 10 = true → ∃ g, f 9 = .pointer (some ⟨g, 0, none⟩) ∧ wd.heap.size ≤ g ∧ (l 12 = false → WideI w g 0) ∧ (l 12 = true → WideI w g Z)) ∧ (l 9 = true → l 10 = true → f 8 ≠ f 9) ∧ (l 11 = true → l 9 = true) ∧ (l 12 = true → l 10 = true)) (by kernel_rfl) (by kernel_rfl) ?_ ?_ ?_
          · have eg1 : ∀ args w, (callFunc 151 args).run Tryz.prog w = .ok (.enter 151 args) w := enters_of Tryz.func151 (by kernel_rfl) rfl
            have eg2 : ∀ args w, (callFunc 150 args).run Tryz.prog w = .ok (.enter 150 args) w := enters_of Tryz.func150 (by kernel_rfl) rfl
            rintro l f w i o ho hi hd ⟨hb, h0, h1, h2, h3, h4, h5, h6, h7, h8, h9, h10, hne, hq11, hq12⟩
            have e39 : evalF a0 [8, 9, 38, 39, 40, 41, 42, 43, 44, 45, 46] f (.tmp 39) = f 39 := by simp [evalF, hsz]
            have e40 : evalF a0 [8, 9, 38, 39, 40, 41, 42, 43, 44, 45, 46] f (.tmp 40) = f 40 := by simp [evalF, hsz]
            have e41 : evalF a0 [8, 9, 38, 39, 40, 41, 42, 43, 44, 45, 46] f (.tmp 41) = f 41 := by simp [evalF, hsz]
            have e42 : evalF a0 [8, 9, 38, 39, 40, 41, 42, 43, 44, 45, 46] f (.tmp 42) = f 42 := by simp [evalF, hsz]
            have e43 : evalF a0 [8, 9, 38, 39, 40, 41, 42, 43, 44, 45, 46] f (.tmp 43) = f 43 := by simp [evalF, hsz]
            have e44 : evalF a0 [8, 9, 38, 39, 40, 41, 42, 43, 44, 45, 46] f (.tmp 44) = f 44 := by simp [evalF, hsz]
            have e38 : evalF a0 [8, 9, 38, 39, 40, 41, 42, 43, 44, 45, 46] f (.tmp 38) = f 38 := by simp [evalF, hsz]
            have e45 : evalF a0 [8, 9, 38, 39, 40, 41, 42, 43, 44, 45, 46] f (.tmp 45) = f 45 := by simp [evalF, hsz]
            have e46 : evalF a0 [8, 9, 38, 39, 40, 41, 42, 43, 44, 45, 46] f (.tmp 46) = f 46 := by simp [evalF, hsz]
            have e8 : evalF a0 [8, 9, 38, 39, 40, 41, 42, 43, 44, 45, 46] f (.tmp 8) = f 8 := by simp [evalF, hsz]
            have e9 : evalF a0 [8, 9, 38, 39, 40, 41, 42, 43, 44, 45, 46] f (.tmp 9) = f 9 := by simp [evalF, hsz]
            have eF1 : evalF a0 [8, 9, 38, 39, 40, 41, 42, 43, 44, 45, 46] f (.func 151) = .func (.func 151) #[] #[] := rfl
            have eF2 : evalF a0 [8, 9, 38, 39, 40, 41, 42, 43, 44, 45, 46] f (.func 150) = .func (.func 150) #[] #[] := rfl
            have w6 : evalF a0 [8, 9, 38, 39, 40, 41, 42, 43, 44, 45, 46] f (.tmp 6) = .pointer (some ⟨u + 1, 0, none⟩) := by simp [evalF, v6]
            have w7 : evalF a0 [8, 9, 38, 39, 40, 41, 42, 43, 44, 45, 46] f (.tmp 7) = .int .i64 ((k : Int) + 1) := by simp [evalF, v7]
            have w1' : evalF a0 [8, 9, 38, 39, 40, 41, 42, 43, 44, 45, 46] f (.tmp 1) = .pointer (some ⟨s, 0, none⟩) := by simp [evalF, v1]
            obtain ⟨o1, o2, o3, o4⟩ := HSX.out _ (chain HBD.out hb)
            rcases i with _ | _ | _ | _ | _ | _ | _ | _ | _ | _ | _ | _ | _ | i
            · simp only [List.getElem?_toArray, List.getElem?_cons_zero, List.getElem?_cons_succ, Option.some.injEq] at ho
              subst ho
              refine StepF.val (w' := w) (v := .agg #[.int .i64 r1, .int .u64 r2]) rfl (by go_simp) ⟨hb, fun _ => rfl, h1, h2, h3, h4, h5, h6, h7, h8, h9, h10, hne, hq11, hq12⟩
            · simp only [List.getElem?_toArray, List.getElem?_cons_zero, List.getElem?_cons_succ, Option.some.injEq] at ho
              subst ho
              refine StepF.val (w' := w) (v := .int .i64 ((k : Int) + 1)) rfl (by go_simp) ⟨hb, h0, fun _ => rfl, h2, h3, h4, h5, h6, h7, h8, h9, h10, hne, hq11, hq12⟩
            · simp only [List.getElem?_toArray, List.getElem?_cons_zero, List.getElem?_cons_succ, Option.some.injEq] at ho
              subst ho
              have k0 := h0 (hd { on := 0, ground := .data } (by simp) (by kernel_rfl))
              rw [k0] at e39
              have k1 := h1 (hd { on := 1, ground := .data } (by simp) (by kernel_rfl))
              rw [k1] at e40
              refine StepF.call (g := 151) (args := #[.agg #[.int .i64 r1, .int .u64 r2], .int .i64 ((k : Int) + 1)]) (w' := w) rfl (by simp [execOp, resolve, invoke, go_sem, e39, e40, eF1, eg1]) ((HTI.out w).mono ?_)
              rintro e w4 ⟨rfl, hb4⟩
              exact ⟨_, rfl, chain hb hb4, h0, h1, fun _ => rfl, h3, h4, h5, h6, h7, h8, fun h => by obtain ⟨g, g1, g2, g3, g4⟩ := h9 h; exact ⟨g, g1, g2, fun h => (g3 h).keep (hb4.block _ (g3 h).lt), fun h => (g4 h).keep (hb4.block _ (g4 h).lt)⟩, fun h => by obtain ⟨g, g1, g2, g3, g4⟩ := h10 h; exact ⟨g, g1, g2, fun h => (g3 h).keep (hb4.block _ (g3 h).lt), fun h => (g4 h).keep (hb4.block _ (g4 h).lt)⟩, hne, hq11, hq12⟩
            · simp only [List.getElem?_toArray, List.getElem?_cons_zero, List.getElem?_cons_succ, Option.some.injEq] at ho
              subst ho
              refine StepF.val (w' := w) (v := .pointer (some ⟨s, 2, none⟩)) rfl (by go_simp) ⟨hb, h0, h1, h2, fun _ => rfl, h4, h5, h6, h7, h8, h9, h10, hne, hq11, hq12⟩
            · simp only [List.getElem?_toArray, List.getElem?_cons_zero, List.getElem?_cons_succ, Option.some.injEq] at ho
              subst ho
              have k3 := h3 (hd { on := 3, ground := .data } (by simp) (by kernel_rfl))
              rw [k3] at e42
              refine StepF.val (w' := w) (v := .agg #[.int .i64 d1, .int .u64 d2]) rfl (by go_simp) ⟨hb, h0, h1, h2, h3, fun _ => rfl, h5, h6, h7, h8, h9, h10, hne, hq11, hq12⟩
            · simp only [List.getElem?_toArray, List.getElem?_cons_zero, List.getElem?_cons_succ, Option.some.injEq] at ho
              subst ho
              have k2 := h2 (hd { on := 2, ground := .data } (by simp) (by kernel_rfl))
              rw [k2] at e41
              have k4 := h4 (hd { on := 4, ground := .data } (by simp) (by kernel_rfl))
              rw [k4] at e43
              refine StepF.call (g := 150) (args := #[.agg #[.int .i64 x1, .int .u64 x2], .agg #[.int .i64 d1, .int .u64 d2]]) (w' := w) rfl (by simp [execOp, resolve, invoke, go_sem, e41, e43, eF2, eg2]) ((HOV.out w).mono ?_)
              rintro e w4 ⟨rfl, hb4⟩
              exact ⟨_, rfl, chain hb hb4, h0, h1, h2, h3, h4, fun _ => rfl, h6, h7, h8, fun h => by obtain ⟨g, g1, g2, g3, g4⟩ := h9 h; exact ⟨g, g1, g2, fun h => (g3 h).keep (hb4.block _ (g3 h).lt), fun h => (g4 h).keep (hb4.block _ (g4 h).lt)⟩, fun h => by obtain ⟨g, g1, g2, g3, g4⟩ := h10 h; exact ⟨g, g1, g2, fun h => (g3 h).keep (hb4.block _ (g3 h).lt), fun h => (g4 h).keep (hb4.block _ (g4 h).lt)⟩, hne, hq11, hq12⟩
            · simp only [List.getElem?_toArray, List.getElem?_cons_zero, List.getElem?_cons_succ, Option.some.injEq] at ho
              subst ho
              have k5 := h5 (hd { on := 5, ground := .data } (by simp) (by kernel_rfl))
              rw [k5] at e44
              refine StepF.val (w' := w) (v := .tuple #[.agg #[.int .i64 y1, .int .u64 y2], .agg #[.int .i64 z1, .int .u64 z2]]) rfl (by go_simp) ⟨hb, h0, h1, h2, h3, h4, h5, fun _ => rfl, h7, h8, h9, h10, hne, hq11, hq12⟩
            · simp only [List.getElem?_toArray, List.getElem?_cons_zero, List.getElem?_cons_succ, Option.some.injEq] at ho
              subst ho
              have k6 := h6 (hd { on := 6, ground := .data } (by simp) (by kernel_rfl))
              rw [k6] at e38
              refine StepF.val (w' := w) (v := .agg #[.int .i64 y1, .int .u64 y2]) rfl (by go_simp) ⟨hb, h0, h1, h2, h3, h4, h5, h6, fun _ => rfl, h8, h9, h10, hne, hq11, hq12⟩
            · simp only [List.getElem?_toArray, List.getElem?_cons_zero, List.getElem?_cons_succ, Option.some.injEq] at ho
              subst ho
              have k6 := h6 (hd { on := 6, ground := .data } (by simp) (by kernel_rfl))
              rw [k6] at e38
              refine StepF.val (w' := w) (v := .agg #[.int .i64 z1, .int .u64 z2]) rfl (by go_simp) ⟨hb, h0, h1, h2, h3, h4, h5, h6, h7, fun _ => rfl, h9, h10, hne, hq11, hq12⟩
            · simp only [List.getElem?_toArray, List.getElem?_cons_zero, List.getElem?_cons_succ, Option.some.injEq] at ho
              subst ho
              have hbn : Below wd.heap.size wd (w.alloc (.cells #[.int .i64 0, .int .u64 0] 100)) := hb.alloc hb.size _
              refine StepF.val (w' := w.alloc (.cells #[.int .i64 0, .int .u64 0] 100)) (v := .pointer (some ⟨w.heap.size, 0, none⟩)) rfl (by go_simp) ⟨hbn, h0, h1, h2, h3, h4, h5, h6, h7, h8, ?_, ?_, ?_⟩
              · intro _; exact ⟨w.heap.size, rfl, hb.size, fun _ => WideI.made0 w, fun h => absurd (hq11 h) (by rw [hi]; decide)⟩
              · intro h; obtain ⟨g, g1, g2, g3, g4⟩ := h10 h; exact ⟨g, g1, g2, fun h => (g3 h).keep (Below.heap_alloc _ _ _ (g3 h).lt), fun h => (g4 h).keep (Below.heap_alloc _ _ _ (g4 h).lt)⟩
              · refine ⟨?_, fun _ => rfl, hq12⟩
                intro _ h e
                obtain ⟨g, g1, _, g3, g4⟩ := h10 h
                have hgl : g < w.heap.size := by
                  rcases Bool.eq_false_or_eq_true (l 12) with c | c
                  · exact (g4 c).lt
                  · exact (g3 c).lt
                have e' : (Value.pointer (some ⟨w.heap.size, 0, none⟩)) = f 9 := e
                rw [g1] at e'; cases e'; omega
            · simp only [List.getElem?_toArray, List.getElem?_cons_zero, List.getElem?_cons_succ, Option.some.injEq] at ho
              subst ho
              have hbn : Below wd.heap.size wd (w.alloc (.cells #[.int .i64 0, .int .u64 0] 100)) := hb.alloc hb.size _
              refine StepF.val (w' := w.alloc (.cells #[.int .i64 0, .int .u64 0] 100)) (v := .pointer (some ⟨w.heap.size, 0, none⟩)) rfl (by go_simp) ⟨hbn, h0, h1, h2, h3, h4, h5, h6, h7, h8, ?_, ?_, ?_⟩
              · intro h; obtain ⟨g, g1, g2, g3, g4⟩ := h9 h; exact ⟨g, g1, g2, fun h => (g3 h).keep (Below.heap_alloc _ _ _ (g3 h).lt), fun h => (g4 h).keep (Below.heap_alloc _ _ _ (g4 h).lt)⟩
              · intro _; exact ⟨w.heap.size, rfl, hb.size, fun _ => WideI.made0 w, fun h => absurd (hq12 h) (by rw [hi]; decide)⟩
              · refine ⟨?_, hq11, fun _ => rfl⟩
                intro h _ e
                obtain ⟨g, g1, _, g3, g4⟩ := h9 h
                have hgl : g < w.heap.size := by
                  rcases Bool.eq_false_or_eq_true (l 11) with c | c
                  · exact (g4 c).lt
                  · exact (g3 c).lt
                have e' : f 8 = (Value.pointer (some ⟨w.heap.size, 0, none⟩)) := e
                rw [g1] at e'; cases e'; omega
            · simp only [List.getElem?_toArray, List.getElem?_cons_zero, List.getElem?_cons_succ, Option.some.injEq] at ho
              subst ho
              have l9 : l 9 = true := hd { on := 9, ground := .data } (by simp) (by kernel_rfl)
              have l10 : l 10 = true := hd { on := 10, ground := .phase } (by simp) (by kernel_rfl)
              have k7 := h7 (hd { on := 7, ground := .data } (by simp) (by kernel_rfl))
              rw [k7] at e45
              obtain ⟨g, g1, g2, g3, g4⟩ := h9 l9
              obtain ⟨q, q1, q2, q3, q4⟩ := h10 l10
              rw [g1] at e8
              have hnq : q ≠ g := by rintro rfl; exact hne l9 l10 (by rw [g1, q1])
              obtain ⟨c0, c1, c2, c3, c4⟩ := (g3 hi).cells WP.zero
              have K := keep_set2 w g (.int .i64 y1) (.int .u64 y2)
              have hbn := K.below hb hb.size (fun k hk => by show k ≠ g; omega)
              refine StepF.skip (w' := (w.setCell ⟨g, 0, none⟩ (.int .i64 y1)).setCell ⟨g, 1, none⟩ (.int .u64 y2)) rfl (by go_simp) ⟨hbn, h0, h1, h2, h3, h4, h5, h6, h7, h8, ?_, ?_, ?_⟩
              · intro _; exact ⟨g, g1, g2, (fun h => by cases h), fun _ => (g3 hi).set PY.out⟩
              · intro _; exact ⟨q, q1, q2, fun h => (q3 h).keep (K.block _ (q3 h).lt hnq), fun h => (q4 h).keep (K.block _ (q4 h).lt hnq)⟩
              · exact ⟨hne, fun _ => l9, hq12⟩
            · simp only [List.getElem?_toArray, List.getElem?_cons_zero, List.getElem?_cons_succ, Option.some.injEq] at ho
              subst ho
              have l9 : l 9 = true := hd { on := 9, ground := .phase } (by simp) (by kernel_rfl)
              have l10 : l 10 = true := hd { on := 10, ground := .data } (by simp) (by kernel_rfl)
              have k8 := h8 (hd { on := 8, ground := .data } (by simp) (by kernel_rfl))
              rw [k8] at e46
              obtain ⟨g, g1, g2, g3, g4⟩ := h10 l10
              obtain ⟨q, q1, q2, q3, q4⟩ := h9 l9
              rw [g1] at e9
              have hnq : q ≠ g := by rintro rfl; exact hne l9 l10 (by rw [q1, g1])
              obtain ⟨c0, c1, c2, c3, c4⟩ := (g3 hi).cells WP.zero
              have K := keep_set2 w g (.int .i64 z1) (.int .u64 z2)
              have hbn := K.below hb hb.size (fun k hk => by show k ≠ g; omega)
              refine StepF.skip (w' := (w.setCell ⟨g, 0, none⟩ (.int .i64 z1)).setCell ⟨g, 1, none⟩ (.int .u64 z2)) rfl (by go_simp) ⟨hbn, h0, h1, h2, h3, h4, h5, h6, h7, h8, ?_, ?_, ?_⟩
              · intro _; exact ⟨q, q1, q2, fun h => (q3 h).keep (K.block _ (q3 h).lt hnq), fun h => (q4 h).keep (K.block _ (q4 h).lt hnq)⟩
              · intro _; exact ⟨g, g1, g2, (fun h => by cases h), fun _ => (g3 hi).set PZ.out⟩
              · exact ⟨hne, hq11, fun _ => l10⟩
            · exact absurd ho (by simp)
          · rintro l f wv hall ⟨hb, h0, h1, h2, h3, h4, h5, h6, h7, h8, h9, h10, hne, hq11, hq12⟩
            obtain ⟨gy, g1, g2, _, g4⟩ := h9 (hall 9 (by decide))
            obtain ⟨gr, k1, k2, _, k4⟩ := h10 (hall 10 (by decide))
            have HGY := hid (g4 (hall 11 (by decide)))
            have HRZ := hid (k4 (hall 12 (by decide)))
            have HBW := hid (chain HBD.out hb)
            clear h0 h1 h2 h3 h4 h5 h6 h7 h8 h9 h10 hne hq11 hq12 hall hb g2 k2 g4 k4
            rw [HA0.out]
            simp only [fillA, List.foldl_cons, List.foldl_nil, Act.put, List.setIfInBounds_toArray, List.set_cons_succ, List.set_cons_zero]
            rw [g1, k1]
            generalize f 38 = z38, f 39 = z39, f 40 = z40, f 41 = z41, f 42 = z42, f 43 = z43, f 44 = z44, f 45 = z45, f 46 = z46
            clear g1 k1 hsz v6 v7 v1 HA0
            obtain ⟨hab, hg, hb, hNa, hdb, hcop⟩ := HLOW.out
            have hd0 := HND.out.2.1
            have hdd := HND.out.2.2
            have hrd := HRD.out
            have hxb : 0 ≤ N % d * ((k : Int) + 1) ∧ N % d * ((k : Int) + 1) ≤ d * 400 := ⟨Int.mul_nonneg (by omega) (by omega), Int.mul_le_mul (by omega) (by omega) (by omega) (by omega)⟩
            have hYb : 0 ≤ Y ∧ Y ≤ 400 := by
              rw [HYE.out]
              refine ⟨Int.ediv_nonneg hxb.1 (by omega), ?_⟩
              exact Int.ediv_le_of_le_mul hd0 (by have h := hxb.2; rw [Int.mul_comm d] at h; exact h)
            have hZb : 0 ≤ Z ∧ Z < d := by rw [HZE.out]; exact ⟨Int.emod_nonneg _ (by omega), Int.emod_lt_of_pos _ hd0⟩
            have HSZ := hid (show ∀ X : World, Calls Tryz.prog 148 #[.agg #[.int .i64 z1, .int .u64 z2]] X fun e w' => e = .returned (.int .i64 (cmpI Z 0)) ∧ Below X.heap.size X w' from fun X => by
              have := wsign_c X Z (by omega)
              rw [PZ.out.val] at this; exact this)
            have hldv := low_div hd0 hg hb hNa hdb hcop ((k : Int) + 1)
            rw [← HZE.out] at hldv
            by_cases hZ : Z = 0
            · have hdv := hldv.1 hZ
              have hbe : b = (k : Int) + 1 := by
                have h1 := Int.le_of_dvd (by omega) hdv
                rcases Int.lt_or_le b ((k : Int) + 1) with h | h
                · exact absurd (Int.dvd_refl b) (HNDV.out b (by omega) (by omega))
                · omega
              have hav := low_val (n := N) (by have := HNE.out; omega) hd0 hg hNa hdb
              rw [hbe, ← HYE.out, ← HQ2.out] at hav
              have ha0 := low_nonneg (n := N) (d := d) (b := b) (by have := HNE.out; omega) hg hNa
              have hc0 : cmpI Z 0 = 0 := by rw [hZ]; rfl
              rw [hc0] at HSZ
              have hmul : 0 ≤ q2 * ((k : Int) + 1) ∧ q2 * ((k : Int) + 1) ≤ 10000000000 * 400 := ⟨Int.mul_nonneg (by omega) (by omega), Int.mul_le_mul (by omega) (by omega) (by omega) (by omega)⟩
              have hy1 : y1 = 0 := by have h : y1 = Y / 18446744073709551616 := PY.out.1; omega
              have hy2 : y2 = Y := by have h : y2 = Y % 18446744073709551616 := PY.out.2; omega
              subst hy1
              subst hy2
              have HOF := hid (show ∀ X : World, Calls Tryz.prog 152 #[.int .i64 (q2 * ((k : Int) + 1) + y2), .int .i64 ((k : Int) + 1)] X fun e w' => e = .returned (.agg #[.int .i64 a, .int .i64 b]) ∧ Below X.heap.size X w' from fun X => by
                have h := of_c X a b (by omega) (by omega) (by omega)
                have e : ofF a b = (a, b) := by
                  unfold ofF
                  rw [hcop]; simp; omega
                rw [e] at h
                rw [hav, ← hbe]; exact h)
              have hyb2 : 0 ≤ y2 ∧ y2 ≤ 400 := hYb
              have HAB := hid (And.intro ha0 (show a ≤ 9000000000000 by omega))
              clear hab hg hb hNa hdb hcop hxb hYb hZb hldv hdv hbe hav ha0 hc0 hZ hd0 hdd hrd
              obtain ⟨c0, c1, c2, c3, c4⟩ := HRZ.out.cells PZ.out
              go_wp2_with (go_at_call 148; refine (HSZ.out _).mono ?_; rintro e w5 ⟨rfl, hb5⟩; refine Stop.of ?_)
              refine Stop.go ?_
              have HB5 := hid (chain HBW.out hb5)
              have hG5 := HGY.out.keep (hb5.block _ HGY.out.lt)
              clear hb5 c0 c1 c2 c3 c4
              obtain ⟨c0, c1, c2, c3, c4⟩ := hG5.cells PY.out
              obtain ⟨e0, e1, e2, e3, e4⟩ := (HQ3.out.keep (HB5.out.block _ HQ3.out.lt)).cells PQ.out
              clear hG5
              go_wp2_with (go_at_call 152; refine (HOF.out _).mono ?_; rintro e w6 ⟨rfl, hb6⟩; refine Stop.of ?_)
              refine Stop.go ?_
              have HB6 := hid (chain HB5.out hb6)
              clear hb6 c0 c1 c2 c3 c4 e0 e1 e2 e3 e4
              obtain ⟨p, hp⟩ : ∃ p, p = w6.heap.size := ⟨_, rfl⟩
              obtain ⟨w7, hw7⟩ : ∃ w7, w7 = w6.alloc (.cells #[.int .i64 a, .int .i64 b] 29) := ⟨_, rfl⟩
              have P7 : RatI w7 p (a, b) := by rw [hw7, hp]; exact RatI.made w6 (a, b)
              have HP7 := hid P7
              have HB7 := hid (show Below w3.heap.size w3 w7 by rw [hw7]; exact HB6.out.alloc HB6.out.size _)
              have HPS := hid (show p ≠ s + 1 by have := HB6.out.size; have := HSU.out; have := HS3.out; omega)
              have HPB := hid (show w3.heap.size ≤ p by rw [hp]; exact HB6.out.size)
              have HW7 := hid hw7
              have HPE := hid hp
              clear P7 hp hw7
              go_upto_region 13 with fail
              rw [← HPE.out, ← HW7.out]
              obtain ⟨b0, b1, b2, b3, _⟩ := (S3.out.keep (HB7.out.block _ S3.out.lt)).cells PN.out PD.out
              go_wp2_with (go_at_call 148; refine (HSG.out _).mono ?_; rintro e w8 ⟨rfl, hb8⟩; refine Stop.of ?_)
              refine Stop.go ?_
              have HP8 := hid (HP7.out.keep (hb8.block _ HP7.out.lt))
              have HB8 := hid (chain HB7.out hb8)
              clear hb8 b0 b1 b2 b3
              obtain ⟨p0, p1, p2, p3, p4⟩ := HP8.out.cells
              rcases HSG2.out with ⟨hneg, hsn⟩ | ⟨hneg, hsn, _⟩
              · have HNEG := hid hneg
                have hA1 := HAB.out.1
                have hA2 := HAB.out.2
                clear hneg
                obtain ⟨w9, hw9⟩ : ∃ w9, w9 = w8.setCell ⟨p, 0, none⟩ (.int .i64 (-a)) := ⟨_, rfl⟩
                have HP9 := hid (show RatI w9 p (-a, b) by
                  have h := cells_set HP8.out 0 (.int .i64 (-a))
                  rw [hw9]; exact h)
                have HT9 := hid (show RatI w9 (s + 1) (0, 0) by
                  have h1 := HT4.out.keep (HB8.out.block _ HT4.out.lt)
                  rw [hw9]; exact h1.keep ((Keep.set w8 p 0 _).block _ h1.lt (fun e => HPS.out e.symm)))
                have HB9 := hid (show Below w.heap.size w w9 by
                  rw [hw9]
                  exact (Keep.set w8 p 0 _).below (chain B3.out HB8.out) (by have := B3.out.size; have := HB8.out.size; omega) (fun k hk => by have := HPB.out; have := B3.out.size; omega))
                have HW9 := hid hw9
                clear hw9
                go_upto_region 15 with fail
                rw [← HW9.out]
                clear p0 p1 p2 p3 p4 hsn hA1 hA2
                refine plain_region (fun j X => wAll j = true → X.cell? ⟨p, 0, none⟩ = some (.int .i64 (-a)) ∧ X.cell? ⟨p, 1, none⟩ = some (.int .i64 b)) (by kernel_rfl) ?_
                have hbe : Below w9.heap.size w9 w9.drew := (Below.refl _ _).drew
                generalize w9.drew = we at hbe ⊢
                have HTT := hid (fun (X : World) (hX : Below w9.heap.size w9 X) => show X.cell? ⟨p, 0, none⟩ = some (.int .i64 (-a)) ∧ X.cell? ⟨p, 1, none⟩ = some (.int .i64 b) from by
                  obtain ⟨c0, c1, _⟩ := (HP9.out.keep (hX.block _ HP9.out.lt)).cells
                  exact ⟨c0, c1⟩)
                have HBE := hid hbe
                clear hbe
                refine AnyT.takeD (i := 0) (v := .agg #[.int .i64 (-a), .int .i64 b]) rfl rfl (by kernel_rfl) (by kernel_rfl) (by kernel_rfl) (by first | exact (fun _ _ _ h => h) | exact (fun _ _ _ h => absurd h.1 (by simp))) (by kernel_rfl) (by rfl) (by rintro w' ⟨q0, q1⟩; go_simp) (HTT.out _ HBE.out) ?_; go_frame
                refine AnyT.takeD (i := 1) (v := .agg #[.int .i64 (-a), .int .i64 b]) rfl rfl (by kernel_rfl) (by kernel_rfl) (by kernel_rfl) (by first | exact (fun _ _ _ h => h) | exact (fun _ _ _ h => absurd h.1 (by simp))) (by kernel_rfl) (by rfl) (by rintro w' ⟨q0, q1⟩; go_simp) (HTT.out _ HBE.out) ?_; go_frame
                refine AnyT.next (i := 2) (by kernel_rfl) rfl (wpOp_of_list rfl ?_)
                go_wp2_with (go_at_call 147; refine (fvalid_c _ (-a) b).mono ?_; rintro e w10 ⟨rfl, hb10⟩; refine Stop.of ?_)
                refine Stop.go ?_
                have HB10 := hid (chain HBE.out hb10)
                clear hb10
                go_wp2
                refine ⟨fun _ => HTT.out _ HB10.out, ?_⟩
                have hT10 := HT9.out.keep (HB10.out.block _ HT9.out.lt)
                obtain ⟨t0, t1, t2, t3, t4⟩ := hT10.cells
                have K10 := keep_set2 w10 (s + 1) (.int .i64 (-a)) (.int .i64 b)
                have X1 := hid (RatI.set (p := ((-a), b)) hT10)
                have X2 := hid (K10.below (chain HB9.out HB10.out) (by have := HB9.out.size; have := HB10.out.size; omega) (fun k hk => by have := HSV.out; show k ≠ s + 1; omega))
                have X3 := hid (show RatI _ p ((-a), b) from (HP9.out.keep (HB10.out.block _ HP9.out.lt)).keep (K10.block _ (by have := HP9.out.lt; have := HB10.out.size; omega) HPS.out))
                clear hT10 K10
                refine AnyT.next (i := 3) (by kernel_rfl) rfl (wpOp_of_list rfl ?_)
                go_wp2
                clear t0 t1 t2 t3 t4
                generalize (w10.setCell ⟨s + 1, 0, none⟩ (.int .i64 (-a))).setCell ⟨s + 1, 1, none⟩ (.int .i64 b) = WF at X1 X2 X3 ⊢
                refine ⟨fun _ => by obtain ⟨c0, c1, _⟩ := X3.out.cells; exact ⟨c0, c1⟩, ?_⟩
                refine AnyT.next (i := 4) (by kernel_rfl) rfl (wpOp_of_list rfl ?_)
                go_wp2
                refine ⟨fun _ => by obtain ⟨c0, c1, _⟩ := X3.out.cells; exact ⟨c0, c1⟩, ?_⟩
                refine AnyT.done (by kernel_rfl) ?_ _
                go_wp2
                obtain ⟨t0, t1, t2, t3, t4⟩ := X1.out.cells
                refine bodyPost_ret (v := .tuple #[.agg #[.int .i64 (-a), .int .i64 b], .bool (validR ((-a), b))]) ?_ rfl ⟨⟨((-a), b), by rw [HVAL.out.1, validR_neg]; rfl, fun _ => by rw [HVAL.out.2, if_pos HNEG.out]⟩, X2.out⟩
                simp [results, Tryz.results83, go_sem, t0, t1, t2, t3, t4]
              · have HNEG := hid hneg
                clear hneg
                obtain ⟨w9, hw9⟩ : ∃ w9, w9 = w8 := ⟨_, rfl⟩
                have HP9 := hid (show RatI w9 p (a, b) by rw [hw9]; exact HP8.out)
                have HT9 := hid (show RatI w9 (s + 1) (0, 0) by rw [hw9]; exact HT4.out.keep (HB8.out.block _ HT4.out.lt))
                have HB9 := hid (show Below w.heap.size w w9 by rw [hw9]; exact chain B3.out HB8.out)
                have HW9 := hid hw9
                clear hw9
                go_upto_region 15 with fail
                rw [← HW9.out]
                clear p0 p1 p2 p3 p4 hsn
                refine plain_region (fun j X => wAll j = true → X.cell? ⟨p, 0, none⟩ = some (.int .i64 (a)) ∧ X.cell? ⟨p, 1, none⟩ = some (.int .i64 b)) (by kernel_rfl) ?_
                have hbe : Below w9.heap.size w9 w9.drew := (Below.refl _ _).drew
                generalize w9.drew = we at hbe ⊢
                have HTT := hid (fun (X : World) (hX : Below w9.heap.size w9 X) => show X.cell? ⟨p, 0, none⟩ = some (.int .i64 (a)) ∧ X.cell? ⟨p, 1, none⟩ = some (.int .i64 b) from by
                  obtain ⟨c0, c1, _⟩ := (HP9.out.keep (hX.block _ HP9.out.lt)).cells
                  exact ⟨c0, c1⟩)
                have HBE := hid hbe
                clear hbe
                refine AnyT.takeD (i := 0) (v := .agg #[.int .i64 (a), .int .i64 b]) rfl rfl (by kernel_rfl) (by kernel_rfl) (by kernel_rfl) (by first | exact (fun _ _ _ h => h) | exact (fun _ _ _ h => absurd h.1 (by simp))) (by kernel_rfl) (by rfl) (by rintro w' ⟨q0, q1⟩; go_simp) (HTT.out _ HBE.out) ?_; go_frame
                refine AnyT.takeD (i := 1) (v := .agg #[.int .i64 (a), .int .i64 b]) rfl rfl (by kernel_rfl) (by kernel_rfl) (by kernel_rfl) (by first | exact (fun _ _ _ h => h) | exact (fun _ _ _ h => absurd h.1 (by simp))) (by kernel_rfl) (by rfl) (by rintro w' ⟨q0, q1⟩; go_simp) (HTT.out _ HBE.out) ?_; go_frame
                refine AnyT.next (i := 2) (by kernel_rfl) rfl (wpOp_of_list rfl ?_)
                go_wp2_with (go_at_call 147; refine (fvalid_c _ (a) b).mono ?_; rintro e w10 ⟨rfl, hb10⟩; refine Stop.of ?_)
                refine Stop.go ?_
                have HB10 := hid (chain HBE.out hb10)
                clear hb10
                go_wp2
                refine ⟨fun _ => HTT.out _ HB10.out, ?_⟩
                have hT10 := HT9.out.keep (HB10.out.block _ HT9.out.lt)
                obtain ⟨t0, t1, t2, t3, t4⟩ := hT10.cells
                have K10 := keep_set2 w10 (s + 1) (.int .i64 (a)) (.int .i64 b)
                have X1 := hid (RatI.set (p := ((a), b)) hT10)
                have X2 := hid (K10.below (chain HB9.out HB10.out) (by have := HB9.out.size; have := HB10.out.size; omega) (fun k hk => by have := HSV.out; show k ≠ s + 1; omega))
                have X3 := hid (show RatI _ p ((a), b) from (HP9.out.keep (HB10.out.block _ HP9.out.lt)).keep (K10.block _ (by have := HP9.out.lt; have := HB10.out.size; omega) HPS.out))
                clear hT10 K10
                refine AnyT.next (i := 3) (by kernel_rfl) rfl (wpOp_of_list rfl ?_)
                go_wp2
                clear t0 t1 t2 t3 t4
                generalize (w10.setCell ⟨s + 1, 0, none⟩ (.int .i64 (a))).setCell ⟨s + 1, 1, none⟩ (.int .i64 b) = WF at X1 X2 X3 ⊢
                refine ⟨fun _ => by obtain ⟨c0, c1, _⟩ := X3.out.cells; exact ⟨c0, c1⟩, ?_⟩
                refine AnyT.next (i := 4) (by kernel_rfl) rfl (wpOp_of_list rfl ?_)
                go_wp2
                refine ⟨fun _ => by obtain ⟨c0, c1, _⟩ := X3.out.cells; exact ⟨c0, c1⟩, ?_⟩
                refine AnyT.done (by kernel_rfl) ?_ _
                go_wp2
                obtain ⟨t0, t1, t2, t3, t4⟩ := X1.out.cells
                refine bodyPost_ret (v := .tuple #[.agg #[.int .i64 (a), .int .i64 b], .bool (validR ((a), b))]) ?_ rfl ⟨⟨((a), b), by rw [HVAL.out.1]; rfl, fun _ => by rw [HVAL.out.2, if_neg (show ¬ n < 0 by have := HNEG.out; omega)]⟩, X2.out⟩
                simp [results, Tryz.results83, go_sem, t0, t1, t2, t3, t4]
            · have hc0 : (cmpI Z 0 != 0) = true := by unfold cmpI; split <;> (try split) <;> simp <;> omega
              have HND2 := hid (show ∀ j : Int, 1 ≤ j → j ≤ ((k + 1 : Nat) : Int) → ¬ b ∣ j from fun j h1 h2 => by
                rcases Int.lt_or_le (k : Int) j with h | h
                · have : j = (k : Int) + 1 := by omega
                  rw [this]; exact fun h => hZ (hldv.2 h)
                · exact HNDV.out j h1 h)
              obtain ⟨C, hC⟩ : ∃ C, C = cmpI Z 0 := ⟨_, rfl⟩
              rw [← hC] at HSZ hc0
              clear hab hg hb hNa hdb hcop hxb hYb hZb hldv hZ hC hd0 hdd hrd
              obtain ⟨c0, c1, c2, c3, c4⟩ := HRZ.out.cells PZ.out
              go_wp2_with (go_at_call 148; refine (HSZ.out _).mono ?_; rintro e w5 ⟨rfl, hb5⟩; refine Stop.of ?_)
              refine Stop.go ?_
              have HB5 := hid (chain HBW.out hb5)
              clear hb5 c0 c1 c2 c3 c4
              go_wp2
              refine ⟨⟨k + 1, by omega, by go_num, HND2.out, HB5.out⟩, by simp [intOf]; omega⟩
          · intro l f hl
            refine ⟨Below.refl _ _, ?_⟩
            refine ⟨fun h => ?_, fun h => ?_, fun h => ?_, fun h => ?_, fun h => ?_, fun h => ?_, fun h => ?_, fun h => ?_, fun h => ?_, fun h => ?_, fun h => ?_, fun h => ?_, fun h => ?_, fun h => ?_⟩ <;> (rw [hl _ (by decide)] at h; cases h)
        · have hk4 : k = 400 := by omega
          subst hk4
          have HNO := hid (show validR (ratioF n d) = false by
            rw [HVAL.out.1]
            cases hv : validR (a, b) with
            | false => rfl
            | true =>
              have h := validR_iff.1 hv
              exact absurd (Int.dvd_refl b) (hnd b (by have := h.1; simpa using this) (by have := h.2.1; simpa using this)))
          have HBK := hid hbk
          have HTB := hid (HT4.out.keep (hbk.block _ HT4.out.lt))
          obtain ⟨t0, t1, t2, t3, t4⟩ := HTB.out.cells
          have K := keep_set2 wr (s + 1) (.int .i64 0) (.int .i64 0)
          have X1 := hid (RatI.set (p := (0, 0)) HTB.out)
          have X2 := hid (K.below (chain B3.out hbk) (by have := B3.out.size; have := hbk.size; omega) (fun k hk => by have := HSV.out; show k ≠ s + 1; omega))
          clear K hnd hbk
          go_wp2
          clear t0 t1 t2 t3 t4
          generalize (wr.setCell ⟨s + 1, 0, none⟩ (.int .i64 0)).setCell ⟨s + 1, 1, none⟩ (.int .i64 0) = WF at X1 X2 ⊢
          obtain ⟨t0, t1, t2, t3, t4⟩ := X1.out.cells
          refine bodyPost_ret (v := .tuple #[.agg #[.int .i64 0, .int .i64 0], .bool false]) ?_ rfl ⟨⟨(0, 0), by rw [HNO.out]; rfl, fun h => by rw [HNO.out] at h; cases h⟩, X2.out⟩
          simp [results, Tryz.results83, go_sem, t0, t1, t2, t3, t4]
end Go.Proofs.YtlffndehhhpgjaaGreat

namespace Go.Proofs.YtlffndehhhpgjaaGreat
open Go.RowKit
set_option linter.unusedVariables false
set_option linter.unusedSimpArgs false

set_option maxRecDepth 100000 in
set_option maxHeartbeats 1000000 in
theorem r5times_c (w : World) (a : Option Addr) (n cap : Nat) (l : List Int) (m : Int) (hn : l.length = n) (hm : n ≤ 1000) (H : IntsAt w a l) (hB : ∀ x ∈ l, -1000000 ≤ x ∧ x ≤ 1000000) (hT : -1000 ≤ m ∧ m ≤ 1000) :
    Calls Tryz.prog 20 #[.slice a n cap, .int .i64 m] w fun e w' => ∃ va vc, e = .returned (.slice va n vc) ∧ IntsAt w' va (timesY l m) ∧ Below w.heap.size w w' := by
  have HN := hid hn
  have HH := hid H
  have HBL := hid hB
  have HPF := hid (show timesY l m = l.map (fun x => x * m) from rfl)
  clear hn H hB
  go_enter Tryz.func20, Tryz.ntmps20
  go_wp2
  go_loopw [5, 10] (fun v i wr => ∃ t : Nat, t ≤ n ∧ i = .int .i64 t ∧ wr.ownsRow w.heap.size 3 1 v t ((l.take t).map (fun x => Value.int .i64 (x * m))) ∧ Below w.heap.size w wr) (fun _ i _ => n - (intOf i).toNat)
  case atStart => exact ⟨0, Nat.zero_le _, rfl, World.ownsRow_nil _ _ _ _, Below.refl _ _⟩
  case round =>
    obtain ⟨t, ht, rfl, hown, hbt⟩ := hrel
    by_cases hlt : t < n
    · have htl : t < l.length := by rw [HN.out]; exact hlt
      obtain ⟨b, off, rfl, hbs, hc⟩ := (HH.out.below hbt) t htl
      have hbd := HBL.out _ (List.getElem_mem htl)
      have hsn : (l.take (t + 1)).map (fun x => Value.int .i64 (x * m)) = (l.take t).map (fun x => Value.int .i64 (x * m)) ++ [.int .i64 (l[t] * m)] := by
        rw [List.take_succ_eq_append_getElem htl, List.map_append]; rfl
      have hx2 : l[t]?.getD 0 = l[t] := by rw [List.getElem?_eq_getElem htl]; rfl
      rw [hx2] at hc
      obtain ⟨x, hx⟩ : ∃ x, x = l[t] := ⟨_, rfl⟩
      rw [← hx] at hc hbd hsn
      obtain ⟨y, hy⟩ : ∃ y, y = x * m := ⟨_, rfl⟩
      obtain ⟨va, vc, rfl⟩ := ownsRow_slice hown
      have hyb : y.natAbs ≤ 1000000 * 1000 := by rw [hy, Int.natAbs_mul]; exact Nat.mul_le_mul (by omega) (by omega)
      have hwq : wrap64 (x * m) = y := by rw [← hy]; unfold wrap64; omega
      rw [← hy] at hsn
      have HSN := hid hsn
      have HO := hid hown
      have HBT := hid hbt
      have M1 := hid (show t + 1 ≤ maxLen by unfold maxLen; omega)
      have M2 := hid (show (t + 1) * 8 ≤ 140737488355328 by omega)
      have M3 := hid (Nat.le_trans hbt.size (le_alloc wr (.cells #[.int .i64 y] 3)))
      clear hown hbt hsn hx hx2 htl hbd hy hyb
      go_wp2_with (at_builtin; refine wpList_app _ rfl (.tmp 14) (.tmp 18) 24 rfl w.heap.size 3 (.int .i64 0) 1 8 Tryz.underlying24 li_int rfl Nat.one_pos (.slice va t vc) t _ rfl (HO.out.alloc _) (some ⟨wr.heap.size, 0, none⟩) 1 1 [.int .i64 y] rfl rfl no_none (one_news wr _ _) (li_one _) M1.out M2.out M3.out ?_; refine Stop.of ?_)
      refine Stop.go ?_
      intro a3 c3 w3 own3 g3
      have hB3 : Below w.heap.size w w3 := (HBT.out.alloc HBT.out.size _).grown g3 M3.out (fun k hk => (HO.out.lt k hk).1)
      go_wp2
      refine ⟨⟨t + 1, by omega, by go_num, ?_, hB3⟩, by simp [intOf]; omega⟩
      rw [HSN.out]
      simpa using own3
    · obtain rfl : t = n := by omega
      rw [List.take_of_length_le (by rw [HN.out]; exact Nat.le_refl _)] at hown
      have hown' : wr.ownsRow w.heap.size 3 1 u5 t ((timesY l m).map (Value.int .i64)) := by rw [HPF.out, List.map_map]; exact hown
      obtain ⟨va, vc, rfl, hia⟩ := ints_of_own hown' (by rw [HPF.out, List.length_map]; exact HN.out)
      have HIA := hid hia
      clear hown' hia
      have HBT := hid hbt
      clear hown hbt
      go_wp2
      go_ret
      exact ⟨_, _, rfl, HIA.out.1, HBT.out⟩
end Go.Proofs.YtlffndehhhpgjaaGreat

namespace Go.Proofs.YtlffndehhhpgjaaGreat
set_option linter.unusedVariables false
set_option linter.unusedSimpArgs false

def pw : Nat → Int
  | 0 => 1
  | k + 1 => 1000000000 * pw k
theorem pw_pos : ∀ k, 0 < pw k
  | 0 => by decide
  | k + 1 => by have := pw_pos k; rw [pw]; omega
theorem pw_add (a : Nat) : ∀ b, pw (a + b) = pw a * pw b
  | 0 => by rw [Nat.add_zero, pw]; simp
  | b + 1 => by rw [← Nat.add_assoc, pw, pw, pw_add a b]; grind
theorem pw_mono {a b : Nat} (h : a ≤ b) : pw a ≤ pw b := by
  obtain ⟨c, rfl⟩ := Nat.exists_eq_add_of_le h
  rw [pw_add]
  have h1 := pw_pos a
  have h2 := pw_pos c
  have : pw a * 1 ≤ pw a * pw c := Int.mul_le_mul_of_nonneg_left (by omega) (by omega)
  omega

def valN : List Int → Int
  | [] => 0
  | d :: l => d + 1000000000 * valN l
theorem valN_app (l m : List Int) : valN (l ++ m) = valN l + pw l.length * valN m := by
  induction l with
  | nil => simp [valN, pw]
  | cons d l ih => rw [List.cons_append, valN, valN, ih, List.length_cons, pw]; grind
theorem valN_snoc (l : List Int) (d : Int) : valN (l ++ [d]) = valN l + pw l.length * d := by
  rw [valN_app, valN, valN]; simp

def DigL (l : List Int) : Prop := ∀ d ∈ l, 0 ≤ d ∧ d < 1000000000
theorem DigL.nil : DigL [] := fun d h => by cases h
theorem DigL.snoc {l : List Int} {d : Int} (h : DigL l) (h0 : 0 ≤ d) (h1 : d < 1000000000) : DigL (l ++ [d]) := fun x hx => by
  rcases List.mem_append.1 hx with hx | hx
  · exact h x hx
  · simp at hx; subst hx; exact ⟨h0, h1⟩
theorem DigL.take {l : List Int} (h : DigL l) (k : Nat) : DigL (l.take k) := fun x hx => h x (List.mem_of_mem_take hx)
theorem DigL.bnd : ∀ {l : List Int}, DigL l → 0 ≤ valN l ∧ valN l < pw l.length
  | [], _ => by simp [valN, pw]
  | d :: l, h => by
    have h1 := h d (by simp)
    have h2 := DigL.bnd (l := l) fun x hx => h x (by simp [hx])
    rw [valN, List.length_cons, pw]
    omega

def TrimL (l : List Int) : Prop := l.getLast? ≠ some 0
theorem TrimL.nil : TrimL [] := by simp [TrimL]
theorem TrimL.low {l : List Int} (hd : DigL l) (ht : TrimL l) (h0 : 0 < l.length) : pw (l.length - 1) ≤ valN l := by
  obtain ⟨m, d, rfl⟩ : ∃ m d, l = m ++ [d] := ⟨l.dropLast, l.getLast (by intro e; subst e; simp at h0), (List.dropLast_concat_getLast _).symm⟩
  have hd0 : d ≠ 0 := fun e => ht (by rw [e]; simp)
  have h1 := hd d (by simp)
  have h2 := DigL.bnd (l := m) fun x hx => hd x (by simp [hx])
  rw [valN_snoc, List.length_append]
  simp only [List.length_cons, List.length_nil, Nat.zero_add, Nat.add_sub_cancel]
  have h3 := pw_pos m.length
  have : pw m.length * 1 ≤ pw m.length * d := Int.mul_le_mul_of_nonneg_left (by omega) (by omega)
  omega
theorem TrimL.of_low {l : List Int} (hd : DigL l) (h : 0 < l.length → pw (l.length - 1) ≤ valN l) : TrimL l := by
  intro he
  obtain ⟨m, rfl⟩ := List.getLast?_eq_some_iff.1 he
  have h1 := h (by simp)
  rw [valN_snoc, List.length_append] at h1
  have h2 := DigL.bnd (l := m) fun x hx => hd x (by simp [hx])
  simp only [List.length_cons, List.length_nil, Nat.zero_add, Nat.add_sub_cancel] at h1
  omega
theorem trim_zero {l : List Int} (hd : DigL l) (ht : TrimL l) : valN l = 0 ↔ l.length = 0 := by
  constructor
  · intro h
    rcases Nat.eq_zero_or_pos l.length with h0 | h0
    · exact h0
    · have := ht.low hd h0
      have := pw_pos (l.length - 1)
      omega
  · intro h
    have := List.eq_nil_of_length_eq_zero h
    subst this; rfl
theorem trim_lt {l m : List Int} (hl : DigL l) (hm : DigL m) (ht : TrimL m) (h : l.length < m.length) : valN l < valN m := by
  have h1 := hl.bnd
  have h2 := ht.low hm (by omega)
  have h3 := pw_mono (show l.length ≤ m.length - 1 by omega)
  omega
theorem trim_le {l m : List Int} (hl : DigL l) (hm : DigL m) (ht : TrimL l) (h : valN l ≤ valN m) : l.length ≤ m.length := by
  rcases Nat.lt_or_ge m.length l.length with c | c
  · have := trim_lt hm hl ht c; omega
  · exact c

def digF (l : List Int) (i : Nat) : Int := l[i]?.getD 0
theorem digF_bnd {l : List Int} (h : DigL l) (i : Nat) : 0 ≤ digF l i ∧ digF l i < 1000000000 := by
  unfold digF
  cases e : l[i]? with
  | none => decide
  | some d => exact h d (List.mem_of_getElem? e)
theorem take_val (l : List Int) (k : Nat) : valN (l.take (k + 1)) = valN (l.take k) + pw k * digF l k := by
  rcases Nat.lt_or_ge k l.length with h | h
  · rw [List.take_succ_eq_append_getElem h, valN_snoc, List.length_take, Nat.min_eq_left (by omega)]
    unfold digF; rw [List.getElem?_eq_getElem h]; rfl
  · rw [List.take_of_length_le (by omega), List.take_of_length_le h]
    unfold digF; rw [List.getElem?_eq_none h]; simp
theorem take_all {l : List Int} {k : Nat} (h : l.length ≤ k) : valN (l.take k) = valN l := by rw [List.take_of_length_le h]
theorem drop_val (l : List Int) (k : Nat) : valN l = valN (l.take k) + pw k * valN (l.drop k) := by
  rcases Nat.lt_or_ge k l.length with h | h
  · conv => lhs; rw [← List.take_append_drop k l]
    rw [valN_app, List.length_take, Nat.min_eq_left (by omega)]
  · rw [List.take_of_length_le h, List.drop_of_length_le h]; simp [valN]
theorem set_val {l : List Int} {k : Nat} (h : k < l.length) (d : Int) : valN (l.set k d) = valN l + pw k * (d - digF l k) := by
  have e : l.set k d = l.take k ++ d :: l.drop (k + 1) := by
    rw [List.set_eq_take_append_cons_drop, if_pos h]
  have e2 : valN l = valN (l.take k) + pw k * (digF l k + 1000000000 * valN (l.drop (k + 1))) := by
    rw [drop_val l k, List.drop_eq_getElem_cons h, valN]
    unfold digF; rw [List.getElem?_eq_getElem h]; rfl
  rw [e, valN_app, valN, List.length_take, Nat.min_eq_left (by omega), e2]
  grind
theorem DigL.set {l : List Int} (h : DigL l) {k : Nat} {d : Int} (h0 : 0 ≤ d) (h1 : d < 1000000000) : DigL (l.set k d) := fun x hx => by
  rcases List.mem_or_eq_of_mem_set hx with h2 | h2
  · exact h x h2
  · subst h2; exact ⟨h0, h1⟩

theorem top_lt {l m : List Int} (hl : DigL l) (hm : DigL m) {k : Nat} (he : ∀ i, k < i → digF l i = digF m i) (hlen : l.length = m.length) (h : digF l k < digF m k) (hk : k < l.length) : valN l < valN m := by
  have hdrop : l.drop (k + 1) = m.drop (k + 1) := by
    refine List.ext_getElem (by simp [hlen]) fun i h1 h2 => ?_
    rw [List.length_drop] at h1 h2
    have := he (k + 1 + i) (by omega)
    unfold digF at this
    rw [List.getElem?_eq_getElem (by omega), List.getElem?_eq_getElem (by omega)] at this
    simpa using this
  have e1 := drop_val l (k + 1)
  have e2 := drop_val m (k + 1)
  rw [take_val, hdrop] at e1
  rw [take_val] at e2
  have b1 := (hl.take k).bnd
  have b2 := (hm.take k).bnd
  rw [List.length_take, Nat.min_eq_left (by omega)] at b1
  have h3 := pw_pos k
  have : pw k * (digF l k + 1) ≤ pw k * digF m k := Int.mul_le_mul_of_nonneg_left (by omega) (by omega)
  rw [Int.mul_add] at this
  omega
end Go.Proofs.YtlffndehhhpgjaaGreat

namespace Go.Proofs.YtlffndehhhpgjaaGreat
open Go.RowKit
set_option linter.unusedVariables false
set_option linter.unusedSimpArgs false

def NatV (w : World) (v : Value) (L : Nat) (N : Int) : Prop := ∃ a n cap, ∃ l : List Int, v = .slice a n cap ∧ l.length = n ∧ n ≤ L ∧ IntsAt w a l ∧ DigL l ∧ TrimL l ∧ valN l = N
theorem NatV.below {w w' : World} {v : Value} {L : Nat} {N : Int} (h : NatV w v L N) (hb : Below w.heap.size w w') : NatV w' v L N := by
  obtain ⟨a, n, cap, l, h1, h2, h3, h4, h5⟩ := h
  exact ⟨a, n, cap, l, h1, h2, h3, h4.below hb, h5⟩
theorem NatV.le {w : World} {v : Value} {L K : Nat} {N : Int} (h : NatV w v L N) (hk : L ≤ K) : NatV w v K N := by
  obtain ⟨a, n, cap, l, h1, h2, h3, h4⟩ := h
  exact ⟨a, n, cap, l, h1, h2, by omega, h4⟩
theorem NatV.nonneg {w : World} {v : Value} {L : Nat} {N : Int} (h : NatV w v L N) : 0 ≤ N := by
  obtain ⟨a, n, cap, l, h1, h2, h3, h4, h5, h6, h7⟩ := h
  rw [← h7]; exact h5.bnd.1

theorem digit_c (w : World) (a : Option Addr) (n cap : Nat) (l : List Int) (hn : l.length = n) (hm : n ≤ 1000) (H : IntsAt w a l) (i : Nat) :
    Calls Tryz.prog 140 #[.slice a n cap, .int .i64 i] w fun e w' => e = .returned (.int .i64 (digF l i)) ∧ w = w' := by
  by_cases h : i < n
  · obtain ⟨b, o, rfl, hb, hc⟩ := H i (by omega)
    have hv : l[i]?.getD 0 = digF l i := rfl
    rw [hv] at hc
    have i1 : (i : Int) < (n : Int) := by omega
    obtain ⟨d, hd⟩ : ∃ d, d = digF l i := ⟨_, rfl⟩
    rw [← hd] at hc ⊢
    clear H hn hv hd
    go_enter Tryz.func140, Tryz.ntmps140
    go_wp2
    go_ret
    exact ⟨rfl, rfl⟩
  · have i1 : ¬ (i : Int) < (n : Int) := by omega
    have hd : digF l i = 0 := by unfold digF; rw [List.getElem?_eq_none (by omega)]; rfl
    rw [hd]
    clear H hn hd
    go_enter Tryz.func140, Tryz.ntmps140
    go_wp2
    go_ret
    exact ⟨rfl, rfl⟩

theorem li_nat : (Tryz.prog.info? 3).map (fun i => (i.zero, i.size, i.bytes)) = some (some (.int .i64 0), 1, 8) := by kernel_rfl

set_option maxHeartbeats 1000000 in
theorem natOf_c (w : World) (n : Int) (h0 : 0 ≤ n) (h1 : n ≤ 9223372036854775807) :
    Calls Tryz.prog 74 #[.int .i64 n] w fun e w' => ∃ v, e = .returned v ∧ NatV w' v 3 n ∧ Below w.heap.size w w' := by
  have p3 : pw 3 = 1000000000000000000000000000 := by decide +kernel
  go_enter Tryz.func74, Tryz.ntmps74
  go_wp2
  go_loopw [0, 3] (fun m v wr => ∃ (k : Int) (l : List Int), 0 ≤ k ∧ k ≤ n ∧ m = .int .i64 k ∧ wr.ownsRow w.heap.size 3 1 v l.length (l.map (Value.int .i64)) ∧ Below w.heap.size w wr ∧ Hid (l.length ≤ 3 ∧ DigL l ∧ valN l + pw l.length * k = n ∧ (0 < l.length → pw (l.length - 1) ≤ n))) (fun m _ _ => (intOf m).toNat)
  case atStart => exact ⟨n, [], h0, Int.le_refl _, rfl, World.ownsRow_nil _ _ _ _, Below.refl _ _, hid ⟨by decide, DigL.nil, by simp [valN, pw], fun h => by simp at h⟩⟩
  case round =>
    obtain ⟨k, l, hk0, hkn, rfl, hown, hbk, HI⟩ := hrel
    by_cases hk : 0 < k
    · obtain ⟨L, hL⟩ : ∃ L, L = l.length := ⟨_, rfl⟩
      rw [← hL] at hown
      obtain ⟨va, vc, rfl⟩ := ownsRow_slice hown
      have HO := hid hown
      obtain ⟨i1, i2, i3, i4⟩ := HI.out
      have hb := i2.bnd
      have hpk : pw l.length ≤ n := by
        have h2 := pw_pos l.length
        have : pw l.length * 1 ≤ pw l.length * k := Int.mul_le_mul_of_nonneg_left (by omega) (by omega)
        omega
      have hl2 : l.length ≤ 2 := by
        rcases Nat.lt_or_ge 2 l.length with h | h
        · have := pw_mono (show 3 ≤ l.length by omega); omega
        · exact h
      have et : k.tmod 1000000000 = k % 1000000000 := Int.tmod_eq_emod_of_nonneg hk0
      have ed : k.tdiv 1000000000 = k / 1000000000 := Int.tdiv_eq_ediv_of_nonneg hk0
      have HN := hid (show (l ++ [k % 1000000000]).length ≤ 3 ∧ DigL (l ++ [k % 1000000000]) ∧ valN (l ++ [k % 1000000000]) + pw (l ++ [k % 1000000000]).length * (k / 1000000000) = n ∧ (0 < (l ++ [k % 1000000000]).length → pw ((l ++ [k % 1000000000]).length - 1) ≤ n) from by
        refine ⟨by simp; omega, i2.snoc (by omega) (by omega), ?_, fun _ => by simpa using hpk⟩
        rw [valN_snoc, List.length_append]
        simp only [List.length_cons, List.length_nil, Nat.zero_add]
        rw [pw]
        have : k = k % 1000000000 + 1000000000 * (k / 1000000000) := by omega
        generalize k % 1000000000 = r at this ⊢
        generalize k / 1000000000 = q at this ⊢
        subst this
        grind)
      obtain ⟨r, hr⟩ : ∃ r, r = k % 1000000000 := ⟨_, rfl⟩
      obtain ⟨q, hq⟩ : ∃ q, q = k / 1000000000 := ⟨_, rfl⟩
      rw [← hr] at et HN
      rw [← hq] at ed HN
      have hr1 : 0 ≤ r ∧ r < 1000000000 := by omega
      have hq1 : 0 ≤ q ∧ q < k := by omega
      have M1 := hid (show L + 1 ≤ maxLen by unfold maxLen; omega)
      have M2 := hid (show (L + 1) * 8 ≤ 140737488355328 by omega)
      have M3 := hid (Nat.le_trans hbk.size (le_alloc wr (.cells #[.int .i64 r] 3)))
      have HLL := hid hL
      clear hown i1 i2 i3 i4 hb hpk hl2 hr hq hL HI p3
      go_wp2_with (at_builtin; refine wpList_app _ rfl (.tmp 8) (.tmp 11) 35 rfl w.heap.size 3 (.int .i64 0) 1 8 Tryz.underlying35 li_nat rfl Nat.one_pos (.slice va L vc) L _ rfl (HO.out.alloc _) (some ⟨wr.heap.size, 0, none⟩) 1 1 [.int .i64 r] rfl rfl no_none (one_news wr _ _) (li_one _) M1.out M2.out M3.out ?_; refine Stop.of ?_)
      refine Stop.go ?_
      intro a3 c3 w3 own3 g3
      have hB3 : Below w.heap.size w w3 := (hbk.alloc hbk.size _).grown g3 M3.out (fun k hk => (HO.out.lt k hk).1)
      go_wp2
      refine ⟨⟨q, l ++ [r], hq1.1, by omega, rfl, ?_, hB3, HN⟩, by simp [intOf]; omega⟩
      rw [List.length_append, ← HLL.out]
      simpa using own3
    · obtain rfl : k = 0 := by omega
      obtain ⟨va, vc, rfl⟩ := ownsRow_slice hown
      have HO := hid hown
      obtain ⟨i1, i2, i3, i4⟩ := HI.out
      rw [Int.mul_zero, Int.add_zero] at i3
      have HNV := hid (show ∀ a c, (Value.slice va l.length vc = .slice a l.length c → IntsAt wr a l → NatV wr (.slice va l.length vc) 3 n) from fun a c e hI => ⟨a, l.length, c, l, e, rfl, i1, hI, i2, TrimL.of_low i2 (fun h => by rw [i3]; exact i4 h), i3⟩)
      obtain ⟨a5, c5, e5, hI5, _⟩ := ints_of_own hown rfl
      have HF := hid (HNV.out a5 c5 e5 hI5)
      clear hown i1 i2 i3 i4 HI HNV e5 hI5 p3
      go_wp2
      go_ret
      exact ⟨_, rfl, HF.out, hbk⟩

def lenOf : Value → Nat
  | .slice _ k _ => k
  | _ => 0

set_option maxHeartbeats 1000000 in
theorem trimmed_c (w : World) (a : Option Addr) (n cap : Nat) (l : List Int) (hn : l.length = n) (hm : n ≤ 1000) (hc : n ≤ cap) (H : IntsAt w a l) (hd : DigL l) :
    Calls Tryz.prog 141 #[.slice a n cap] w fun e w' => ∃ v, e = .returned v ∧ NatV w' v n (valN l) ∧ Below w.heap.size w w' := by
  have HN := hid hn
  have HH := hid H
  have HD := hid hd
  clear hn H hd
  go_enter Tryz.func141, Tryz.ntmps141
  go_wp2
  go_loopw [0] (fun v wr => ∃ k : Nat, k ≤ n ∧ v = .slice a k cap ∧ wr = w ∧ Hid (valN (l.take k) = valN l)) (fun v _ => lenOf v)
  case atStart => exact ⟨n, Nat.le_refl _, rfl, rfl, hid (take_all (by rw [HN.out]; exact Nat.le_refl _))⟩
  case round =>
    obtain ⟨k, hk, rfl, rfl, HV⟩ := hrel
    have hfin : TrimL (l.take k) → NatV wr (.slice a k cap) n (valN l) := fun ht => by
      refine ⟨a, k, cap, l.take k, rfl, by rw [List.length_take, HN.out]; omega, hk, fun j hj => ?_, HD.out.take k, ht, HV.out⟩
      rw [List.length_take] at hj
      obtain ⟨b, o, e, hb, hc⟩ := HH.out j (by omega)
      refine ⟨b, o, e, hb, ?_⟩
      rw [hc, List.getElem?_take_of_lt (by omega)]
    have HF := hid hfin
    clear hfin
    rcases Nat.eq_zero_or_pos k with hk0 | hk0
    · subst hk0
      have hF := HF.out (by rw [List.take_zero]; exact TrimL.nil)
      have HFF := hid hF
      clear hF HF
      go_wp2
      go_ret
      exact ⟨_, rfl, HFF.out, Below.refl _ _⟩
    · obtain ⟨j, rfl⟩ : ∃ j, k = j + 1 := ⟨k - 1, by omega⟩
      obtain ⟨b, o, rfl, hb, hcj⟩ := HH.out j (by rw [HN.out]; omega)
      have hv : l[j]?.getD 0 = digF l j := rfl
      rw [hv] at hcj
      have htv := take_val l j
      have HX := hid (fun (h : digF l j = 0) => show valN (l.take j) = valN l from by rw [← HV.out, htv, h]; simp)
      have HY := hid (fun (h : digF l j ≠ 0) => HF.out (by
        have hjl : j < l.length := by rw [HN.out]; omega
        rw [List.take_succ_eq_append_getElem hjl]
        unfold TrimL
        simp only [List.getLast?_append, List.getLast?_singleton]
        intro e
        refine h ?_
        unfold digF
        rw [List.getElem?_eq_getElem hjl]
        simpa using e))
      obtain ⟨d, hdd⟩ : ∃ d, d = digF l j := ⟨_, rfl⟩
      rw [← hdd] at hcj HX HY
      have i1 : ((j + 1 : Nat) : Int) - 1 = (j : Int) := by omega
      have i2 : (j : Int) < ((j + 1 : Nat) : Int) := by omega
      have i3 : (0 : Int) < ((j + 1 : Nat) : Int) := by omega
      have i4 : IntKind.i64.wrap (((j + 1 : Nat) : Int) - 1) = (j : Int) := by rw [i1]; exact IntWalk.i64_in _ (by omega)
      have i5 : (j : Int) ≤ (cap : Int) := by omega
      obtain ⟨J, hJ⟩ : ∃ J, J = j + 1 := ⟨_, rfl⟩
      rw [← hJ] at i1 i2 i3 i4 hk HY HF ⊢
      by_cases h0 : d = 0
      · have hz := HX.out h0
        have HZ := hid hz
        have hjn : j ≤ n := by omega
        have hJJ : j < J := by omega
        subst h0
        clear hz HX HY HF hv htv hdd HV hJ
        go_wp2
        exact ⟨⟨j, hjn, rfl, by first | trivial | rfl, HZ⟩, by simp [lenOf]; omega⟩
      · have hF := HY.out h0
        have HFF := hid hF
        have hdb : (d == 0) = false := by simp [h0]
        clear hF HX HY HF hv htv hdd HV hJ
        go_wp2
        go_ret
        exact ⟨_, rfl, HFF.out, Below.refl _ _⟩

theorem ord_len {l m : List Int} (hl : DigL l) (hm : DigL m) (tl : TrimL l) (tm : TrimL m) (h : l.length ≠ m.length) : cmpI (valN l) (valN m) = if l.length < m.length then -1 else 1 := by
  unfold cmpI
  by_cases c : l.length < m.length
  · rw [if_pos c, if_pos (trim_lt hl hm tm c)]
  · have := trim_lt hm hl tl (by omega)
    rw [if_neg c, if_neg (by omega), if_neg (by omega)]
theorem cmp_swap (V U : Int) (h : U < V) : cmpI V U = 1 := by unfold cmpI; rw [if_neg (by omega), if_neg (by omega)]

set_option maxRecDepth 100000 in
set_option maxHeartbeats 1000000 in
theorem order_c (w : World) (v u : Value) (L K : Nat) (N M : Int) (h : NatV w v L N) (k : NatV w u K M) (hL : L ≤ 1000) (hK : K ≤ 1000) :
    Calls Tryz.prog 77 #[v, u] w fun e w' => e = .returned (.int .i64 (cmpI N M)) ∧ Below w.heap.size w w' := by
  obtain ⟨a, n, cap, l, rfl, hn, hnL, H, hd, ht, rfl⟩ := h
  obtain ⟨a2, n2, cap2, m, rfl, hn2, hnK, H2, hd2, ht2, rfl⟩ := k
  by_cases hlen : n = n2
  rotate_left
  · have hc := ord_len hd hd2 ht ht2 (by omega)
    rw [hn, hn2] at hc
    rw [hc]
    have hneb : ((n : Int) != (n2 : Int)) = true := by simp; omega
    clear H H2 hd hd2 ht ht2 hc hn hn2
    by_cases c : n < n2
    · have i1 : (n : Int) < (n2 : Int) := by omega
      rw [if_pos c]
      go_enter Tryz.func77, Tryz.ntmps77
      go_wp2
      go_ret
      exact ⟨rfl, Below.refl _ _⟩
    · have i1 : ¬ (n : Int) < (n2 : Int) := by omega
      rw [if_neg c]
      go_enter Tryz.func77, Tryz.ntmps77
      go_wp2
      go_ret
      exact ⟨rfl, Below.refl _ _⟩
  subst hlen
  have HT := hid (fun (i : Nat) (he : ∀ j, i < j → digF l j = digF m j) (hi : i < n) => (show (digF l i < digF m i → cmpI (valN l) (valN m) = -1) ∧ (digF m i < digF l i → cmpI (valN l) (valN m) = 1) from
    ⟨fun h => by unfold cmpI; rw [if_pos (top_lt hd hd2 he (by omega) h (by omega))], fun h => cmp_swap _ _ (top_lt hd2 hd (fun j hj => (he j hj).symm) (by omega) h (by omega))⟩))
  have HE := hid (fun (he : ∀ j, digF l j = digF m j) => show cmpI (valN l) (valN m) = 0 from by
    have : l = m := List.ext_getElem (by omega) fun i h1 h2 => by
      have := he i
      unfold digF at this
      rw [List.getElem?_eq_getElem h1, List.getElem?_eq_getElem h2] at this
      simpa using this
    rw [this]; unfold cmpI; rw [if_neg (by omega), if_pos rfl])
  obtain ⟨C, hC⟩ : ∃ C, C = cmpI (valN l) (valN m) := ⟨_, rfl⟩
  rw [← hC] at HT HE ⊢
  have HH := hid (fun (X : World) (hX : Below w.heap.size w X) => H.below hX)
  have HH2 := hid (fun (X : World) (hX : Below w.heap.size w X) => H2.below hX)
  have HN := hid hn
  have HN2 := hid hn2
  have hsub : IntKind.i64.wrap ((n : Int) - 1) = (n : Int) - 1 := IntWalk.i64_in _ (by omega)
  have hneb : ((n : Int) != (n : Int)) = false := by simp
  have HOUT := hid (show ∀ j, n ≤ j → digF l j = digF m j from fun j hj => by
    unfold digF
    rw [List.getElem?_eq_none (by omega), List.getElem?_eq_none (by omega)])
  clear H H2 hd hd2 ht ht2 hC hn hn2
  go_enter Tryz.func77, Tryz.ntmps77
  go_wp2
  go_loopw [5] (fun i wr => ∃ k : Nat, k ≤ n ∧ i = .int .i64 ((k : Int) - 1) ∧ Below w.heap.size w wr ∧ Hid (∀ j, k ≤ j → digF l j = digF m j)) (fun i _ => (intOf i + 1).toNat)
  case atStart => exact ⟨n, Nat.le_refl _, by simp, Below.refl _ _, HOUT⟩
  case round =>
    obtain ⟨k, hk, rfl, hbk, HQ⟩ := hrel
    rcases Nat.eq_zero_or_pos k with hk0 | hk0
    · subst hk0
      obtain rfl : C = 0 := HE.out fun j => HQ.out j (Nat.zero_le _)
      go_wp2
      go_ret
      exact ⟨rfl, hbk⟩
    · obtain ⟨j, rfl⟩ : ∃ j, k = j + 1 := ⟨k - 1, by omega⟩
      obtain ⟨b, o, rfl, hb, hc⟩ := (HH.out wr hbk) j (by rw [HN.out]; omega)
      obtain ⟨b2, o2, rfl, hb2, hc2⟩ := (HH2.out wr hbk) j (by rw [HN2.out]; omega)
      have hv : l[j]?.getD 0 = digF l j := rfl
      have hv2 : m[j]?.getD 0 = digF m j := rfl
      rw [hv] at hc
      rw [hv2] at hc2
      obtain ⟨HT1, HT2⟩ := HT.out j (fun i hi => HQ.out i (by omega)) (by omega)
      have HX := hid (fun (h : digF l j = digF m j) => show ∀ i, j ≤ i → digF l i = digF m i from fun i hi => by
        rcases Nat.lt_or_ge j i with h1 | h1
        · exact HQ.out i (by omega)
        · obtain rfl : i = j := by omega
          exact h)
      obtain ⟨x, hx⟩ : ∃ x, x = digF l j := ⟨_, rfl⟩
      obtain ⟨y, hy⟩ : ∃ x, x = digF m j := ⟨_, rfl⟩
      rw [← hx, ← hy] at HX HT1 HT2
      rw [← hx] at hc
      rw [← hy] at hc2
      have e1 : ((j + 1 : Nat) : Int) - 1 = (j : Int) := by omega
      rw [e1]
      have i1 : (j : Int) < (n : Int) := by omega
      have i2 : IntKind.i64.wrap ((j : Int) - 1) = (j : Int) - 1 := IntWalk.i64_in _ (by omega)
      clear hv hv2 hx hy HQ HT HE e1
      rcases Int.lt_trichotomy x y with c | c | c
      · obtain rfl : C = -1 := HT1 c
        have HBK := hid hbk
        clear HT1 HT2 hbk
        go_wp2
        go_quiet (fail)
        go_wp2
        go_ret
        exact ⟨rfl, below_drewN HBK.out _⟩
      · have hz := HX.out c
        have HZ := hid hz
        subst c
        have HBK := hid hbk
        clear HT1 HT2 hz HX hbk
        go_wp2
        go_quiet (fail)
        go_wp2
        go_quiet (fail)
        go_wp2
        refine ⟨⟨j, by omega, rfl, below_drewN HBK.out _, HZ⟩, by simp [intOf]⟩
      · obtain rfl : C = 1 := HT2 c
        have i3 : ¬ x < y := by omega
        have HBK := hid hbk
        clear HT1 HT2 hbk
        go_wp2
        go_quiet (fail)
        go_wp2
        go_quiet (fail)
        go_wp2
        go_ret
        exact ⟨rfl, below_drewN (below_drewN HBK.out _) _⟩
end Go.Proofs.YtlffndehhhpgjaaGreat

namespace Go.Proofs.YtlffndehhhpgjaaGreat
open Go.RowKit
set_option linter.unusedVariables false
set_option linter.unusedSimpArgs false

set_option maxRecDepth 100000 in
set_option maxHeartbeats 1000000 in
theorem plus_c (w : World) (v u : Value) (L K : Nat) (N M : Int) (h : NatV w v L N) (k : NatV w u K M) (hL : L ≤ 400) (hK : K ≤ 400) :
    Calls Tryz.prog 76 #[v, u] w fun e w' => ∃ x, e = .returned x ∧ NatV w' x (max L K + 1) (N + M) ∧ Below w.heap.size w w' := by
  obtain ⟨a, n, cap, l, rfl, hn, hnL, H, hd, ht, rfl⟩ := h
  obtain ⟨a2, n2, cap2, m, rfl, hn2, hnK, H2, hd2, ht2, rfl⟩ := k
  have HD1 := hid (fun (X : World) (hX : Below w.heap.size w X) (i : Nat) => digit_c X a n cap l hn (by omega) (H.below hX) i)
  have HD2 := hid (fun (X : World) (hX : Below w.heap.size w X) (i : Nat) => digit_c X a2 n2 cap2 m hn2 (by omega) (H2.below hX) i)
  obtain ⟨T, hT⟩ : ∃ T, T = max n n2 := ⟨_, rfl⟩
  have hTL : T ≤ max L K := by omega
  -- how the sum grows
  have HST := hid (fun (i : Nat) (o : List Int) (c : Int) (ho : o.length = i) (hod : DigL o) (hc : 0 ≤ c ∧ c ≤ 1) (hv : valN o + pw i * c = valN (l.take i) + valN (m.take i)) =>
    show 0 ≤ digF l i + digF m i + c ∧ digF l i + digF m i + c ≤ 1999999999 ∧ DigL (o ++ [(digF l i + digF m i + c) % 1000000000]) ∧ (0 ≤ (digF l i + digF m i + c) / 1000000000 ∧ (digF l i + digF m i + c) / 1000000000 ≤ 1) ∧
      valN (o ++ [(digF l i + digF m i + c) % 1000000000]) + pw (i + 1) * ((digF l i + digF m i + c) / 1000000000) = valN (l.take (i + 1)) + valN (m.take (i + 1)) from by
    have b1 := digF_bnd hd i
    have b2 := digF_bnd hd2 i
    refine ⟨by omega, by omega, hod.snoc (by omega) (by omega), by omega, ?_⟩
    rw [valN_snoc, ho, take_val, take_val, pw]
    have : digF l i + digF m i + c = (digF l i + digF m i + c) % 1000000000 + 1000000000 * ((digF l i + digF m i + c) / 1000000000) := by omega
    generalize (digF l i + digF m i + c) % 1000000000 = r at this ⊢
    generalize (digF l i + digF m i + c) / 1000000000 = q at this ⊢
    have e : c = r + 1000000000 * q - digF l i - digF m i := by omega
    subst e
    grind)
  -- the sum when no more is to be added
  have HEN := hid (fun (i : Nat) (o : List Int) (ho : o.length = i) (hod : DigL o) (hi : T ≤ i) (hi2 : i ≤ T + 1) (hv : valN o + pw i * 0 = valN (l.take i) + valN (m.take i)) (hlast : T < i → pw T ≤ valN l + valN m) =>
    show valN o = valN l + valN m ∧ TrimL o from by
    rw [take_all (show l.length ≤ i by omega), take_all (show m.length ≤ i by omega)] at hv
    refine ⟨by omega, TrimL.of_low hod fun hpos => ?_⟩
    rw [ho] at hpos ⊢
    rcases Nat.lt_or_ge T i with c | c
    · obtain rfl : i = T + 1 := by omega
      have := hlast c
      rw [Nat.add_sub_cancel]; omega
    · obtain rfl : i = T := by omega
      have c1 := hd.bnd
      have c2 := hd2.bnd
      rcases Nat.lt_or_ge n n2 with c | c
      · have := ht2.low hd2 (by omega)
        rw [show m.length = i by omega] at this
        omega
      · have := ht.low hd (by omega)
        rw [show l.length = i by omega] at this
        omega)
  have HLA := hid (fun (o : List Int) (hod : DigL o) (ho : o.length = T) (hv : valN o + pw T * 1 = valN (l.take T) + valN (m.take T)) => show pw T ≤ valN l + valN m from by
    rw [take_all (show l.length ≤ T by omega), take_all (show m.length ≤ T by omega)] at hv
    have := hod.bnd
    omega)
  have HZD := hid (fun (i : Nat) (hi : T ≤ i) => show digF l i = 0 ∧ digF m i = 0 from by
    unfold digF
    rw [List.getElem?_eq_none (by omega), List.getElem?_eq_none (by omega)]
    exact ⟨rfl, rfl⟩)
  have HDB := hid (fun (i : Nat) => And.intro (digF_bnd hd i) (digF_bnd hd2 i))
  obtain ⟨S, hS⟩ : ∃ S, S = valN l + valN m := ⟨_, rfl⟩
  rw [← hS] at HEN HLA ⊢
  have hT1 : n ≤ T := by omega
  have hT2 : n2 ≤ T := by omega
  have hT3 : T = n ∨ T = n2 := by omega
  have hT4 : T ≤ 400 := by omega
  clear H H2 hd hd2 ht ht2 hn hn2 hS hT
  go_enter Tryz.func76, Tryz.ntmps76
  go_wp2
  go_loopw [5, 6, 7] (fun o c i wr => ∃ (t : Nat) (ol : List Int) (cc : Int), t ≤ T + 1 ∧ i = .int .i64 t ∧ c = .int .i64 cc ∧ wr.ownsRow w.heap.size 3 1 o t (ol.map (Value.int .i64)) ∧ Below w.heap.size w wr ∧ 0 ≤ cc ∧ cc ≤ 1 ∧
    Hid (ol.length = t ∧ DigL ol ∧ valN ol + pw t * cc = valN (l.take t) + valN (m.take t) ∧ (T < t → cc = 0 ∧ pw T ≤ S))) (fun _ _ i _ => T + 2 - (intOf i).toNat)
  case atStart => exact ⟨0, [], 0, Nat.zero_le _, rfl, rfl, World.ownsRow_nil _ _ _ _, Below.refl _ _, by decide, by decide, hid ⟨rfl, DigL.nil, by simp [valN], fun h => by omega⟩⟩
  case round =>
    obtain ⟨t, ol, cc, ht, rfl, rfl, hown, hbk, hc0, hc1, HI⟩ := hrel
    obtain ⟨va, vc, rfl⟩ := ownsRow_slice hown
    by_cases hgo : t < T ∨ 0 < cc
    · have htT : t ≤ T := by
        rcases hgo with h | h
        · omega
        · rcases Nat.lt_or_ge T t with c | c
          · have := (HI.out.2.2.2 c).1; omega
          · exact c
      obtain ⟨j1, j2, j3, j4, j5⟩ := HST.out t ol cc HI.out.1 HI.out.2.1 ⟨hc0, hc1⟩ HI.out.2.2.1
      have hlast : t = T → cc = 1 := fun e => by omega
      have HC1 := hid (HD1.out wr hbk t)
      have HC2 := hid (HD2.out wr hbk t)
      have HLT := hid (show T < t + 1 → (digF l t + digF m t + cc) / 1000000000 = 0 ∧ pw T ≤ S from fun h => by
        obtain rfl : t = T := by omega
        have hcc := hlast rfl
        subst hcc
        refine ⟨?_, HLA.out ol HI.out.2.1 HI.out.1 HI.out.2.2.1⟩
        obtain ⟨z1, z2⟩ := HZD.out t (Nat.le_refl _)
        rw [z1, z2]; decide)
      obtain ⟨⟨bx1, bx2⟩, by1, by2⟩ := HDB.out t
      obtain ⟨x, hx⟩ : ∃ x, x = digF l t := ⟨_, rfl⟩
      obtain ⟨y, hy⟩ : ∃ x, x = digF m t := ⟨_, rfl⟩
      rw [← hx, ← hy] at j1 j2 j3 j4 j5 HLT
      rw [← hx] at bx1 bx2
      rw [← hy] at by1 by2
      rw [← hx] at HC1
      rw [← hy] at HC2
      have et : (x + y + cc).tmod 1000000000 = (x + y + cc) % 1000000000 := Int.tmod_eq_emod_of_nonneg j1
      have ed : (x + y + cc).tdiv 1000000000 = (x + y + cc) / 1000000000 := Int.tdiv_eq_ediv_of_nonneg j1
      obtain ⟨z, hz⟩ : ∃ z, z = x + y + cc := ⟨_, rfl⟩
      have e1 : IntKind.i64.wrap (x + y) = x + y := IntWalk.i64_in _ (by omega)
      have e2 : IntKind.i64.wrap (x + y + cc) = z := by rw [← hz]; exact IntWalk.i64_in _ (by omega)
      rw [← hz] at et ed j1 j2 j3 j4 j5 HLT
      obtain ⟨r, hr⟩ : ∃ r, r = z % 1000000000 := ⟨_, rfl⟩
      obtain ⟨q, hq⟩ : ∃ q, q = z / 1000000000 := ⟨_, rfl⟩
      rw [← hr] at et j3 j5
      rw [← hq] at ed j4 j5 HLT
      have HNX := hid (show (ol ++ [r]).length = t + 1 ∧ DigL (ol ++ [r]) ∧ valN (ol ++ [r]) + pw (t + 1) * q = valN (l.take (t + 1)) + valN (m.take (t + 1)) ∧ (T < t + 1 → q = 0 ∧ pw T ≤ S) from ⟨by simp [HI.out.1], j3, j5, HLT.out⟩)
      have HO := hid hown
      have HBK := hid hbk
      have M1 := hid (show t + 1 ≤ maxLen by unfold maxLen; omega)
      have M2 := hid (show (t + 1) * 8 ≤ 140737488355328 by omega)
      have M3 := hid (Nat.le_trans hbk.size (le_alloc wr (.cells #[.int .i64 r] 3)))
      have hgo3 : t < n ∨ (¬ t < n ∧ t < n2) ∨ (¬ t < n ∧ ¬ t < n2 ∧ 0 < cc) := by omega
      clear hown hbk HI HLT hx hy hz hr hq j1 j2 j3 j5 hlast hgo bx1 bx2 by1 by2 HST HEN HLA HZD HDB
      rcases hgo3 with g1 | ⟨g1, g2⟩ | ⟨g1, g2, g3⟩
      all_goals
        go_wp2_with (go_at_call 140; refine HC1.out.mono ?_; rintro e w1 ⟨rfl, rfl⟩; refine Stop.of ?_)
        refine Stop.go ?_
        go_wp2_with (go_at_call 140; refine HC2.out.mono ?_; rintro e w1 ⟨rfl, rfl⟩; refine Stop.of ?_)
        refine Stop.go ?_
        go_wp2_with (at_builtin; refine wpList_app _ rfl (.tmp 34) (.tmp 37) 35 rfl w.heap.size 3 (.int .i64 0) 1 8 Tryz.underlying35 li_nat rfl Nat.one_pos (.slice va t vc) t _ rfl (HO.out.alloc _) (some ⟨wr.heap.size, 0, none⟩) 1 1 [.int .i64 r] rfl rfl no_none (one_news wr _ _) (li_one _) M1.out M2.out M3.out ?_; refine Stop.of ?_)
        refine Stop.go ?_
        intro a3 c3 w3 own3 g3'
        have hB3 : Below w.heap.size w w3 := (HBK.out.alloc HBK.out.size _).grown g3' M3.out (fun k hk => (HO.out.lt k hk).1)
        go_wp2
        refine ⟨⟨t + 1, ol ++ [r], q, by omega, by go_num, rfl, ?_, hB3, j4.1, j4.2, HNX⟩, by simp [intOf]; omega⟩
        simpa using own3
    · have g1 : ¬ t < n := by omega
      have g2 : ¬ t < n2 := by omega
      have g3 : ¬ 0 < cc := by omega
      obtain rfl : cc = 0 := by omega
      obtain ⟨i1, i2, i3, i4⟩ := HI.out
      obtain ⟨k1, k2⟩ := HEN.out t ol i1 i2 (by omega) ht i3 (fun h => (i4 h).2)
      obtain ⟨a5, c5, e5, hI5, _⟩ := ints_of_own hown i1
      cases e5
      have HF := hid (show NatV wr (.slice va t vc) (max L K + 1) S from ⟨va, t, vc, ol, rfl, i1, by omega, hI5, i2, k2, k1⟩)
      have HBK := hid hbk
      clear hown hbk HI i1 i2 i3 i4 k1 k2 hI5
      go_wp2
      go_ret
      exact ⟨_, rfl, HF.out, HBK.out⟩
end Go.Proofs.YtlffndehhhpgjaaGreat

namespace Go.Proofs.YtlffndehhhpgjaaGreat
open Go.RowKit
set_option linter.unusedVariables false
set_option linter.unusedSimpArgs false

set_option maxRecDepth 100000 in
set_option maxHeartbeats 1000000 in
theorem minus_c (w : World) (v u : Value) (L K : Nat) (N M : Int) (h : NatV w v L N) (k : NatV w u K M) (hL : L ≤ 1000) (hK : K ≤ 1000) (hle : M ≤ N) :
    Calls Tryz.prog 78 #[v, u] w fun e w' => ∃ x, e = .returned x ∧ NatV w' x L (N - M) ∧ Below w.heap.size w w' := by
  obtain ⟨a, n, cap, l, rfl, hn, hnL, H, hd, ht, rfl⟩ := h
  obtain ⟨a2, n2, cap2, m, rfl, hn2, hnK, H2, hd2, ht2, rfl⟩ := k
  have HD2 := hid (fun (X : World) (hX : Below w.heap.size w X) (i : Nat) => digit_c X a2 n2 cap2 m hn2 (by omega) (H2.below hX) i)
  have HH := hid (fun (X : World) (hX : Below w.heap.size w X) => H.below hX)
  have HN := hid hn
  have hml := trim_le hd2 hd ht2 hle
  have HDB := hid (fun (i : Nat) => And.intro (digF_bnd hd i) (digF_bnd hd2 i))
  have HEN := hid (fun (o : List Int) (c : Int) (ho : o.length = n) (hod : DigL o) (hc : 0 ≤ c) (hv : valN o - pw n * c = valN (l.take n) - valN (m.take n)) => show valN o = valN l - valN m from by
    rw [take_all (show l.length ≤ n by omega), take_all (show m.length ≤ n by omega)] at hv
    have hb := hod.bnd
    rw [ho] at hb
    have hp := pw_pos n
    rcases Int.lt_or_le 0 c with h | h
    · have : pw n * 1 ≤ pw n * c := Int.mul_le_mul_of_nonneg_left (by omega) (by omega)
      omega
    · obtain rfl : c = 0 := by omega
      omega)
  have HST := hid (fun (i : Nat) (o : List Int) (c r c' : Int) (ho : o.length = i) (hv : valN o - pw i * c = valN (l.take i) - valN (m.take i)) (hr : r = digF l i - digF m i - c + 1000000000 * c') =>
    show valN (o ++ [r]) - pw (i + 1) * c' = valN (l.take (i + 1)) - valN (m.take (i + 1)) from by
    rw [valN_snoc, ho, take_val, take_val, pw]
    subst hr
    grind)
  obtain ⟨S, hS⟩ : ∃ S, S = valN l - valN m := ⟨_, rfl⟩
  rw [← hS] at HEN ⊢
  clear H H2 hd hd2 ht ht2 hn hn2 hS hle hml
  go_enter Tryz.func78, Tryz.ntmps78
  go_wp2
  go_loopw [5, 6, 11] (fun o c i wr => ∃ (t : Nat) (ol : List Int) (cc : Int), t ≤ n ∧ i = .int .i64 t ∧ c = .int .i64 cc ∧ wr.ownsRow w.heap.size 3 1 o t (ol.map (Value.int .i64)) ∧ Below w.heap.size w wr ∧ 0 ≤ cc ∧ cc ≤ 1 ∧
    Hid (ol.length = t ∧ DigL ol ∧ valN ol - pw t * cc = valN (l.take t) - valN (m.take t))) (fun _ _ i _ => n - (intOf i).toNat)
  case atStart => exact ⟨0, [], 0, Nat.zero_le _, rfl, rfl, World.ownsRow_nil _ _ _ _, Below.refl _ _, by decide, by decide, hid ⟨rfl, DigL.nil, by simp [valN]⟩⟩
  case round =>
    obtain ⟨t, ol, cc, ht, rfl, rfl, hown, hbk, hc0, hc1, HI⟩ := hrel
    obtain ⟨va, vc, rfl⟩ := ownsRow_slice hown
    by_cases hlt : t < n
    · obtain ⟨b, o, rfl, hb, hc⟩ := (HH.out wr hbk) t (by rw [HN.out]; exact hlt)
      have hv : l[t]?.getD 0 = digF l t := rfl
      rw [hv] at hc
      obtain ⟨⟨bx1, bx2⟩, by1, by2⟩ := HDB.out t
      have HS := hid (fun r c' (hr : r = digF l t - digF m t - cc + 1000000000 * c') => HST.out t ol cc r c' HI.out.1 HI.out.2.2 hr)
      have HDG := hid (fun (X : World) (hX : Below w.heap.size w X) => HD2.out X hX t)
      obtain ⟨x, hx⟩ : ∃ x, x = digF l t := ⟨_, rfl⟩
      obtain ⟨y, hy⟩ : ∃ x, x = digF m t := ⟨_, rfl⟩
      rw [← hx] at hc bx1 bx2 HS
      rw [← hy] at by1 by2 HS HDG
      have e1 : IntKind.i64.wrap (x - y) = x - y := IntWalk.i64_in _ (by omega)
      obtain ⟨z, hz⟩ : ∃ z, z = x - y - cc := ⟨_, rfl⟩
      have e2 : IntKind.i64.wrap (x - y - cc) = z := by rw [← hz]; exact IntWalk.i64_in _ (by omega)
      rw [← hz] at HS
      have hzb : -1000000000 ≤ z ∧ z < 1000000000 := by omega
      have hO := hid hown
      have HO := hid (fun (X : World) (hX : Below wr.heap.size wr X) => own_below hown hX)
      have HBK := hid hbk
      have M1 := hid (show t + 1 ≤ maxLen by unfold maxLen; omega)
      have M2 := hid (show (t + 1) * 8 ≤ 140737488355328 by omega)
      have i1 : (t : Int) < (n : Int) := by omega
      clear hown hv hx hy hz HST HEN HDB bx1 bx2 by1 by2 hO hb
      go_wp2
      go_quiet (first | (go_at_call 140; exact Calls.quiet_of_same ((HDG.out _ (by repeat (first | exact hbk | refine below_drewN ?_ _))).mono fun _ _ h => ⟨h.1, h.2.symm⟩)))
      have HB2 := hid (below_drewN HBK.out nq)
      have HO2 := hid (HO.out _ (below_drewN (Below.refl _ _) nq))
      clear HO hbk hc HDG HH HD2 HBK
      generalize wr.drewN nq = wq at HB2 HO2 ⊢
      by_cases hneg : z < 0
      · obtain ⟨r, hr⟩ : ∃ r, r = z + 1000000000 := ⟨_, rfl⟩
        have e3 : IntKind.i64.wrap (z + 1000000000) = r := by rw [← hr]; exact IntWalk.i64_in _ (by omega)
        have HNX := hid (show (ol ++ [r]).length = t + 1 ∧ DigL (ol ++ [r]) ∧ valN (ol ++ [r]) - pw (t + 1) * 1 = valN (l.take (t + 1)) - valN (m.take (t + 1)) from ⟨by simp [HI.out.1], HI.out.2.1.snoc (by omega) (by omega), HS.out r 1 (by omega)⟩)
        have M3 := hid (Nat.le_trans HB2.out.size (le_alloc wq (.cells #[.int .i64 r] 3)))
        clear hr HI HS
        go_wp2_with (at_builtin; refine wpList_app _ rfl (.tmp 28) (.tmp 30) 35 rfl w.heap.size 3 (.int .i64 0) 1 8 Tryz.underlying35 li_nat rfl Nat.one_pos (.slice va t vc) t _ rfl (HO2.out.alloc _) (some ⟨wq.heap.size, 0, none⟩) 1 1 [.int .i64 r] rfl rfl no_none (one_news wq _ _) (li_one _) M1.out M2.out M3.out ?_; refine Stop.of ?_)
        refine Stop.go ?_
        intro a3 c3 w3 own3 g3'
        have hB3 : Below w.heap.size w w3 := (HB2.out.alloc HB2.out.size _).grown g3' M3.out (fun k hk => (HO2.out.lt k hk).1)
        go_wp2
        refine ⟨⟨t + 1, ol ++ [r], 1, by omega, by go_num, rfl, ?_, hB3, by decide, by decide, HNX⟩, by simp [intOf]; omega⟩
        simpa using own3
      · have HNX := hid (show (ol ++ [z]).length = t + 1 ∧ DigL (ol ++ [z]) ∧ valN (ol ++ [z]) - pw (t + 1) * 0 = valN (l.take (t + 1)) - valN (m.take (t + 1)) from ⟨by simp [HI.out.1], HI.out.2.1.snoc (by omega) (by omega), HS.out z 0 (by omega)⟩)
        have M3 := hid (Nat.le_trans HB2.out.size (le_alloc wq (.cells #[.int .i64 z] 3)))
        clear HI HS
        go_wp2_with (at_builtin; refine wpList_app _ rfl (.tmp 28) (.tmp 30) 35 rfl w.heap.size 3 (.int .i64 0) 1 8 Tryz.underlying35 li_nat rfl Nat.one_pos (.slice va t vc) t _ rfl (HO2.out.alloc _) (some ⟨wq.heap.size, 0, none⟩) 1 1 [.int .i64 z] rfl rfl no_none (one_news wq _ _) (li_one _) M1.out M2.out M3.out ?_; refine Stop.of ?_)
        refine Stop.go ?_
        intro a3 c3 w3 own3 g3'
        have hB3 : Below w.heap.size w w3 := (HB2.out.alloc HB2.out.size _).grown g3' M3.out (fun k hk => (HO2.out.lt k hk).1)
        go_wp2
        refine ⟨⟨t + 1, ol ++ [z], 0, by omega, by go_num, rfl, ?_, hB3, by decide, by decide, HNX⟩, by simp [intOf]; omega⟩
        simpa using own3
    · obtain rfl : t = n := by omega
      obtain ⟨i1, i2, i3⟩ := HI.out
      have hS := HEN.out ol cc i1 i2 hc0 i3
      obtain ⟨a5, c5, e5, hI5, _⟩ := ints_of_own hown i1
      cases e5
      have HT := hid (trimmed_c wr va t vc ol i1 (by omega) (own_cap hown) hI5 i2)
      rw [hS] at HT
      have HBK := hid hbk
      clear hown hbk HI i1 i2 i3 hI5 hS HST HEN
      go_wp2_with (go_at_call 141; refine HT.out.mono ?_; rintro e w2 ⟨v2, rfl, hv2, hb2⟩; refine Stop.of ?_)
      refine Stop.go ?_
      have HF := hid (hv2.le hnL)
      have HB2 := hid (chain HBK.out hb2)
      clear hv2 hb2
      go_wp2
      go_ret
      exact ⟨_, rfl, HF.out, HB2.out⟩
end Go.Proofs.YtlffndehhhpgjaaGreat
