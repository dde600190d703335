/- Walks and plain laws for StreamTextsRow, part 5. -/
import Derived.Maps.OwnIn
import Derived.Test.YtddcamcdjkiadaaGreatDoorPkStreamTextsRow4
namespace Go.Proofs.YtddcamcdjkiadaaGreatDoor
open Go.RowKit
set_option linter.unusedVariables false
attribute [local go_sem] Oper.semAt_some

theorem wide_regionK {P : Program} {ops : Array Oper} (T : Nat → World → Prop) (n : Nat) {id : Nat} {a : Act} {w : World} {K : Act → World → Prop} {Q : Exit → Act → World → Prop} (hm : P.follows .mixedOrders = true)
    (h : AnyT P .any ops (Exit.then K (fun _ _ _ => False)) T ops.size (Array.replicate ops.size false) a w.drew) : (Code.region id ops true).wpIn Fence.wide n P (Exit.then K Q) a w :=
  wpIn_mono (wide_region T n hm (fun ⟨_, _, h⟩ => h) h) (by intro e a w h; cases e <;> first | exact h | exact h.elim)

theorem run_min3 {P : Program} (u : Array TypeId) (t : TypeId) (x y z : Int) (w : World) : (Builtin.min_ u t #[.int .i64 x, .int .i64 y, .int .i64 z]).run P w = .ok (.int .i64 (min (min x y) z)) w := by
  have h1 : Builtin.min_ u t #[.int .i64 x, .int .i64 y, .int .i64 z] = pure (.int .i64 (min (min x y) z)) := by
    unfold Builtin.min_
    simp only [List.foldlM, Builtin.min2, pure_bind]
    congr 2
    by_cases h : y < x
    · rw [if_pos h]; split <;> omega
    · rw [if_neg h]; split <;> omega
  rw [h1]; rfl

structure FitsI (w0 : World) (fp : Nat → Prop) (l : Nat) (J : (Nat → Prop) → List FitT → World → Prop) (lo : Nat) (pre : List FitT) (S : Nat → Prop) (hs : List Nat) (X : World) : Prop where
  j : J S pre X
  s : ∀ k, S k → lo ≤ k
  y : S lo
  c : X.cell? ⟨lo, 0, none⟩ = some (.func (.yield l) #[] #[])
  f : ∀ k, fp k → k < lo ∧ X.heap[k]? = w0.heap[k]?
  z : lo < X.heap.size
  m : ∀ h ∈ hs, S h ∧ X.heap[h]? = some (.deferred (some []))

theorem FitsI.keep {w0 : World} {fp : Nat → Prop} {l lo : Nat} {J : (Nat → Prop) → List FitT → World → Prop} {pre : List FitT} {S S' : Nat → Prop} {hs : List Nat} {A B : World}
    (hJ : ∀ S S' s A B, J S s A → (∀ k, S k → S' k) → (∀ k, S' k → S k ∨ A.heap.size ≤ k) → Keep (fun k => ¬ S' k) A B → J S' s B)
    (h : FitsI w0 fp l J lo pre S hs A) (h1 : ∀ k, S k → S' k) (h2 : ∀ k, S' k → S k ∨ A.heap.size ≤ k) {T : Nat → Prop} (hk : Keep T A B) (hT : ∀ k, k < A.heap.size → ¬ S' k → T k) (hTl : T lo) (hTm : ∀ h ∈ hs, T h) :
    FitsI w0 fp l J lo pre S' hs B where
  j := hJ _ _ _ _ _ h.j h1 h2 ⟨hk.os, hk.tape, hk.output, hk.size, fun i hi hs => hk.block i hi (hT i hi hs)⟩
  s := fun k hk' => by
    rcases h2 k hk' with h3 | h3
    · exact h.s k h3
    · have := h.z; omega
  y := h1 _ h.y
  c := hk.cell h.c hTl
  f := fun k hk' => by
    obtain ⟨h3, h4⟩ := h.f k hk'
    refine ⟨h3, (hk.block k (Nat.lt_trans h3 h.z) ?_).trans h4⟩
    refine hT k (Nat.lt_trans h3 h.z) fun h5 => ?_
    rcases h2 k h5 with h6 | h6
    · have := h.s k h6; omega
    · have := h.z; omega
  z := Nat.lt_of_lt_of_le h.z hk.size
  m := fun q hq => by
    obtain ⟨h3, h4⟩ := h.m q hq
    exact ⟨h1 _ h3, (hk.block q (Array.getElem?_eq_some_iff.1 h4).1 (hTm q hq)).trans h4⟩

theorem FitsI.step {w0 : World} {fp : Nat → Prop} {l lo : Nat} {J J' : (Nat → Prop) → List FitT → World → Prop} {pre pre' : List FitT} {S : Nat → Prop} {hs : List Nat} {A B C : World}
    (h : FitsI w0 fp l J lo pre S hs A) (hS : ∀ k, S k → k < A.heap.size) (hb : Below A.heap.size A B) (hz : B.heap.size ≤ C.heap.size) (hk : ∀ k, fp k ∨ S k → C.heap[k]? = B.heap[k]?) (hj : J' S pre' C) : FitsI w0 fp l J' lo pre' S hs C where
  j := hj
  s := h.s
  y := h.y
  c := (World.cell?_of_block (a := ⟨lo, 0, none⟩) (hk lo (.inr h.y))).trans ((hb.cell (p := ⟨lo, 0, none⟩) h.z).trans h.c)
  f := fun k hk' => by
    obtain ⟨h3, h4⟩ := h.f k hk'
    exact ⟨h3, (hk k (.inl hk')).trans ((hb.block k (Nat.lt_trans h3 h.z)).trans h4)⟩
  z := Nat.lt_of_lt_of_le h.z (Nat.le_trans hb.size hz)
  m := fun q hq => by
    obtain ⟨h3, h4⟩ := h.m q hq
    exact ⟨h3, (hk q (.inr h3)).trans ((hb.block q (hS q h3)).trans h4)⟩

theorem fitsTo_prefix (M : Mask) (y : List Int) (W t : Nat) : ∀ d, fitsTo M y W t <+: fitsTo M y W (t + d)
  | 0 => List.prefix_refl _
  | d + 1 => by
    rw [show t + (d + 1) = (t + d) + 1 by omega, fitsTo_succ]
    exact (fitsTo_prefix M y W t d).trans (List.prefix_append _ _)
theorem fitsTo_in' {M : Mask} {y : List Int} {W t N : Nat} {pre : List (List Int)} (ht : t < N + 1) (hp : pre <+: comb W t 0) :
    fitsTo M y W t ++ pre.filterMap (fitF M y) <+: fitsTo M y W (N + 1) := by
  obtain ⟨r, hr⟩ := hp
  have h1 : fitsTo M y W t ++ pre.filterMap (fitF M y) <+: fitsTo M y W (t + 1) := by
    rw [fitsTo_succ, ← hr, List.filterMap_append]
    exact ⟨r.filterMap (fitF M y), by rw [List.append_assoc]⟩
  obtain ⟨d, rfl⟩ : ∃ d, N = t + d := ⟨N - t, by omega⟩
  exact h1.trans (by rw [show t + d + 1 = t + 1 + d by omega]; exact fitsTo_prefix M y W (t + 1) d)
theorem fitsTo_in {M : Mask} {y : List Int} {W t N : Nat} {pre : List (List Int)} {x : List Int} {f : FitT} (ht : t < N + 1) (hp : pre ++ [x] <+: comb W t 0) (hf : fitF M y x = some f) :
    (fitsTo M y W t ++ pre.filterMap (fitF M y)) ++ [f] <+: fitsTo M y W (N + 1) := by
  have e : (fitsTo M y W t ++ pre.filterMap (fitF M y)) ++ [f] = fitsTo M y W t ++ (pre ++ [x]).filterMap (fitF M y) := by
    simp [List.filterMap_append, hf]
  rw [e]
  exact fitsTo_in' ht hp

theorem FitV.own {lo lo2 : Nat} {S : Nat → Prop} {f : FitT} {v : Value} {A B : World} (h : FitV lo (fun _ => False) f v A) (hb : Below A.heap.size A B) (hl : lo2 ≤ lo) (hS : ∀ q, S q → q < lo) : FitV lo2 S f v B := by
  obtain ⟨pa, pn, pc, va, vn, vc, e, h1, h2, h3, h4, h5, h6, h7, h8⟩ := h
  refine ⟨pa, pn, pc, va, vn, vc, e, h1, h2, h3, h4, h5.below hb, h6.below hb, fun b o e => ?_, fun b o e => ?_⟩
  · obtain ⟨g1, g2, _⟩ := h7 b o e
    exact ⟨Nat.le_trans hl g1, Nat.lt_of_lt_of_le g2 hb.size, fun h => by have := hS b h; omega⟩
  · obtain ⟨g1, g2, _⟩ := h8 b o e
    exact ⟨Nat.le_trans hl g1, Nat.lt_of_lt_of_le g2 hb.size, fun h => by have := hS b h; omega⟩

set_option maxRecDepth 100000 in
set_option maxHeartbeats 4000000 in
theorem fits_iter (w0 : World) (fp : Nat → Prop) (k kb qb : Nat) (a a2 : Option Addr) (n cap n2 cap2 : Nat) (M : Mask) (y : List Int) (hn : M.length = n) (hn2 : y.length = n2) (hm : n ≤ maxLen) (hm2 : n2 ≤ maxLen) (h1 : 1 ≤ n) (hW : colsM M ≤ 1000) (hk : k ≤ 1000)
    (hfp : ∀ q, fp q → q < w0.heap.size) (hkb : fp kb) (hqb : fp qb) (hck : w0.cell? ⟨kb, 0, none⟩ = some (.int .i64 k)) (hcq : w0.heap[qb]? = some (.cells #[.slice a n cap, .slice a2 n2 cap2] 197 (0, 0)))
    (hR : ∀ X : World, w0.heap.size ≤ X.heap.size → (∀ q, fp q → X.heap[q]? = w0.heap[q]?) → RowsAt X a M ∧ IntsAt X a2 y) :
    IterS Tryz.prog 170 #[.pointer (some ⟨kb, 0, none⟩), .pointer (some ⟨qb, 0, none⟩)] FitV (fitsF M y k) fp w0 := by
  intro l J Jx W hb hJx hJ hY h0
  have hkW : kb < W.heap.size := Nat.lt_of_lt_of_le (hfp _ hkb) hb.size
  have hqW : qb < W.heap.size := Nat.lt_of_lt_of_le (hfp _ hqb) hb.size
  have hFW : ∀ q, fp q → W.heap[q]? = w0.heap[q]? := fun q hq => hb.block q (hfp q hq)
  have HJ := hid hJ
  have HJx := hid hJx
  have HY := hid hY
  have H0 := hid h0
  have HFW := hid hFW
  have HR := hid hR
  have HFP := hid hfp
  have HB := hid hb
  have HK := hid (show ∀ X : World, (∀ q, fp q → X.heap[q]? = w0.heap[q]?) → X.cell? ⟨kb, 0, none⟩ = some (.int .i64 k) from fun X hX => (World.cell?_of_block (a := ⟨kb, 0, none⟩) (hX kb hkb)).trans hck)
  have HQ := hid (show ∀ X : World, (∀ q, fp q → X.heap[q]? = w0.heap[q]?) → X.heap[qb]? = some (.cells #[.slice a n cap, .slice a2 n2 cap2] 197 (0, 0)) from fun X hX => (hX qb hqb).trans hcq)
  clear hJ hJx hY h0 hFW hck hcq hR hfp hb hkb hqb
  refine callsIn_of_wp_marks Tryz.func170 rfl trivial ?_ rfl
  simp only [Tryz.ntmps170, List.size_toArray, List.length_cons, List.length_nil, Nat.reduceAdd, Nat.reduceSub, Array.replicate_succ, Array.replicate_zero, List.push_toArray, List.append_toArray, List.nil_append, List.cons_append]
  gi_wp2
  obtain ⟨w1, hw1⟩ : ∃ w1, w1 = W.alloc (.cells #[.func (.yield l) #[] #[]] 204) := ⟨_, rfl⟩
  rw [← hw1]
  have hs1 : w1.heap.size = W.heap.size + 1 := by rw [hw1]; simp
  have hF1 : ∀ q, fp q → w1.heap[q]? = w0.heap[q]? := fun q hq => by
    rw [hw1, Below.heap_alloc _ _ _ (Nat.lt_of_lt_of_le (HFP.out q hq) HB.out.size)]; exact HFW.out q hq
  have hc1 : w1.cell? ⟨W.heap.size, 0, none⟩ = some (.func (.yield l) #[] #[]) := by rw [hw1, World.cell?_alloc_at _ _ _ _ rfl]; rfl
  have HB1 := hid (show Below W.heap.size W w1 by rw [hw1]; exact (Below.refl _ _).alloc (Nat.le_refl _) _)
  obtain ⟨w2, hw2⟩ : ∃ w2, w2 = w1.drew := ⟨_, rfl⟩
  have HF1 := hid hF1
  have HC1 := hid hc1
  have HS1 := hid hs1
  clear hs1 hF1 hc1
  refine wide_regionK (fun j w' => decide (j < 9) = true → (∀ q, q < W.heap.size + 1 → w'.heap[q]? = w1.heap[q]?) ∧ W.heap.size + 1 ≤ w'.heap.size ∧ w'.cell? ⟨kb, 0, none⟩ = some (.int .i64 k) ∧ w'.cell? ⟨qb, 0, none⟩ = some (.slice a n cap) ∧ w'.cell? ⟨qb, 1, none⟩ = some (.slice a2 n2 cap2)) 0 (by kernel_rfl) ?_
  rw [← hw2]
  have hF2 : ∀ q, fp q → w2.heap[q]? = w0.heap[q]? := fun q hq => by rw [hw2]; exact HF1.out q hq
  have HS := hid (show ∀ X : World, (∀ q, q < W.heap.size + 1 → X.heap[q]? = w1.heap[q]?) → W.heap.size + 1 ≤ X.heap.size → (∀ q, q < W.heap.size + 1 → X.heap[q]? = w1.heap[q]?) ∧ W.heap.size + 1 ≤ X.heap.size ∧ X.cell? ⟨kb, 0, none⟩ = some (.int .i64 k) ∧ X.cell? ⟨qb, 0, none⟩ = some (.slice a n cap) ∧ X.cell? ⟨qb, 1, none⟩ = some (.slice a2 n2 cap2) from fun X hX hs => by
    have hF : ∀ q, fp q → X.heap[q]? = w0.heap[q]? := fun q hq => (hX q (by have := HFP.out q hq; have := HB.out.size; omega)).trans (HF1.out q hq)
    have hq := HQ.out X hF
    exact ⟨hX, hs, HK.out X hF, by simp [World.cell?, hq], by simp [World.cell?, hq]⟩)
  have h2 := HS.out w2 (fun q _ => by rw [hw2]; rfl) (by rw [hw2]; exact Nat.le_of_eq HS1.out.symm)
  refine AnyT.takeD (i := 0) (v := .int .i64 k) rfl rfl (by kernel_rfl) (by kernel_rfl) (by kernel_rfl) (by first | exact (fun _ _ _ h => h) | exact (fun _ _ _ h => absurd h.1 (by simp))) (by kernel_rfl) (by rfl) (by rintro w' ⟨_, _, q5, q6, q7⟩; go_simp) h2 ?_; go_frame
  refine AnyT.takeD (i := 1) (v := .agg #[.slice a n cap, .slice a2 n2 cap2]) rfl rfl (by kernel_rfl) (by kernel_rfl) (by kernel_rfl) (by first | exact (fun _ _ _ h => h) | exact (fun _ _ _ h => absurd h.1 (by simp))) (by kernel_rfl) (by rfl) (by rintro w' ⟨_, _, q5, q6, q7⟩; go_simp) h2 ?_; go_frame
  refine AnyT.takeD (i := 3) (v := .pointer (some ⟨qb, 0, none⟩)) rfl rfl (by kernel_rfl) (by kernel_rfl) (by kernel_rfl) (by first | exact (fun _ _ _ h => h) | exact (fun _ _ _ h => absurd h.1 (by simp))) (by kernel_rfl) (by rfl) (by rintro w' q5; go_simp) h2 ?_; go_frame
  refine AnyT.takeD (i := 4) (v := .slice a n cap) rfl rfl (by kernel_rfl) (by kernel_rfl) (by kernel_rfl) (by first | exact (fun _ _ _ h => h) | exact (fun _ _ _ h => absurd h.1 (by simp))) (by kernel_rfl) (by rfl) (by rintro w' ⟨_, _, q5, q6, q7⟩; go_simp) h2 ?_; go_frame
  refine AnyT.takeD (i := 5) (v := .int .i64 n) rfl rfl (by kernel_rfl) (by kernel_rfl) (by kernel_rfl) (by first | exact (fun _ _ _ h => h) | exact (fun _ _ _ h => absurd h.1 (by simp))) (by kernel_rfl) (by rfl) (by rintro w' q5; go_simp) h2 ?_; go_frame
  refine AnyT.takeD (i := 8) (v := .int .i64 0) rfl rfl (by kernel_rfl) (by kernel_rfl) (by kernel_rfl) (by first | exact (fun _ _ _ h => h) | exact (fun _ _ _ h => absurd h.1 (by simp))) (by kernel_rfl) (by rfl) (by rintro w' q5; go_simp) h2 ?_; go_frame
  refine AnyT.next (i := 2) (by kernel_rfl) rfl (wpOp_of_list rfl ?_)
  have HPX := hid (fun (X : World) (h : RowsAt X a M) => qpixels_c X a a2 n cap n2 cap2 M hn h1 h)
  have HR2 := hid (show RowsAt w2 a M from (HR.out w2 (Nat.le_trans HB.out.size (Nat.le_trans (Nat.le_succ _) h2.2.1)) hF2).1)
  have hB2 : Below W.heap.size W w2 := by rw [hw2]; exact HB1.out.drew
  clear hF2 hw2 hw1
  go_wp2_with (go_at_call 171; go_loud (refine (HPX.out w2 HR2.out).mono ?_; rintro e w3 ⟨rfl, hb3⟩; refine Stop.of ?_))
  refine Stop.go ?_
  have h3 := HS.out w3 (fun q hq => (hb3.block q (Nat.lt_of_lt_of_le hq h2.2.1)).trans (h2.1 q hq)) (Nat.le_trans h2.2.1 hb3.size)
  go_wp2
  refine ⟨fun _ => h3, ?_⟩
  obtain ⟨Wn, hWn⟩ : ∃ Wn, Wn = colsM M := ⟨_, rfl⟩
  rw [← hWn] at hW ⊢
  obtain ⟨N, hN⟩ : ∃ N : Nat, N = min (min k Wn) n := ⟨_, rfl⟩
  have HN := hid (show fitsF M y k = fitsTo M y Wn (N + 1) by rw [hN, hWn, ← hn]; rfl)
  have HWn := hid hWn
  have hNc : min (min (k : Int) (Wn : Int)) (n : Int) = (N : Int) := by omega
  have HNC := hid hNc
  have HN1 := hid (show N ≤ 1000 by omega)
  clear hNc hN hWn
  refine AnyT.takeD (i := 6) (v := .int .i64 N) rfl rfl (by kernel_rfl) (by kernel_rfl) (by kernel_rfl) (by first | exact (fun _ _ _ h => h) | exact (fun _ _ _ h => absurd h.1 (by simp))) (by kernel_rfl) (by rfl) (by rintro w' hw'; go_simp; rw [run_min3, HNC.out]; rfl) h3 ?_; go_frame
  have HW9 := hid (show IntKind.i64.wrap ((N : Int) + 1) = (N : Int) + 1 from IntWalk.i64_in _ (by have := HN1.out; omega))
  refine AnyT.takeD (i := 7) (v := .int .i64 ((N : Int) + 1)) rfl rfl (by kernel_rfl) (by kernel_rfl) (by kernel_rfl) (by first | exact (fun _ _ _ h => h) | exact (fun _ _ _ h => absurd h.1 (by simp))) (by kernel_rfl) (by rfl) (by rintro w' hw'; go_simp; exact HW9.out) h3 ?_; go_frame
  refine ⟨by kernel_rfl, ?_⟩
  have H3 := hid h3
  have HB3 := hid (chain hB2 hb3)
  clear h2 h3 hB2 hb3
  gi_wp2
  obtain ⟨I, hI⟩ : ∃ I : Act → World → Prop, I = (fun a' X => ∃ (u4 u5 u6 u7 u8 u9 u10 u11 u12 u13 u14 u17 u18 u19 u20 u21 u22 u23 u24 u25 u26 u27 u28 u29 u30 u31 u32 u33 u34 u35 u36 u37 : Value), ∃ (t : Nat) (S : Nat → Prop) (hs : List Nat), t ≤ N + 1 ∧ FitsI w0 fp l J W.heap.size (fitsTo M y Wn t) S hs X ∧ (∀ k, S k → k < X.heap.size) ∧ hs.Nodup ∧
    a' = ⟨#[.func (.yield l) #[] #[], .pointer (some ⟨kb, 0, none⟩), .pointer (some ⟨qb, 0, none⟩), .pointer (some ⟨W.heap.size, 0, none⟩), u4, u5, u6, u7, u8, u9, u10, u11, u12, u13, u14, .int .i64 ((N : Int) + 1), .int .i64 t, u17, u18, u19, u20, u21, u22, u23, u24, u25, u26, u27, u28, u29, u30, u31, u32, u33, u34, u35, u36, u37], markL hs⟩) := ⟨_, rfl⟩
  have HI := hid hI
  clear hI
  obtain ⟨mu, hmu⟩ : ∃ mu : Act → World → Nat, mu = (fun a' _ => N + 1 - (intOf (a'.tmps.getD 16 undef)).toNat) := ⟨_, rfl⟩
  have HMU := hid hmu
  clear hmu
  refine wpIn_loop I mu ?_ ?_
  · rw [HI.out]
    refine ⟨_, _, _, _, _, _, _, _, _, _, _, _, _, _, _, _, _, _, _, _, _, _, _, _, _, _, _, _, _, _, _, _, 0, (fun q => q = W.heap.size), [], Nat.zero_le _, ?_, ?_, List.nodup_nil, rfl⟩
    · refine ⟨?_, ?_, rfl, ?_, ?_, ?_, ?_⟩
      · exact HJ.out _ _ _ _ _ H0.out (fun _ h => h.elim) (fun q hq => .inr (Nat.le_of_eq (Eq.symm hq))) (Keep.of_below HB3.out)
      · intro q hq; exact Nat.le_of_eq (Eq.symm hq)
      · exact (World.cell?_of_block (a := ⟨W.heap.size, 0, none⟩) (H3.out.1 _ (Nat.lt_succ_self _))).trans HC1.out
      · intro q hq
        have hql := Nat.lt_of_lt_of_le (HFP.out q hq) HB.out.size
        exact ⟨hql, (H3.out.1 q (Nat.lt_succ_of_lt hql)).trans (HF1.out q hq)⟩
      · exact H3.out.2.1
      · intro h hh; cases hh
    · intro q hq; rw [hq]; exact H3.out.2.1
  · intro a' X hIX
    rw [HI.out] at hIX
    obtain ⟨u4, hIX⟩ := hIX; obtain ⟨u5, hIX⟩ := hIX; obtain ⟨u6, hIX⟩ := hIX; obtain ⟨u7, hIX⟩ := hIX; obtain ⟨u8, hIX⟩ := hIX; obtain ⟨u9, hIX⟩ := hIX; obtain ⟨u10, hIX⟩ := hIX; obtain ⟨u11, hIX⟩ := hIX; obtain ⟨u12, hIX⟩ := hIX; obtain ⟨u13, hIX⟩ := hIX; obtain ⟨u14, hIX⟩ := hIX; obtain ⟨u17, hIX⟩ := hIX; obtain ⟨u18, hIX⟩ := hIX; obtain ⟨u19, hIX⟩ := hIX; obtain ⟨u20, hIX⟩ := hIX; obtain ⟨u21, hIX⟩ := hIX; obtain ⟨u22, hIX⟩ := hIX; obtain ⟨u23, hIX⟩ := hIX; obtain ⟨u24, hIX⟩ := hIX; obtain ⟨u25, hIX⟩ := hIX; obtain ⟨u26, hIX⟩ := hIX; obtain ⟨u27, hIX⟩ := hIX; obtain ⟨u28, hIX⟩ := hIX; obtain ⟨u29, hIX⟩ := hIX; obtain ⟨u30, hIX⟩ := hIX; obtain ⟨u31, hIX⟩ := hIX; obtain ⟨u32, hIX⟩ := hIX; obtain ⟨u33, hIX⟩ := hIX; obtain ⟨u34, hIX⟩ := hIX; obtain ⟨u35, hIX⟩ := hIX; obtain ⟨u36, hIX⟩ := hIX; obtain ⟨u37, hIX⟩ := hIX
    obtain ⟨t, S, hs, ht, hX, hSX, hnd, rfl⟩ := hIX
    have HX := hid hX
    have HSX := hid hSX
    have HND := hid hnd
    by_cases hlt : t < N + 1
    · have hlt' : (t : Int) < (N : Int) + 1 := by omega
      have hXF : ∀ q, fp q → X.heap[q]? = w0.heap[q]? := fun q hq => (hX.f q hq).2
      have hXz : W.heap.size < X.heap.size := hX.z
      have hq0 : X.cell? ⟨qb, 0, none⟩ = some (.slice a n cap) := by have hq := HQ.out X hXF; simp [World.cell?, hq]
      have hq1 : X.cell? ⟨qb, 1, none⟩ = some (.slice a2 n2 cap2) := by have hq := HQ.out X hXF; simp [World.cell?, hq]
      have HPQ := hid (HPX.out X (HR.out X (Nat.le_trans HB.out.size (Nat.le_of_lt hXz)) hXF).1)
      clear hX hSX hnd hXF
      gi_wp2_with (refine ⟨trivial, rfl, ?_⟩; gi_at_call 171; refine (callsIn_wide.2 HPQ.out).mono ?_; rintro e Y ⟨rfl, hbY⟩; refine Stop.of ?_)
      refine Stop.go ?_
      rw [← HWn.out]
      gi_wp2_with (refine ⟨trivial, rfl, ?_⟩; gi_at_call 172; refine (callsIn_wide.2 (sets_c _ _ _)).mono ?_; rintro e w' ⟨rfl, rfl⟩; refine Stop.of ?_)
      refine Stop.go ?_
      obtain ⟨wL, hwL⟩ : ∃ wL, wL = (Y.alloc (.cells #[.int .i64 Wn] 3)).alloc (.cells #[.int .i64 t] 3) := ⟨_, rfl⟩
      have hsz : wL.heap.size = Y.heap.size + 2 := by rw [hwL]; simp
      have hbL : Below Y.heap.size Y wL := by rw [hwL]; exact ((Below.refl _ Y).alloc (Nat.le_refl _) _).alloc (by simp) _
      have hZ0 : Boxed wL Y.heap.size 3 (.int .i64 Wn) := by rw [hwL]; exact (Boxed.new Y 3 (.int .i64 (Wn : Int))).alloc _
      have hZ1 : Boxed wL (Y.heap.size + 1) 3 (.int .i64 (t : Int)) := by
        rw [hwL]
        have h1 := Boxed.new (Y.alloc (.cells #[.int .i64 (Wn : Int)] 3)) 3 (.int .i64 (t : Int))
        rwa [World.size_alloc] at h1
      have hF0 := hZ1.cell
      have hF1 := hZ0.cell
      rw [← hwL]
      have hbXL := chain hbY hbL
      have HBXL := hid hbXL
      have HSZ := hid hsz
      have hXY := hbY.size
      have HXY := hid hXY
      clear hwL hq0 hq1 hZ0 hZ1 hbXL hbY
      have ht1k : t ≤ 1000 := by have := HN1.out; omega
      gi_wp2
      obtain ⟨T, hT⟩ : ∃ T : (Nat → Prop) → Nat → Prop, T = fun Sr q => S q ∨ q = Y.heap.size ∨ q = Y.heap.size + 1 ∨ q = wL.heap.size ∨ q = wL.heap.size + 1 ∨ Sr q := ⟨_, rfl⟩
      refine range_s (gf := 176) (lb := #[.pointer (some ⟨Y.heap.size + 1, 0, none⟩), .pointer (some ⟨Y.heap.size, 0, none⟩)]) (xs := comb Wn t 0) (fp := fun k => k = Y.heap.size + 1 ∨ k = Y.heap.size) (V := SetV) rfl (enters_of Tryz.func176 (by kernel_rfl) rfl)
        (iter_setsS wL Wn t (Y.heap.size + 1) Y.heap.size hW ht1k (by omega) (by omega) hF0 hF1) (Below.refl _ _) (by intro k hk; omega)
        (fun Sr pre Z => FitsI w0 fp l J W.heap.size (fitsTo M y Wn t ++ pre.filterMap (fitF M y)) (T Sr) hs Z)
        (fun Sr c pre Z => c = .ret ∧ FitsI w0 fp l Jx W.heap.size (fitsTo M y Wn t ++ pre.filterMap (fitF M y)) (T Sr) hs Z) ?hI ?hIx ?hV ?h0 (fun v a' Z => a' = { tmps := #[.func (.yield l) #[] #[], .pointer (some ⟨kb, 0, none⟩), .pointer (some ⟨qb, 0, none⟩), .pointer (some ⟨W.heap.size, 0, none⟩), .int .i64 t, v, u6, u7, u8, u9, u10, u11, u12, u13, u14, .int .i64 ((N : Int) + 1), .int .i64 t, .bool true, .int .i64 t, .agg #[.slice a n cap, .slice a2 n2 cap2], .int .i64 Wn, .int .i64 t, .func (.func 176) #[] #[.pointer (some ⟨Y.heap.size + 1, 0, none⟩), .pointer (some ⟨Y.heap.size, 0, none⟩)], v, u24, u25, u26, u27, u28, u29, u30, u31, u32, u33, u34, u35, u36, u37], defers := [] }) ?hAx ?hassign ?hbody ?hdone ?hstop
      case hI =>
        intro Sr Sr' s A B hIA h1 h2 h3 h4 hk
        refine hIA.keep HJ.out ?_ ?_ hk ?_ ?_ ?_
        · rw [hT]; rintro q (h | h | h | h | h | h) <;> simp [h, h1]
        · rw [hT]; rintro q (h | h | h | h | h | h)
          · exact .inl (.inl h)
          · exact .inl (.inr (.inl h))
          · exact .inl (.inr (.inr (.inl h)))
          · exact .inl (.inr (.inr (.inr (.inl h))))
          · exact .inl (.inr (.inr (.inr (.inr (.inl h)))))
          · rcases h2 q h with h | h
            · exact .inl (.inr (.inr (.inr (.inr (.inr h)))))
            · exact .inr h
        · rw [hT]; intro q _ hq; simp only [not_or] at hq; exact ⟨hq.2.2.2.1, hq.2.2.2.2.1, hq.2.2.2.2.2⟩
        · exact ⟨by omega, by omega, fun h => by have := h3 _ h; omega⟩
        · intro q hq
          have := HSX.out q (HX.out.m q hq).1
          exact ⟨by omega, by omega, fun h => by have := h3 _ h; omega⟩
      case hIx =>
        rintro Sr Sr' c s A B ⟨hc, hIA⟩ h1 h2 h3 h4 hk
        refine ⟨hc, hIA.keep HJx.out ?_ ?_ hk ?_ ?_ ?_⟩
        · rw [hT]; rintro q (h | h | h | h | h | h) <;> simp [h, h1]
        · rw [hT]; rintro q (h | h | h | h | h | h)
          · exact .inl (.inl h)
          · exact .inl (.inr (.inl h))
          · exact .inl (.inr (.inr (.inl h)))
          · exact .inl (.inr (.inr (.inr (.inl h))))
          · exact .inl (.inr (.inr (.inr (.inr (.inl h)))))
          · rcases h2 q h with h | h
            · exact .inl (.inr (.inr (.inr (.inr (.inr h)))))
            · exact .inr h
        · rw [hT]; intro q _ hq; simp only [not_or] at hq; exact ⟨hq.2.2.2.1, hq.2.2.2.2.1, hq.2.2.2.2.2⟩
        · exact ⟨by omega, by omega, fun h => by have := h3 _ h; omega⟩
        · intro q hq
          have := HSX.out q (HX.out.m q hq).1
          exact ⟨by omega, by omega, fun h => by have := h3 _ h; omega⟩
      case hV =>
        intro Sr x v A B hv hk
        exact hv.keep hk (fun k hk => ⟨by omega, by omega⟩)
      case h0 =>
        intro Z hk hZ
        rw [List.filterMap_nil, List.append_nil]
        refine HX.out.keep HJ.out ?_ ?_ ((Keep.of_below HBXL.out).trans hk) ?_ ?_ ?_
        · rw [hT]; intro q h; simp [h]
        · rw [hT]; rintro q (h | h | h | h | h | h)
          · exact .inl h
          · exact .inr (by omega)
          · exact .inr (by omega)
          · exact .inr (by omega)
          · exact .inr (by omega)
          · exact h.elim
        · intro q hq _; omega
        · omega
        · intro q hq
          have := HSX.out q (HX.out.m q hq).1
          omega
      case hAx =>
        intro v a' A B h _; exact h
      case hassign =>
        intro l' Sr x v Z K hZ hv hK
        gi_wp2
        exact hK _ _ (Below.refl _ _) rfl
      case hbody =>
        rintro l' Sr pre x v _ Z hpre hSr hIZ hv rfl hZ _ _
        obtain ⟨xa, xc, rfl, hxi, hxb⟩ := hv
        have hxm : x ∈ comb Wn t 0 := hpre.subset (by simp)
        have hxl : x.length = t := comb_len _ _ _ x hxm
        have hZF : ∀ q, fp q → Z.heap[q]? = w0.heap[q]? := fun q hq => (hIZ.f q hq).2
        have hZz : W.heap.size < Z.heap.size := hIZ.z
        have hzq0 : Z.cell? ⟨qb, 0, none⟩ = some (.slice a n cap) := by have hq := HQ.out Z hZF; simp [World.cell?, hq]
        have hzq1 : Z.cell? ⟨qb, 1, none⟩ = some (.slice a2 n2 cap2) := by have hq := HQ.out Z hZF; simp [World.cell?, hq]
        have hzy : Z.cell? ⟨W.heap.size, 0, none⟩ = some (.func (.yield l) #[] #[]) := hIZ.c
        obtain ⟨hRZ, hIY⟩ := HR.out Z (Nat.le_trans HB.out.size (Nat.le_of_lt hZz)) hZF
        have HFIT := hid (fit_c Z a a2 xa n cap n2 cap2 x.length xc M y x hn hn2 rfl hm hm2 (by rw [hxl]; exact ht1k) hRZ hIY hxi)
        have HIZ := hid hIZ
        have HT := hid hT
        have HSR := hid hSr
        have HPRE := hid hpre
        have hYs := hbL.size
        have HTB := hid (show ∀ q, T Sr q → q < Z.heap.size by
          rw [hT]; rintro q (h | h | h | h | h | h)
          · have := HSX.out q h; omega
          · omega
          · omega
          · omega
          · omega
          · exact (hSr q h).2)
        clear hYs
        have hqZ : qb < Z.heap.size := World.block_lt_of_cell? Z ⟨qb, 0, none⟩ hzq0
        clear hRZ hIY hIZ hT hSr hpre hxm hxl hZF hxi hxb hF0 hF1
        cases hF : fitF M y x with
        | none =>
          rw [hF] at HFIT
          have HF := hid hF
          clear hF
          gi_wp2_with (refine ⟨trivial, rfl, ?_⟩; gi_at_call 173; refine (CallsIn.inRound l' (callsIn_wide.2 HFIT.out)).mono ?_; rintro e Z2 ⟨⟨_, rfl⟩ | ⟨f, fv, hso, _⟩, hb2⟩; rotate_left; cases hso; refine Stop.of ?_)
          refine Stop.go ?_
          gi_wp2
          refine ⟨fun _ h => (by cases h), ?_⟩
          gi_wp2
          have hbF := chain hb2 ((Below.refl Z2.heap.size Z2).alloc (Nat.le_refl _) (.cells #[.slice none 0 0, .slice none 0 0] 201))
          refine ⟨hbF.size, fun q hq => hbF.block q (HTB.out q (by rw [HT.out]; exact .inr (by rcases hq with (hq | hq) | hq | hq | hq <;> simp [hq]))), ?_⟩
          show FitsI w0 fp l J W.heap.size (fitsTo M y Wn t ++ (pre ++ [x]).filterMap (fitF M y)) (T Sr) hs _
          rw [List.filterMap_append, List.filterMap_cons_none HF.out, List.filterMap_nil, List.append_nil]
          exact HIZ.out.keep HJ.out (fun _ h => h) (fun _ h => .inl h) (Keep.of_below hbF : Keep (fun _ => True) Z _) (fun _ _ _ => trivial) trivial (fun _ _ => trivial)
        | some f =>
          rw [hF] at HFIT
          have HF := hid hF
          clear hF
          gi_wp2_with (refine ⟨trivial, rfl, ?_⟩; gi_at_call 173; refine (CallsIn.inRound l' (callsIn_wide.2 HFIT.out)).mono ?_; rintro e Z2 ⟨⟨hno, _⟩ | ⟨f', fv, hso, rfl, hfv⟩, hb2⟩; cases hno; refine Stop.of ?_)
          refine Stop.go ?_
          obtain rfl : f = f' := by cases hso; rfl
          clear hso
          have HFV := hid hfv
          obtain ⟨pa, pn, pc, va, vn, vc, rfl, _, _, _, _, _, _, _, _⟩ := hfv
          have hy2 : Z2.cell? ⟨W.heap.size, 0, none⟩ = some (.func (.yield l) #[] #[]) := (hb2.cell (p := ⟨W.heap.size, 0, none⟩) hZz).trans hzy
          have hyl : W.heap.size < Z2.heap.size := Nat.lt_of_lt_of_le hZz hb2.size
          have hb3 := chain hb2 ((Below.refl Z2.heap.size Z2).alloc (Nat.le_refl _) (.cells #[.slice pa pn pc, .slice va vn vc] 201))
          have hyk := HY.out (T Sr) (fitsTo M y Wn t ++ pre.filterMap (fitF M y)) f (.agg #[.slice pa pn pc, .slice va vn vc]) (Z2.alloc (.cells #[.slice pa pn pc, .slice va vn vc] 201))
            (by rw [HN.out]; exact fitsTo_in hlt HPRE.out HF.out) (fun q hq => ⟨HIZ.out.s q hq, Nat.lt_of_lt_of_le (HTB.out q hq) hb3.size⟩) (Nat.le_trans (Nat.le_of_lt hZz) hb3.size)
            (HJ.out _ _ _ _ _ HIZ.out.j (fun _ h => h) (fun _ h => .inl h) (Keep.of_below hb3)) (HFV.out.own ((Below.refl _ _).alloc (Nat.le_refl _) _) (Nat.le_of_lt hZz) HTB.out)
          have HB3' := hid hb3
          clear hb2 hb3
          obtain ⟨fn, tmps, assign, body, hy, hR'⟩ := hyk
          gi_wp2
          refine ⟨rfl, hR'.mono ?_⟩
          clear hR' hy
          rintro e W3 ⟨⟨hs3, hk3⟩, ⟨rfl, hJ3⟩ | ⟨rfl, hJ3⟩⟩
          · gi_wp2
            refine ⟨Nat.le_trans HB3'.out.size hs3, fun q hq => ?_, ?_⟩
            · have hq' : T Sr q := by rw [HT.out]; exact .inr (by rcases hq with (hq | hq) | hq | hq | hq <;> simp [hq])
              exact (hk3 q (.inr hq')).trans (HB3'.out.block q (HTB.out q hq'))
            · show FitsI w0 fp l J W.heap.size (fitsTo M y Wn t ++ (pre ++ [x]).filterMap (fitF M y)) (T Sr) hs _
              rw [List.filterMap_append, List.filterMap_cons_some HF.out, List.filterMap_nil, ← List.append_assoc]
              exact HIZ.out.step HTB.out HB3'.out hs3 hk3 hJ3
          · gi_wp2
            refine ⟨Nat.le_trans HB3'.out.size hs3, fun q hq => ?_, rfl, ?_⟩
            · have hq' : T Sr q := by rw [HT.out]; exact .inr (by rcases hq with (hq | hq) | hq | hq | hq <;> simp [hq])
              exact (hk3 q (.inr hq')).trans (HB3'.out.block q (HTB.out q hq'))
            · show FitsI w0 fp l Jx W.heap.size (fitsTo M y Wn t ++ (pre ++ [x]).filterMap (fitF M y)) (T Sr) hs _
              rw [List.filterMap_append, List.filterMap_cons_some HF.out, List.filterMap_nil, ← List.append_assoc]
              exact HIZ.out.step HTB.out HB3'.out hs3 hk3 hJ3
      case hdone =>
        intro Sr Z hZ hSr hIZ hmk
        have HIZ := hid hIZ
        have HSR := hid hSr
        have HMK := hid hmk
        have HT := hid hT
        have hYs := hbL.size
        have HTB := hid (show ∀ q, T Sr q → q < Z.heap.size by
          rw [hT]; rintro q (h | h | h | h | h | h)
          · have := HSX.out q h; omega
          · omega
          · omega
          · omega
          · omega
          · exact (hSr q h).2)
        have HNN := hid (show wL.heap.size ∉ hs from fun h => by have := HSX.out _ (HX.out.m _ h).1; omega)
        clear hIZ hSr hmk hT hF0 hF1 hYs
        gi_wp2
        rw [HI.out, HMU.out]
        refine ⟨⟨_, _, _, _, _, _, _, _, _, _, _, _, _, _, _, _, _, _, _, _, _, _, _, _, _, _, _, _, _, _, _, _, t + 1, T Sr, wL.heap.size :: hs, hlt, ?_, HTB.out, List.nodup_cons.2 ⟨HNN.out, HND.out⟩, by first | rfl | (rw [cast1 t]; rfl)⟩, ?_⟩
        · rw [fitsTo_succ]
          refine ⟨HIZ.out.j, HIZ.out.s, HIZ.out.y, HIZ.out.c, HIZ.out.f, HIZ.out.z, fun q hq => ?_⟩
          rcases List.mem_cons.1 hq with rfl | hq
          · exact ⟨by rw [HT.out]; simp, HMK.out⟩
          · exact HIZ.out.m q hq
        · show N + 1 - (intOf (.int .i64 ((t : Int) + 1))).toNat < N + 1 - (intOf (.int .i64 (t : Int))).toNat
          simp only [intOf]; omega
      case hstop =>
        rintro Sr c pre Z hpre hSr ⟨rfl, hIZ⟩ hmk
        have HIZ := hid hIZ
        have HMK := hid hmk
        have HT := hid hT
        have HPRE := hid hpre
        have HNN := hid (show wL.heap.size ∉ hs from fun h => by have := HSX.out _ (HX.out.m _ h).1; have := hbL.size; omega)
        clear hIZ hSr hmk hT hF0 hF1 hpre
        gi_wp2
        refine marks_leave (wL.heap.size :: hs) Z (List.nodup_cons.2 ⟨HNN.out, HND.out⟩) (fun h hh => ?_) fun w' hk => ?_
        · rcases List.mem_cons.1 hh with rfl | hh
          · exact HMK.out
          · exact (HIZ.out.m h hh).2
        · refine ⟨_, results_none rfl _ _ _, ⟨_, rfl⟩, .inr ⟨T Sr, _, ?_, HJx.out _ _ _ _ _ HIZ.out.j (fun _ h => h) (fun _ h => .inl h) (hk.mono fun q hq hh => ?_)⟩⟩
          · rw [HN.out]
            exact fitsTo_in' hlt HPRE.out
          · rcases List.mem_cons.1 hh with rfl | hh
            · exact hq (by rw [HT.out]; simp)
            · exact hq (HIZ.out.m q hh).1
    · obtain rfl : t = N + 1 := by omega
      clear hX hSX hnd
      gi_wp2
      refine marks_leave hs X HND.out (fun h hh => (HX.out.m h hh).2) fun w' hk => ?_
      refine ⟨_, results_none rfl _ _ _, ⟨_, rfl⟩, .inl ⟨S, fun q hq => ⟨HX.out.s q hq, Nat.lt_of_lt_of_le (HSX.out q hq) hk.size⟩, ?_⟩⟩
      rw [HN.out]
      exact HJ.out _ _ _ _ _ HX.out.j (fun _ h => h) (fun _ h => .inl h) (hk.mono fun q hq hh => hq (HX.out.m q hh).1)
end Go.Proofs.YtddcamcdjkiadaaGreatDoor

namespace Go.Proofs.YtddcamcdjkiadaaGreatDoor
open Go.RowKit
set_option linter.unusedVariables false

theorem qfits_c (w : World) (a a2 : Option Addr) (n cap n2 cap2 : Nat) (k : Int) :
    Calls Tryz.prog 166 #[.agg #[.slice a n cap, .slice a2 n2 cap2], .int .i64 k] w fun e w' =>
      e = .returned (.func (.func 170) #[] #[.pointer (some ⟨w.heap.size + 1, 0, none⟩), .pointer (some ⟨w.heap.size, 0, none⟩)]) ∧
      w' = (w.alloc (.cells #[.slice a n cap, .slice a2 n2 cap2] 197)).alloc (.cells #[.int .i64 k] 3) := by
  have hmf : ∀ (fn : Fn) (first cap : Array Value) (w : World), (Instr.makeFunc fn first cap).run Tryz.prog w = .ok (.func fn first cap) w := fun _ _ _ _ => rfl
  go_enter Tryz.func166, Tryz.ntmps166
  go_wp2
  go_ret
  exact ⟨rfl, rfl⟩

theorem whole1 (w : World) : PredQ Tryz.prog 164 #[] w wholeR := by
  rintro ⟨r1, r2⟩ W hb
  have hbz : Below W.heap.size W (W.alloc (.cells #[.int .i64 r1, .int .i64 r2] 192)) := (Below.refl _ _).alloc (Nat.le_refl _) _
  simp only [ratV]
  have HW := hid (fun X => pwithin_c r1 (-1000000) 1000000 X)
  obtain ⟨b, hb1⟩ : ∃ b, b = inB r1 (-1000000) 1000000 := ⟨_, rfl⟩
  have HB := hid hb1
  rw [← hb1] at HW
  clear hb1
  by_cases h2 : r2 = 1
  · have hd : (r2 == 1) = true := by simp [h2]
    have hr : wholeR (r1, r2) = b := by unfold wholeR; rw [HB.out]; simp [h2]
    rw [hr]
    clear h2 hr
    go_enter Tryz.func164, Tryz.ntmps164
    go_wp2_with (go_at_call 165; refine (HW.out _).mono ?_; rintro e w1 ⟨rfl, rfl⟩)
    go_ret
    exact ⟨rfl, hbz⟩
  · have hd : (r2 == 1) = false := by simp [h2]
    have hr : wholeR (r1, r2) = false := by unfold wholeR; simp [h2]
    rw [hr]
    clear h2 hr
    go_enter Tryz.func164, Tryz.ntmps164
    go_wp2_with fail
    go_ret
    exact ⟨rfl, hbz⟩

def countE (M : Mask) (y : List Int) (k : Int) : Int := if checkE M y [] = 0 then (if inB k 0 10 = true then 0 else 7) else checkE M y []

theorem counted_c (w : World) (a a2 : Option Addr) (n cap n2 cap2 : Nat) (M : Mask) (y : List Int) (k : Int) (hn : M.length = n) (hn2 : y.length = n2) (hm : n ≤ maxLen) (hm2 : n2 ≤ maxLen) (H : RowsAt w a M) (H2 : IntsAt w a2 y) :
    Calls Tryz.prog 163 #[.slice a n cap, .slice a2 n2 cap2, .int .i64 k] w fun e w' => e = .returned (.int .i64 (countE M y k)) ∧ Below w.heap.size w w' := by
  have HC := hid (check_c w a a2 none n cap n2 cap2 0 0 M y [] hn hn2 rfl hm hm2 (by decide) H H2 (fun j hj => by simp at hj))
  have HW := hid (fun X => pwithin_c k 0 10 X)
  obtain ⟨E, hE⟩ : ∃ E, E = checkE M y [] := ⟨_, rfl⟩
  obtain ⟨b, hb⟩ : ∃ b, b = inB k 0 10 := ⟨_, rfl⟩
  have hP : countE M y k = if E = 0 then (if b = true then 0 else 7) else E := by rw [hE, hb]; rfl
  rw [← hE] at HC
  rw [← hb] at HW
  rw [hP]
  clear hE hb hP hn hn2 H H2
  go_enter Tryz.func163, Tryz.ntmps163
  by_cases h0 : E = 0
  · subst h0
    cases b
    all_goals
      go_wp2_with first
        | (go_at_call 169; refine HC.out.mono ?_; rintro e w1 ⟨rfl, hb1⟩)
        | (go_at_call 165; refine (HW.out _).mono ?_; rintro e w2 ⟨rfl, rfl⟩)
      go_ret
      exact ⟨rfl, hb1⟩
  · have hne : (E != 0) = true := by simp [h0]
    rw [if_neg h0]
    clear h0
    go_wp2_with (go_at_call 169; refine HC.out.mono ?_; rintro e w1 ⟨rfl, hb1⟩)
    go_ret
    exact ⟨rfl, hb1⟩
end Go.Proofs.YtddcamcdjkiadaaGreatDoor

namespace Go.Proofs.YtddcamcdjkiadaaGreatDoor
open Go.RowKit
set_option linter.unusedVariables false
attribute [local go_sem] Oper.semAt_some

theorem AnyT.takeDN {P : Program} {md : Region.Mode} {ops : Array Oper} {Q : Exit → Act → World → Prop} {S : World → Prop} {i d : Nat} {oi : Oper} {fuel : Nat} {listed : Array Bool} {a : Act} {w : World} {Wf : Nat → Bool} (hi : ops[i]? = some oi) (hd : oi.dst = some d)
    (hs : Region.noSelect ops = true) (hf : Region.free md ops listed i = true) (hr : (Region.ready md ops listed).contains i = true)
    (hQ : ∀ c a w, Q (.panic c) (a.put (some d) undef) w → Q (.panic c) a w)
    (hW : (List.range ops.size).all (fun j => waits md ops i j || Wf j) = true) (hw : Region.wanted oi (yielded ops a.tmps) = false) (hS : S w)
    (h : AnyT P md ops Q (fun j w => Wf j = true → S w) fuel (listed.setIfInBounds i true) (a.put (some d) undef) w) : AnyT P md ops Q (fun j w => Wf j = true → S w) (fuel + 1) listed a w :=
  AnyT.take (v := undef) hi hs hf hr (by rw [hd]; exact hQ) (fun j hj w hT => hT (by
    by_cases e : j < ops.size
    · have := List.all_eq_true.1 hW j (List.mem_range.2 e)
      rw [hj] at this; simpa using this
    · unfold waits at hj; rw [Array.getElem?_eq_none (by omega)] at hj; cases hj)) (fun w hS _ => hS) (.inr ⟨hw, rfl⟩) hS (by rw [hd]; exact h)

theorem solveP_len {R : List (List Int)} {n : Nat} (h : (solveP R n).2 = 0) : (solveP R n).1.length = n := by
  unfold solveP at h ⊢
  simp only [] at h ⊢
  split
  · rename_i h1; rw [if_pos h1] at h; simp at h
  · rename_i h1
    rw [if_neg h1] at h
    split
    · rename_i h2; rw [if_pos h2] at h; simp at h
    · simp
theorem fitF_len {M : Mask} {y S : List Int} {f : FitT} (h : fitF M y S = some f) : f.1 = S ∧ f.2.length = S.length := by
  obtain ⟨e, h0, _⟩ := fit_some h
  rw [e]
  refine ⟨rfl, ?_⟩
  show (solveV M S y).1.length = S.length
  unfold solveV at h0 ⊢
  split
  · rename_i hc
    rw [if_pos hc] at h0
    exact solveP_len h0
  · rename_i hc
    rw [if_neg hc] at h0
    exact absurd h0 hc
theorem fitsTo_mem {M : Mask} {y : List Int} {W t : Nat} {f : FitT} (h : f ∈ fitsTo M y W t) : ∃ j S, j < t ∧ S ∈ comb W j 0 ∧ fitF M y S = some f := by
  unfold fitsTo at h
  obtain ⟨j, hj, hf⟩ := List.mem_flatMap.1 h
  obtain ⟨S, hS, e⟩ := List.mem_filterMap.1 hf
  exact ⟨j, S, List.mem_range.1 hj, hS, e⟩
theorem fits_facts {M : Mask} {y : List Int} {k : Nat} {f : FitT} (h : f ∈ fitsF M y k) : SetOk (colsM M) f.1 ∧ f.2.length = f.1.length := by
  obtain ⟨j, S, _, hS, e⟩ := fitsTo_mem h
  obtain ⟨h1, h2⟩ := fitF_len e
  rw [h1]
  exact ⟨comb_ok hS, h2⟩

def okTo (f : FitT) (t : Nat) : Bool := (f.2.take t).all wholeR
theorem okTo_succ {f : FitT} {t : Nat} (h : t < f.2.length) : okTo f (t + 1) = (okTo f t && wholeR f.2[t]) := by
  unfold okTo
  rw [List.take_succ_eq_append_getElem h, List.all_append]
  simp
theorem okTo_all (f : FitT) : okTo f f.2.length = f.2.all wholeR := by unfold okTo; rw [List.take_length]

theorem FitV.keep {lo : Nat} {S : Nat → Prop} {x : FitT} {v : Value} {A B : World} {T : Nat → Prop} (h : FitV lo S x v A) (hk : Keep T A B) (hT : ∀ k, lo ≤ k → T k) : FitV lo S x v B := by
  obtain ⟨pa, pn, pc, va, vn, vc, e, h1, h2, h3, h4, h5, h6, h7, h8⟩ := h
  refine ⟨pa, pn, pc, va, vn, vc, e, h1, h2, h3, h4, fun j hj => ?_, fun j hj => ?_, fun b o e => ?_, fun b o e => ?_⟩
  · obtain ⟨b, o, e2, hlt, hc⟩ := h5 j hj
    exact ⟨b, o, e2, Nat.lt_of_lt_of_le hlt hk.size, hk.cell hc (hT b (h7 b o e2).1)⟩
  · obtain ⟨b, o, e2, hlt, hc, hd⟩ := h6 j hj
    exact ⟨b, o, e2, Nat.lt_of_lt_of_le hlt hk.size, hk.cell hc (hT b (h8 b o e2).1), hk.cell hd (hT b (h8 b o e2).1)⟩
  · obtain ⟨g1, g2, g3⟩ := h7 b o e
    exact ⟨g1, Nat.lt_of_lt_of_le g2 hk.size, g3⟩
  · obtain ⟨g1, g2, g3⟩ := h8 b o e
    exact ⟨g1, Nat.lt_of_lt_of_le g2 hk.size, g3⟩

theorem cell_blk {W W' : World} {b o : Nat} {v : Value} (h : W.cell? ⟨b, o, none⟩ = some v) (hk : W'.heap[b]? = W.heap[b]?) : W'.cell? ⟨b, o, none⟩ = some v :=
  (World.cell?_of_block (a := ⟨b, o, none⟩) hk).trans h
theorem lt_blk {W W' : World} {b : Nat} (h : b < W.heap.size) (hk : W'.heap[b]? = W.heap[b]?) : b < W'.heap.size := by
  rcases Nat.lt_or_ge b W'.heap.size with h' | h'
  · exact h'
  · rw [Array.getElem?_eq_none h', Array.getElem?_eq_getElem h] at hk; cases hk
theorem IntsAt.blk {W W' : World} {a : Option Addr} {l : List Int} (h : IntsAt W a l) (hk : ∀ k, k < W.heap.size → W'.heap[k]? = W.heap[k]?) : IntsAt W' a l := by
  intro j hj
  obtain ⟨b, off, e, hb, hc⟩ := h j hj
  exact ⟨b, off, e, lt_blk hb (hk b hb), cell_blk hc (hk b hb)⟩
theorem RowsAt.blk {W W' : World} {a : Option Addr} {l : List (List Int)} (h : RowsAt W a l) (hk : ∀ k, k < W.heap.size → W'.heap[k]? = W.heap[k]?) : RowsAt W' a l := by
  intro j hj
  obtain ⟨b, off, ra, n, cap, e, hb, hc, h1, h2, h3⟩ := h j hj
  exact ⟨b, off, ra, n, cap, e, lt_blk hb (hk b hb), cell_blk hc (hk b hb), h1, h2, h3.blk hk⟩
theorem alloc4 (w : World) (o1 o2 o3 o4 : Obj) : let W := (((w.alloc o1).alloc o2).alloc o3).alloc o4
    W.heap[w.heap.size]? = some o1 ∧ W.heap[w.heap.size + 1]? = some o2 ∧ W.heap[w.heap.size + 2]? = some o3 ∧ W.heap[w.heap.size + 3]? = some o4 ∧ W.heap.size = w.heap.size + 4 ∧ Below w.heap.size w W := by
  refine ⟨?_, ?_, ?_, ?_, ?_, ?_⟩
  · rw [Below.heap_alloc _ _ _ (by simp <;> omega), Below.heap_alloc _ _ _ (by simp <;> omega), Below.heap_alloc _ _ _ (by simp)]
    exact World.alloc_heap_new w o1
  · rw [Below.heap_alloc _ _ _ (by simp <;> omega), Below.heap_alloc _ _ _ (by simp)]
    have := World.alloc_heap_new (w.alloc o1) o2
    simpa using this
  · rw [Below.heap_alloc _ _ _ (by simp)]
    have := World.alloc_heap_new ((w.alloc o1).alloc o2) o3
    simpa using this
  · have := World.alloc_heap_new (((w.alloc o1).alloc o2).alloc o3) o4
    simpa using this
  · simp
  · exact ((((Below.refl _ w).alloc (Nat.le_refl _) _).alloc (by simp) _).alloc (by simp <;> omega) _).alloc (by simp <;> omega) _

def ElemN (W : World) (base : Nat) (S : Nat → Prop) (u : Value) (l : List Int) : Prop :=
  ∃ b cap, u = .slice (some ⟨b, 0, none⟩) l.length cap ∧ base ≤ b ∧ S b ∧ SpRow W b l ∧ l.length ≤ maxLen
def RowsN (T : TypeId) (W : World) (base : Nat) (S : Nat → Prop) (v : Value) (ls : List (List Int)) : Prop :=
  ∃ vs, W.ownsRow base T 1 v ls.length vs ∧ (∀ k, v.ownBlock = some k → S k) ∧ ∀ j (hj : j < ls.length), ∃ u, vs[j]? = some u ∧ ElemN W base S u ls[j]
theorem ElemN.elem {W : World} {base : Nat} {S : Nat → Prop} {u : Value} {l : List Int} (h : ElemN W base S u l) : ElemI 3 W base S u l := by
  obtain ⟨b, cap, rfl, h1, h2, h3, h4⟩ := h
  exact ElemI.sp h3 h4 h2
theorem RowsN.rowsO {T : TypeId} {W : World} {base : Nat} {S : Nat → Prop} {v : Value} {ls : List (List Int)} (h : RowsN T W base S v ls) : RowsO 3 T W base S v ls := by
  obtain ⟨vs, ho, hg, he⟩ := h
  exact ⟨vs, ho, hg, fun j hj => by obtain ⟨u, h1, h2⟩ := he j hj; exact ⟨u, h1, h2.elem⟩⟩
theorem RowsN.nil (T : TypeId) (W : World) (base : Nat) (S : Nat → Prop) : RowsN T W base S (.slice none 0 0) [] :=
  ⟨[], World.ownsRow_nil _ _ _ _, fun k hk => by simp [Value.ownBlock] at hk, fun j hj => by simp at hj⟩
theorem RowsN.keep {T : TypeId} {W W' : World} {base : Nat} {S S' K : Nat → Prop} {v : Value} {ls : List (List Int)} (h : RowsN T W base S v ls) (hk : Keep K W W') (hS : ∀ b, S b → b < W.heap.size → K b ∧ S' b) : RowsN T W' base S' v ls := by
  obtain ⟨vs, ho, hg, he⟩ := h
  refine ⟨vs, ⟨ho.1, ?_⟩, fun k hk' => ?_, fun j hj => ?_⟩
  · rcases ho.2 with hn | ⟨g, cap, cur, rfl, hb, hgg, rest⟩
    · exact .inl hn
    · have hlt := (Array.getElem?_eq_some_iff.1 hgg).1
      exact .inr ⟨g, cap, cur, rfl, hb, (hk.block g hlt (hS g (hg g rfl) hlt).1).trans hgg, rest⟩
  · rcases ho.2 with ⟨rfl, _⟩ | ⟨g, cap, cur, rfl, hb, hgg, rest⟩
    · simp [Value.ownBlock] at hk'
    · obtain rfl : g = k := by simpa [Value.ownBlock] using hk'
      exact (hS g (hg g rfl) (Array.getElem?_eq_some_iff.1 hgg).1).2
  · obtain ⟨u, hu, b, cap, e, h1, h2, h3, h4⟩ := he j hj
    have := hS b h2 h3.lt
    exact ⟨u, hu, b, cap, e, h1, this.2, h3.keep (hk.block b h3.lt this.1), h4⟩
theorem RowsN.snoc {T : TypeId} (hET : 3 ≠ T) {W w1 w2 : World} {base : Nat} {S : Nat → Prop} {v v' u : Value} {ls : List (List Int)} {l : List Int} {vs : List Value}
    (ho : W.ownsRow base T 1 v ls.length vs) (he : ∀ j (hj : j < ls.length), ∃ u, vs[j]? = some u ∧ ElemN W base S u ls[j]) (hu : ElemN W base S u l)
    (hW1 : Below W.heap.size W w1) (hg : w1.grownBy w2 v.ownBlock) (ho' : w2.ownsRow base T 1 v' (ls.length + 1) (vs ++ [u])) (hS' : ∀ k, v'.ownBlock = some k → S k) : RowsN T w2 base S v' (ls ++ [l]) := by
  have hlen : vs.length = ls.length := by have := ho.1; omega
  have hel : ∀ u l, ElemN W base S u l → ElemN w2 base S u l := by
    rintro u l ⟨b, cap, e, h1, h2, h3, h4⟩
    refine ⟨b, cap, e, h1, h2, h3.keep ((hg.block b (Nat.lt_of_lt_of_le h3.lt hW1.size) ?_).trans (hW1.block b h3.lt)), h4⟩
    rcases ho.2 with ⟨rfl, _⟩ | ⟨g, cap, cur, rfl, hbg, hgg, _⟩
    · simp [Value.ownBlock]
    · intro e
      obtain rfl : b = g := by simpa [Value.ownBlock] using e
      obtain ⟨sp, h3⟩ := h3
      rw [h3] at hgg; cases hgg; exact hET rfl
  refine ⟨vs ++ [u], by simpa using ho', hS', fun j hj => ?_⟩
  by_cases e : j < ls.length
  · obtain ⟨u', hu', hel'⟩ := he j e
    refine ⟨u', by rw [List.getElem?_append_left (by omega)]; exact hu', ?_⟩
    rw [List.getElem_append_left e]
    exact hel _ _ hel'
  · have : j = ls.length := by simp at hj; omega
    subst this
    refine ⟨u, by rw [List.getElem?_append_right (by omega), hlen]; simp, ?_⟩
    simp only [List.getElem_append_right (Nat.le_refl _), Nat.sub_self, List.getElem_cons_zero]
    exact hel _ _ hu

structure WholeI (w w3 : World) (ob : Nat) (fp : Nat → Prop) (S : Nat → Prop) (L : List (List Int)) (Z : World) : Prop where
  b : Below w.heap.size w Z
  f : Keep fp w3 Z
  o : ∃ v, Boxed Z ob 34 v ∧ RowsN 30 Z (w3.heap.size + 2) (fun q => ¬ S q ∧ q ≠ ob ∧ q ≠ w3.heap.size ∧ q ≠ w3.heap.size + 1) v L
  z : w3.heap.size + 2 ≤ Z.heap.size

theorem WholeI.keep {w w3 : World} {ob : Nat} {fp S S' : Nat → Prop} {L : List (List Int)} {A B : World} (h : WholeI w w3 ob fp S L A) (h1 : ∀ k, S k → S' k) (h2 : ∀ k, S' k → S k ∨ A.heap.size ≤ k) (h3 : ∀ k, S' k → w3.heap.size + 2 ≤ k)
    (hob : ob < w3.heap.size) (hfp : ∀ k, fp k → k < w3.heap.size) (hw : w.heap.size ≤ w3.heap.size) (hk : Keep (fun k => k ≠ w3.heap.size ∧ k ≠ w3.heap.size + 1 ∧ ¬ S' k) A B) : WholeI w w3 ob fp S' L B where
  b := by
    have hz := h.z
    exact hk.below h.b (Nat.le_trans hw (by omega)) (fun k hlt => ⟨by omega, by omega, fun hs => by have := h3 k hs; omega⟩)
  f := h.f.trans (hk.mono fun k hlt => by have := hfp k hlt; exact ⟨by omega, by omega, fun hs => by have := h3 k hs; omega⟩)
  o := by
    obtain ⟨v, hv, hr⟩ := h.o
    refine ⟨v, (hk.block ob hv.lt ⟨by omega, by omega, fun hs => by have := h3 _ hs; omega⟩).trans hv, ?_⟩
    refine RowsN.keep hr hk ?_
    rintro q ⟨g1, g2, g3, g4⟩ g5
    have : ¬ S' q := fun hs => by
      rcases h2 q hs with g | g
      · exact g1 g
      · omega
    exact ⟨⟨g3, g4, this⟩, this, g2, g3, g4⟩
  z := Nat.le_trans h.z hk.size

theorem WholeI.push {w w3 Z wr w9 : World} {ob : Nat} {fp Sr : Nat → Prop} {L : List (List Int)} {v v' : Value} {vs : List Value} {r : List Int} {cap : Nat} {o8 : Obj}
    (hI : WholeI w w3 ob fp Sr L Z) (hBo : Boxed wr ob 34 v) (hbw : Below Z.heap.size Z wr) (ho : wr.ownsRow (w3.heap.size + 2) 30 1 v L.length vs)
    (hg : ∀ k, v.ownBlock = some k → ¬ Sr k ∧ k ≠ ob ∧ k ≠ w3.heap.size ∧ k ≠ w3.heap.size + 1) (he : ∀ j (hj : j < L.length), ∃ u, vs[j]? = some u ∧ ElemN wr (w3.heap.size + 2) (fun q => ¬ Sr q ∧ q ≠ ob ∧ q ≠ w3.heap.size ∧ q ≠ w3.heap.size + 1) u L[j])
    (hr : SpRow wr Z.heap.size r) (hrm : r.length ≤ maxLen) (g5 : (wr.alloc o8).grownBy w9 v.ownBlock) (own5 : w9.ownsRow (w3.heap.size + 2) 30 1 v' (L.length + 1) (vs ++ [.slice (some ⟨Z.heap.size, 0, none⟩) r.length cap]))
    (hat : v'.ownBlock = v.ownBlock ∨ v'.ownBlock = some (wr.alloc o8).heap.size) (hSr : ∀ k, Sr k → w3.heap.size + 2 ≤ k ∧ k < Z.heap.size) (hob : ob < w3.heap.size) (hfp : ∀ k, fp k → k < w3.heap.size ∧ k ≠ ob) (hw : w.heap.size ≤ ob) :
    Z.heap.size ≤ (w9.setCell ⟨ob, 0, none⟩ v').heap.size ∧ (∀ k, (fp k ∨ k = w3.heap.size ∨ k = w3.heap.size + 1 ∨ Sr k) → (w9.setCell ⟨ob, 0, none⟩ v').heap[k]? = Z.heap[k]?) ∧ WholeI w w3 ob fp Sr (L ++ [r]) (w9.setCell ⟨ob, 0, none⟩ v') := by
  have hz := hI.z
  have hwz := hbw.size
  have hlo : ∀ k, v.ownBlock = some k → w3.heap.size + 2 ≤ k := fun k hk => (ho.lt k hk).1
  have ha : Below wr.heap.size wr (wr.alloc o8) := (Below.refl _ _).alloc (Nat.le_refl _) _
  have hset : Keep (fun k => k ≠ ob) w9 (w9.setCell ⟨ob, 0, none⟩ v') := Keep.set w9 ob 0 v'
  have hT : Keep (fun k => k ≠ ob ∧ some k ≠ v.ownBlock) Z (w9.setCell ⟨ob, 0, none⟩ v') :=
    (Keep.of_below hbw).trans ((Keep.of_below ha).trans (((Keep.grown g5).mono fun k hk => hk.2).trans (hset.mono fun k hk => hk.1)))
  have hPk : ∀ k, (fp k ∨ k = w3.heap.size ∨ k = w3.heap.size + 1 ∨ Sr k) → k < Z.heap.size ∧ k ≠ ob ∧ some k ≠ v.ownBlock := fun k hk => by
    rcases hk with h | h | h | h
    · exact ⟨by have := (hfp k h).1; omega, (hfp k h).2, fun e => by have := hlo k e.symm; have := (hfp k h).1; omega⟩
    · exact ⟨by omega, by omega, fun e => (hg k e.symm).2.2.1 h⟩
    · exact ⟨by omega, by omega, fun e => (hg k e.symm).2.2.2 h⟩
    · exact ⟨(hSr k h).2, by have := (hSr k h).1; omega, fun e => (hg k e.symm).1 h⟩
  refine ⟨hT.size, fun k hk => hT.block k (hPk k hk).1 (hPk k hk).2, ⟨hT.below hI.b (by have := hI.b.size; omega) (fun k hlt => ⟨by omega, fun e => by have := hlo k e.symm; omega⟩), hI.f.trans (hT.mono fun k hk => (hPk k (.inl hk)).2), ⟨v', ?_, ?_⟩, Nat.le_trans hz hT.size⟩⟩
  · refine Boxed.set v' (v := v) ?_
    have h1 : Boxed (wr.alloc o8) ob 34 v := hBo.alloc _
    exact h1.kept g5 (fun e => (hg ob e.symm).2.1 rfl)
  · refine RowsN.keep ?_ hset (fun k hk _ => ⟨hk.2.1, hk⟩) (S := fun q => ¬ Sr q ∧ q ≠ ob ∧ q ≠ w3.heap.size ∧ q ≠ w3.heap.size + 1)
    refine RowsN.snoc (by decide) ho he (u := .slice (some ⟨Z.heap.size, 0, none⟩) r.length cap) ⟨_, _, rfl, by omega, ⟨fun h => by have := (hSr _ h).2; omega, by omega, by omega, by omega⟩, hr, hrm⟩ ha g5 own5 ?_
    intro k hk
    rcases hat with e | e
    · exact hg k (by rw [← e]; exact hk)
    · rw [e] at hk
      have : (wr.alloc o8).heap.size = wr.heap.size + 1 := by simp
      cases hk
      exact ⟨fun h => by have := (hSr _ h).2; omega, by omega, by omega, by omega⟩

theorem fitsTo_count (M : Mask) (y : List Int) (W : Nat) : ∀ t, (fitsTo M y W t).length ≤ t * 2 ^ W
  | 0 => by simp [fitsTo]
  | t + 1 => by
    rw [fitsTo_succ, List.length_append]
    have h1 := fitsTo_count M y W t
    have h2 := List.length_filterMap_le (fitF M y) (comb W t 0)
    have h3 := comb_count W t 0
    rw [Nat.add_mul]
    omega
end Go.Proofs.YtddcamcdjkiadaaGreatDoor

namespace Go.Proofs.YtddcamcdjkiadaaGreatDoor
open Go.RowKit
set_option linter.unusedVariables false
attribute [local go_sem] Oper.semAt_some

def WholePost (w : World) (M : Mask) (y : List Int) (k : Int) (e : Ending) (w' : World) : Prop :=
  Below w.heap.size w w' ∧ ((countE M y k ≠ 0 ∧ e = .returned (.tuple #[.slice none 0 0, .int .i64 (countE M y k)])) ∨
    (countE M y k = 0 ∧ ∃ v, e = .returned (.tuple #[v, .int .i64 0]) ∧ ∃ base, w.heap.size ≤ base ∧ RowsN 30 w' base (fun _ => True) v (wholeF M y k.toNat)))

set_option maxRecDepth 100000 in
set_option maxHeartbeats 4000000 in
theorem whole_c (w : World) (a a2 : Option Addr) (n cap n2 cap2 : Nat) (M : Mask) (y : List Int) (k : Int) (hn : M.length = n) (hn2 : y.length = n2) (hm : n ≤ maxLen) (hm2 : n2 ≤ maxLen) (H : RowsAt w a M) (H2 : IntsAt w a2 y) :
    Calls Tryz.prog 156 #[.slice a n cap, .slice a2 n2 cap2, .int .i64 k] w (WholePost w M y k) := by
  have HC := hid (fun (W : World) (hb : Below w.heap.size w W) => counted_c W a a2 n cap n2 cap2 M y k hn hn2 hm hm2 (H.below hb) (H2.below hb))
  by_cases h0 : countE M y k = 0
  · obtain ⟨hM, hyn, hyB, _⟩ := check_ok (show checkE M y [] = 0 by
      unfold countE at h0; split at h0
      · assumption
      · exact h0)
    have hk : inB k 0 10 = true := by
      unfold countE at h0; split at h0
      · cases hb : inB k 0 10
        · rw [hb] at h0; simp at h0
        · rfl
      · contradiction
    obtain ⟨hM', h1, h6, hc1, hc10⟩ := okM_ok hM
    have hkk : ∃ q : Nat, k = (q : Int) ∧ q ≤ 10 := ⟨k.toNat, by unfold inB at hk; simp at hk; omega, by unfold inB at hk; simp at hk; omega⟩
    obtain ⟨q, rfl, hq10⟩ := hkk
    obtain ⟨b, off, ra, rc, rfl, hb, hc⟩ := rows_head H (by omega)
    have HPOST := hid (show ∀ e w', Below w.heap.size w w' → (∃ v, e = .returned (.tuple #[v, .int .i64 0]) ∧ ∃ base, w.heap.size ≤ base ∧ RowsN 30 w' base (fun _ => True) v (wholeF M y q)) → WholePost w M y q e w' from fun e w' h1 h2 => ⟨h1, .inr ⟨h0, h2⟩⟩)
    have HFI := hid (fun (w0 : World) (fp : Nat → Prop) (kb qb : Nat) => fits_iter w0 fp q kb qb (some ⟨b, off, none⟩) a2 n cap n2 cap2 M y hn hn2 hm hm2 (by omega) (by omega) (by omega))
    have HR := hid (show ∀ X : World, (∀ q, q < w.heap.size → X.heap[q]? = w.heap[q]?) → RowsAt X (some ⟨b, off, none⟩) M ∧ IntsAt X a2 y from fun X hX => ⟨RowsAt.blk H hX, IntsAt.blk H2 hX⟩)
    obtain ⟨W, hW⟩ : ∃ W, W = colsM M := ⟨_, rfl⟩
    have HWM := hid hW
    rw [← hW] at hc hc1 hc10
    rw [h0] at HC
    have HMK := hid (show ∀ w, (Instr.makeSlice 30 (.int .i64 (W : Int)) (.int .i64 (W : Int))).run Tryz.prog w = .ok (.slice (some ⟨w.heap.size, 0, none⟩) W W) (w.alloc (.cells (madeCells #[.int .i64 0] W) 3)) from fun w => run_make_row' 30 3 (.int .i64 0) 8 Tryz.underlying30 li_int rfl .i64 .i64 W (by omega) (by omega) w)
    have hz : (0 : Int) < (n : Int) := by omega
    clear hn hn2 hm hm2 H H2 h0 hM hyn hyB hk hW
    refine callsIn_wide (n := 0) |>.1 ?_
    refine callsIn_of_wp_marks Tryz.func156 rfl trivial ?_ rfl
    simp only [Tryz.ntmps156, List.size_toArray, List.length_cons, List.length_nil, Nat.reduceAdd, Nat.reduceSub, Array.replicate_succ, Array.replicate_zero, List.push_toArray, List.append_toArray, List.nil_append, List.cons_append]
    gi_wp2_with (refine ⟨trivial, rfl, ?_⟩; gi_at_call 163; refine (callsIn_wide.2 (HC.out _ ((Below.refl _ w).alloc (Nat.le_refl _) _))).mono ?_; rintro e w1 ⟨rfl, hb1⟩; refine Stop.of ?_)
    refine Stop.go ?_
    have hbw1 := chain ((Below.refl _ w).alloc (Nat.le_refl _) (.cells #[.slice (some ⟨b, off, none⟩) n cap] 35)) hb1
    have hsw : w.heap.size < w1.heap.size := Nat.lt_of_lt_of_le (by simp) hb1.size
    have hB1 : Boxed w1 w.heap.size 35 (.slice (some ⟨b, off, none⟩) n cap) := (hb1.block _ (by simp)).trans (Boxed.new w 35 _)
    have hc1 := hB1.cell
    have HBW1 := hid hbw1
    clear hb1 hbw1
    gi_wp2_with (refine ⟨trivial, rfl, ?_⟩; gi_at_call 166; refine (callsIn_wide.2 (qfits_c _ _ _ _ _ _ _ _)).mono ?_; rintro e w' ⟨rfl, rfl⟩; refine Stop.of ?_)
    refine Stop.go ?_
    obtain ⟨w3, hw3⟩ : ∃ w3, w3 = ((((w1.alloc (.cells #[.func (.func 164) #[] #[]] 193)).alloc (.cells #[.slice none 0 0] 34)).alloc (.cells #[.slice (some ⟨b, off, none⟩) n cap, .slice a2 n2 cap2] 197)).alloc (.cells #[.int .i64 q] 3)) := ⟨_, rfl⟩
    obtain ⟨x1, x2, x3, x4, hs3, hb3⟩ := alloc4 w1 (.cells #[.func (.func 164) #[] #[]] 193) (.cells #[.slice none 0 0] 34) (.cells #[.slice (some ⟨b, off, none⟩) n cap, .slice a2 n2 cap2] 197) (.cells #[.int .i64 q] 3)
    rw [← hw3] at x1 x2 x3 x4 hs3 hb3
    have hB3 : Boxed w3 w.heap.size 35 (.slice (some ⟨b, off, none⟩) n cap) := (hb3.block _ hsw).trans hB1
    have hbw3 := chain HBW1.out hb3
    rw [← hw3]
    have X1 := hid (show Boxed w3 w1.heap.size 193 (.func (.func 164) #[] #[]) from x1)
    have X2 := hid (show Boxed w3 (w1.heap.size + 1) 34 (.slice none 0 0) from x2)
    have X4 := hid (show Boxed w3 (w1.heap.size + 3) 3 (.int .i64 q) from x4)
    have X3 := hid x3
    have HB3 := hid hB3
    have HBW3 := hid hbw3
    clear hw3 x1 x2 x3 x4 hb3 hB3 hbw3 hc1 hB1
    obtain ⟨fp, hfp⟩ : ∃ fp : Nat → Prop, fp = fun q => q < w3.heap.size ∧ q ≠ w1.heap.size + 1 := ⟨_, rfl⟩
    have HFP := hid hfp
    clear hfp
    have HIT := hid (HFI.out w3 fp (w1.heap.size + 3) (w1.heap.size + 2) (by rw [HFP.out]; exact fun q h => h.1) (by rw [HFP.out]; exact ⟨by omega, by omega⟩) (by rw [HFP.out]; exact ⟨by omega, by omega⟩) X4.out.cell X3.out
      (fun X _ hX => HR.out X fun q hq => by
        rw [HFP.out] at hX
        have := HBW3.out.size
        exact (hX q ⟨by omega, by omega⟩).trans (HBW3.out.block q hq)))
    have HS3 := hid hs3
    clear hs3
    gi_wp2
    refine range_s (gf := 170) (lb := #[.pointer (some ⟨w1.heap.size + 3, 0, none⟩), .pointer (some ⟨w1.heap.size + 2, 0, none⟩)]) (xs := fitsF M y q) (fp := fp) (V := FitV) rfl (enters_of Tryz.func170 (by kernel_rfl) rfl)
      HIT.out (Below.refl _ _) (by rw [HFP.out]; exact fun q h => h.1)
      (fun Sr pre Z => WholeI w w3 (w1.heap.size + 1) fp Sr (pre.filterMap (wholeOne W)) Z)
      (fun _ _ _ _ => False) ?hI (fun _ _ _ _ _ _ h => h.elim) ?hV ?h0
      (fun v a' Z => ∃ p u1 u2, a' = { tmps := #[.slice (some ⟨b, off, none⟩) n cap, .slice a2 n2 cap2, .int .i64 q, .pointer (some ⟨w.heap.size, 0, none⟩), undef, undef, .slice none 0 0, .int .i64 0, .int .i64 0, .pointer (some ⟨w1.heap.size, 0, none⟩), .pointer (some ⟨w1.heap.size + 1, 0, none⟩), .pointer (some ⟨p, 0, none⟩), undef, undef, undef, undef, .slice (some ⟨b, off, none⟩) n cap, .slice a2 n2 cap2, .int .i64 q, .int .i64 0, .int .i64 0, .bool false, undef, .slice (some ⟨b, off, none⟩) n cap, .slice a2 n2 cap2, .agg #[.slice (some ⟨b, off, none⟩) n cap, .slice a2 n2 cap2], .int .i64 q, .func (.func 170) #[] #[.pointer (some ⟨w1.heap.size + 3, 0, none⟩), .pointer (some ⟨w1.heap.size + 2, 0, none⟩)], v, undef, undef, undef, undef, undef, undef, undef, undef, undef, undef, undef, undef, undef, undef, undef, undef, undef, undef, undef, undef, undef, undef, undef, undef, undef, undef, undef, undef, undef, undef, undef, undef, undef, undef, undef, undef, undef, undef, undef], defers := [] } ∧ v = .agg #[u1, u2] ∧ w3.heap.size + 2 ≤ p ∧ Z.heap[p]? = some (.cells #[u1, u2] 201 (0, 0))) ?hAx ?hassign ?hbody ?hdone ?hstop
    case hI =>
      intro Sr Sr' s A B hIA h1 h2 h3 h4 hk
      exact hIA.keep h1 h2 h3 (by have := HS3.out; omega) (by rw [HFP.out]; exact fun q h => h.1) (HBW3.out.size) hk
    case hV =>
      intro Sr x v A B hv hk
      exact hv.keep hk (fun k hk => ⟨by omega, by omega⟩)
    case h0 =>
      intro Z hk hZ
      rw [List.filterMap_nil]
      refine ⟨hk.below HBW3.out HBW3.out.size (fun k hk => Nat.lt_of_lt_of_le hk HBW3.out.size), hk.mono (by rw [HFP.out]; exact fun q h => h.1), ⟨_, (hk.block _ X2.out.lt (by have := HS3.out; omega)).trans X2.out, RowsN.nil _ _ _ _⟩, hZ⟩
    case hAx =>
      rintro v a' A B ⟨p, u1, u2, e1, e2, hp, hc⟩ hk
      exact ⟨p, u1, u2, e1, e2, hp, (hk.block p (Array.getElem?_eq_some_iff.1 hc).1 ⟨by omega, by omega⟩).trans hc⟩
    case hassign =>
      rintro l Sr x v Z K hZ ⟨pa, pn, pc, va, vn, vc, rfl, _, _, _, _, _, _, _, _⟩ hK
      gi_wp2
      refine hK _ _ ((Below.refl _ _).alloc (Nat.le_refl _) _) ⟨Z.heap.size, _, _, rfl, rfl, hZ, World.alloc_heap_new Z _⟩
    case hbody =>
      rintro l' Sr pre f _ _ Z hpre hSr hI hv ⟨p, u1, u2, rfl, rfl, hp, hpc⟩ hZ hDo hLo
      obtain ⟨pa, pn, pc, va, vn, vc, e, hl1, hl2, hm1, hm2, hi1, hr1, hpb, hvb⟩ := hv
      simp only [Value.agg.injEq, Array.mk.injEq, List.cons.injEq, and_true] at e
      obtain ⟨rfl, rfl⟩ := e
      obtain ⟨hset, hlen⟩ := fits_facts (hpre.subset (List.mem_append_right _ (List.mem_singleton.2 rfl)))
      rw [← HWM.out] at hset
      have hBM : Boxed Z w.heap.size 35 (.slice (some ⟨b, off, none⟩) n cap) := (hI.f.block _ HB3.out.lt (by rw [HFP.out]; exact ⟨HB3.out.lt, by omega⟩)).trans HB3.out
      have hBF : Boxed Z w1.heap.size 193 (.func (.func 164) #[] #[]) := (hI.f.block _ X1.out.lt (by rw [HFP.out]; exact ⟨X1.out.lt, by omega⟩)).trans X1.out
      have hcb : Z.cell? ⟨b, off, none⟩ = some (.slice ra W rc) := (hI.b.cell (p := ⟨b, off, none⟩) hb).trans hc
      have hcm := hBM.cell
      have hcf := hBF.cell
      have hp0 : Z.cell? ⟨p, 0, none⟩ = some (.slice pa pn pc) := by simp [World.cell?, hpc]
      have hp1 : Z.cell? ⟨p, 1, none⟩ = some (.slice va vn vc) := by simp [World.cell?, hpc]
      have hmk := HMK.out
      have hpl : p < Z.heap.size := (Array.getElem?_eq_some_iff.1 hpc).1
      obtain ⟨Z1, hZ1⟩ : ∃ Z1, Z1 = Z.alloc (.cells (madeCells #[.int .i64 0] W) 3) := ⟨_, rfl⟩
      have hr0 : SpRow Z1 Z.heap.size (List.replicate W 0) := by rw [hZ1]; exact ⟨[], by rw [List.append_nil]; exact IntRow.made Z 3 W⟩
      have hbZ : Below Z.heap.size Z Z1 := by rw [hZ1]; exact (Below.refl _ _).alloc (Nat.le_refl _) _
      have HR0 := hid hr0
      have HBZ := hid hbZ
      have HZ1 := hid hZ1
      have HI := hid hI
      have HSR := hid hSr
      have HPRE := hid hpre
      have HSET := hid hset
      have HI1 := hid hi1
      have HR1 := hid hr1
      have HPB := hid hpb
      have HVB := hid hvb
      have HL1 := hid hl1
      have HL2 := hid hl2
      have HLEN := hid hlen
      have HDO := hid hDo
      have HLO := hid hLo
      have HPC := hid hpc
      have HBF := hid hBF
      clear hr0 hbZ hZ1 hI hSr hpre hset hi1 hr1 hpb hvb hl1 hl2 hlen hDo hLo hpc hBM hBF
      gi_wp2
      rw [← HZ1.out]
      clear hmk hcm hcb
      gi_loopw [13, 37] (fun okv i wr => ∃ t : Nat, t ≤ pn ∧ i = .int .i64 t ∧ okv = .bool (okTo f t) ∧ SpRow wr Z.heap.size (spreadTo1 W f t) ∧ Keep (fun k => k ≠ Z.heap.size) Z1 wr) (fun _ i _ => pn - (intOf i).toNat)
      case atStart => exact ⟨0, Nat.zero_le _, rfl, rfl, HR0.out, Keep.refl _ _⟩
      case round =>
        obtain ⟨t, ht, rfl, rfl, hr, hkp⟩ := hrel
        have hbw : Below Z.heap.size Z wr := hkp.below HBZ.out (by have := HBZ.out.size; omega) (fun k hk => by omega)
        by_cases hlt : t < pn
        · have hlt' : (t : Int) < (pn : Int) := by omega
          have ht0 : (0 : Int) ≤ (t : Int) := by omega
          obtain ⟨pb, po, rfl, hpb1, hpc1⟩ := HI1.out t (by rw [HL1.out]; exact hlt)
          have htv : t < f.2.length := by rw [HLEN.out, HL1.out]; exact hlt
          have hvn : vn = pn := by rw [← HL2.out, HLEN.out, HL1.out]
          obtain ⟨vb, vo, rfl, hvb1, hvc1, hvc2⟩ := HR1.out t htv
          have g0 : wr.cell? ⟨pb, po + t, none⟩ = some (.int .i64 (f.1[t]?.getD 0)) := (hbw.cell (p := ⟨pb, _, none⟩) hpb1).trans hpc1
          have g1 : wr.cell? ⟨vb, vo + t * 2, none⟩ = some (.int .i64 f.2[t].1) := (hbw.cell (p := ⟨vb, _, none⟩) hvb1).trans hvc1
          have g2 : wr.cell? ⟨vb, vo + t * 2 + 1, none⟩ = some (.int .i64 f.2[t].2) := (hbw.cell (p := ⟨vb, _, none⟩) hvb1).trans hvc2
          have g3 : wr.cell? ⟨p, 1, none⟩ = some (.slice (some ⟨vb, vo, none⟩) vn vc) := (hbw.cell (p := ⟨p, 1, none⟩) hpl).trans hp1
          have g4 : wr.cell? ⟨w1.heap.size, 0, none⟩ = some (.func (.func 164) #[] #[]) := (hbw.cell (p := ⟨w1.heap.size, 0, none⟩) HBF.out.lt).trans hcf
          have hpix := HSET.out.get (i := t) (by rw [HL1.out]; exact hlt)
          have hgx : f.1[t]?.getD 0 = f.1[t]'(by rw [HL1.out]; exact hlt) := by rw [List.getElem?_eq_getElem]; rfl
          rw [← hgx] at hpix
          have hsn := spreadTo1_succ W f t
          have hvx : (f.2[t]?.getD (0, 0)).1 = f.2[t].1 := by rw [List.getElem?_eq_getElem htv]; rfl
          rw [hvx] at hsn
          have hok := okTo_succ htv
          obtain ⟨x, hx⟩ : ∃ x : Nat, f.1[t]?.getD 0 = (x : Int) := ⟨(f.1[t]?.getD 0).toNat, by omega⟩
          rw [hx] at g0 hpix hsn
          rw [Int.toNat_natCast] at hsn
          obtain ⟨⟨r1, r2⟩, hrr⟩ : ∃ r, r = f.2[t] := ⟨_, rfl⟩
          rw [← hrr] at g1 g2 hsn hok
          simp only [] at g1 g2 hsn
          obtain ⟨ok, hokk⟩ : ∃ ok, ok = okTo f t := ⟨_, rfl⟩
          rw [← hokk] at hok ⊢
          clear hgx hvx hx hrr hokk
          subst hvn
          have HHR := hid hr
          have HKP := hid hkp
          have HBW := hid hbw
          have HSN := hid hsn
          have HOK := hid hok
          have hx0 : (0 : Int) ≤ (x : Int) := hpix.1
          have hxW : (x : Int) < (W : Int) := hpix.2
          have hlen : (spreadTo1 W f t).length = W := spreadTo1_len W f t
          have HLS := hid hlen
          have HLT := hid hlt
          have HWR := hid (show wrap64 ((t : Int) + 1) = ((t + 1 : Nat) : Int) by unfold maxLen at hm1; unfold wrap64; omega)
          clear hr hkp hbw hsn hok hpix hlen hpc1 hvc1 hvc2
          gi_wp2
          have HSX := hid (show ∀ X : World, Keep (fun k => k ≠ Z.heap.size) wr X → Keep (fun k => k ≠ Z.heap.size) wr X ∧ X.cell? ⟨p, 1, none⟩ = some (.slice (some ⟨vb, vo, none⟩) vn vc) ∧ X.cell? ⟨vb, vo + t * 2, none⟩ = some (.int .i64 r1) ∧ X.cell? ⟨vb, vo + t * 2 + 1, none⟩ = some (.int .i64 r2) ∧ X.cell? ⟨w1.heap.size, 0, none⟩ = some (.func (.func 164) #[] #[]) from fun X hX =>
            ⟨hX, hX.cell g3 (Nat.ne_of_lt hpl), hX.cell g1 (Nat.ne_of_lt hvb1), hX.cell g2 (Nat.ne_of_lt hvb1), hX.cell g4 (Nat.ne_of_lt HBF.out.lt)⟩)
          refine round_region (fun j w' => decide (j < 21) = true → Keep (fun k => k ≠ Z.heap.size) wr w' ∧ w'.cell? ⟨p, 1, none⟩ = some (.slice (some ⟨vb, vo, none⟩) vn vc) ∧ w'.cell? ⟨vb, vo + t * 2, none⟩ = some (.int .i64 r1) ∧ w'.cell? ⟨vb, vo + t * 2 + 1, none⟩ = some (.int .i64 r2) ∧ w'.cell? ⟨w1.heap.size, 0, none⟩ = some (.func (.func 164) #[] #[])) l' 0 (by kernel_rfl) (by kernel_rfl) (fun ⟨_, _, h⟩ => h) ?_
          have hS := HSX.out wr.drew (Keep.of_below (Below.refl wr.heap.size wr).drew)
          have hHd : SpRow wr.drew Z.heap.size (spreadTo1 W f t) := HHR.out
          have hsd : wr.heap.size ≤ wr.drew.heap.size := Nat.le_refl _
          generalize wr.drew = wd at hS hHd hsd ⊢
          clear g0 g1 g2 g3 g4
          refine AnyT.takeD (i := 0) (v := .slice (some ⟨Z.heap.size, 0, none⟩) W W) rfl rfl (by kernel_rfl) (by kernel_rfl) (by kernel_rfl) (by first | exact (fun _ _ _ h => h) | exact (fun _ _ _ h => absurd h.1 (by simp))) (by kernel_rfl) (by rfl) (by rintro w' ⟨_, q1, q2, q3, q4⟩; go_simp) hS ?_; go_frame
          refine AnyT.takeD (i := 1) (v := .int .i64 x) rfl rfl (by kernel_rfl) (by kernel_rfl) (by kernel_rfl) (by first | exact (fun _ _ _ h => h) | exact (fun _ _ _ h => absurd h.1 (by simp))) (by kernel_rfl) (by rfl) (by rintro w' ⟨_, q1, q2, q3, q4⟩; go_simp) hS ?_; go_frame
          refine AnyT.takeD (i := 2) (v := .pointer (some ⟨p, 1, none⟩)) rfl rfl (by kernel_rfl) (by kernel_rfl) (by kernel_rfl) (by first | exact (fun _ _ _ h => h) | exact (fun _ _ _ h => absurd h.1 (by simp))) (by kernel_rfl) (by rfl) (by rintro w' ⟨_, q1, q2, q3, q4⟩; go_simp) hS ?_; go_frame
          refine AnyT.takeD (i := 3) (v := .slice (some ⟨vb, vo, none⟩) vn vc) rfl rfl (by kernel_rfl) (by kernel_rfl) (by kernel_rfl) (by first | exact (fun _ _ _ h => h) | exact (fun _ _ _ h => absurd h.1 (by simp))) (by kernel_rfl) (by rfl) (by rintro w' ⟨_, q1, q2, q3, q4⟩; go_simp) hS ?_; go_frame
          refine AnyT.takeD (i := 4) (v := .int .i64 t) rfl rfl (by kernel_rfl) (by kernel_rfl) (by kernel_rfl) (by first | exact (fun _ _ _ h => h) | exact (fun _ _ _ h => absurd h.1 (by simp))) (by kernel_rfl) (by rfl) (by rintro w' ⟨_, q1, q2, q3, q4⟩; go_simp) hS ?_; go_frame
          refine AnyT.takeD (i := 5) (v := .pointer (some ⟨vb, vo + t * 2, none⟩)) rfl rfl (by kernel_rfl) (by kernel_rfl) (by kernel_rfl) (by first | exact (fun _ _ _ h => h) | exact (fun _ _ _ h => absurd h.1 (by simp))) (by kernel_rfl) (by rfl) (by rintro w' ⟨_, q1, q2, q3, q4⟩; go_simp) hS ?_; go_frame
          refine AnyT.takeD (i := 6) (v := .pointer (some ⟨vb, vo + t * 2, none⟩)) rfl rfl (by kernel_rfl) (by kernel_rfl) (by kernel_rfl) (by first | exact (fun _ _ _ h => h) | exact (fun _ _ _ h => absurd h.1 (by simp))) (by kernel_rfl) (by rfl) (by rintro w' ⟨_, q1, q2, q3, q4⟩; go_simp) hS ?_; go_frame
          refine AnyT.takeD (i := 7) (v := .int .i64 r1) rfl rfl (by kernel_rfl) (by kernel_rfl) (by kernel_rfl) (by first | exact (fun _ _ _ h => h) | exact (fun _ _ _ h => absurd h.1 (by simp))) (by kernel_rfl) (by rfl) (by rintro w' ⟨_, q1, q2, q3, q4⟩; go_simp) hS ?_; go_frame
          refine AnyT.takeD (i := 8) (v := .bool ok) rfl rfl (by kernel_rfl) (by kernel_rfl) (by kernel_rfl) (by first | exact (fun _ _ _ h => h) | exact (fun _ _ _ h => absurd h.1 (by simp))) (by kernel_rfl) (by rfl) (by rintro w' ⟨_, q1, q2, q3, q4⟩; go_simp) hS ?_; go_frame
          refine AnyT.takeD (i := 9) (v := .bool ok) rfl rfl (by kernel_rfl) (by kernel_rfl) (by kernel_rfl) (by first | exact (fun _ _ _ h => h) | exact (fun _ _ _ h => absurd h.1 (by simp))) (by kernel_rfl) (by rfl) (by rintro w' ⟨_, q1, q2, q3, q4⟩; go_simp) hS ?_; go_frame
          have HHD := hid hHd
          clear hHd
          cases ok
          · have hok2 : okTo f (t + 1) = false := by rw [HOK.out]; rfl
            refine AnyT.takeDN (i := 10) rfl rfl (by kernel_rfl) (by kernel_rfl) (by kernel_rfl) (by first | exact (fun _ _ _ h => h) | exact (fun _ _ _ h => absurd h.1 (by simp))) (by kernel_rfl) (by rfl) hS ?_; go_frame
            refine AnyT.takeDN (i := 11) rfl rfl (by kernel_rfl) (by kernel_rfl) (by kernel_rfl) (by first | exact (fun _ _ _ h => h) | exact (fun _ _ _ h => absurd h.1 (by simp))) (by kernel_rfl) (by rfl) hS ?_; go_frame
            refine AnyT.takeDN (i := 12) rfl rfl (by kernel_rfl) (by kernel_rfl) (by kernel_rfl) (by first | exact (fun _ _ _ h => h) | exact (fun _ _ _ h => absurd h.1 (by simp))) (by kernel_rfl) (by rfl) hS ?_; go_frame
            refine AnyT.takeDN (i := 13) rfl rfl (by kernel_rfl) (by kernel_rfl) (by kernel_rfl) (by first | exact (fun _ _ _ h => h) | exact (fun _ _ _ h => absurd h.1 (by simp))) (by kernel_rfl) (by rfl) hS ?_; go_frame
            refine AnyT.takeDN (i := 14) rfl rfl (by kernel_rfl) (by kernel_rfl) (by kernel_rfl) (by first | exact (fun _ _ _ h => h) | exact (fun _ _ _ h => absurd h.1 (by simp))) (by kernel_rfl) (by rfl) hS ?_; go_frame
            refine AnyT.takeDN (i := 15) rfl rfl (by kernel_rfl) (by kernel_rfl) (by kernel_rfl) (by first | exact (fun _ _ _ h => h) | exact (fun _ _ _ h => absurd h.1 (by simp))) (by kernel_rfl) (by rfl) hS ?_; go_frame
            refine AnyT.takeDN (i := 16) rfl rfl (by kernel_rfl) (by kernel_rfl) (by kernel_rfl) (by first | exact (fun _ _ _ h => h) | exact (fun _ _ _ h => absurd h.1 (by simp))) (by kernel_rfl) (by rfl) hS ?_; go_frame
            refine AnyT.takeD (i := 17) (v := .bool false) rfl rfl (by kernel_rfl) (by kernel_rfl) (by kernel_rfl) (by first | exact (fun _ _ _ h => h) | exact (fun _ _ _ h => absurd h.1 (by simp))) (by kernel_rfl) (by rfl) (by rintro w' ⟨_, q1, q2, q3, q4⟩; go_simp) hS ?_; go_frame
            refine AnyT.takeD (i := 18) (v := .pointer (some ⟨Z.heap.size, x, none⟩)) rfl rfl (by kernel_rfl) (by kernel_rfl) (by kernel_rfl) (by first | exact (fun _ _ _ h => h) | exact (fun _ _ _ h => absurd h.1 (by simp))) (by kernel_rfl) (by rfl) (by rintro w' ⟨_, q1, q2, q3, q4⟩; go_simp) hS ?_; go_frame
            refine AnyT.next (i := 19) (by kernel_rfl) rfl (wpOp_of_list rfl ?_)
            have hc9 := HHD.out.cell (j := x) (by rw [HLS.out]; omega)
            have hf9 := HHD.out.frozen x
            have hl9 := HHD.out.lt
            have hS9 := HSX.out (wd.setCell ⟨Z.heap.size, x, none⟩ (.int .i64 r1)) (hS.1.trans (Keep.set _ _ _ _))
            have hH9 := HHD.out.set x (by rw [HLS.out]; omega) r1
            rw [← HSN.out] at hH9
            have HH9 := hid hH9
            clear hH9
            go_wp2
            refine ⟨fun _ => hS9, ?_⟩
            refine AnyT.takeD (i := 20) (v := .bool false) rfl rfl (by kernel_rfl) (by kernel_rfl) (by kernel_rfl) (by first | exact (fun _ _ _ h => h) | exact (fun _ _ _ h => absurd h.1 (by simp))) (by kernel_rfl) (by rfl) (by rintro w' ⟨_, q1, q2, q3, q4⟩; go_simp) hS9 ?_; go_frame
            refine ⟨by kernel_rfl, ?_⟩
            have HS9 := hid hS9
            clear hc9 hf9 hl9 hS9
            gi_wp2
            rw [HWR.out]
            refine ⟨⟨t + 1, HLT.out, rfl, by rw [hok2], HH9.out, HKP.out.trans HS9.out.1⟩, meas2 HLT.out⟩
          · have hok1 : True := trivial
            refine AnyT.takeD (i := 10) (v := .func (.func 164) #[] #[]) rfl rfl (by kernel_rfl) (by kernel_rfl) (by kernel_rfl) (by first | exact (fun _ _ _ h => h) | exact (fun _ _ _ h => absurd h.1 (by simp))) (by kernel_rfl) (by rfl) (by rintro w' ⟨_, q1, q2, q3, q4⟩; go_simp) hS ?_; go_frame
            refine AnyT.takeD (i := 11) (v := .pointer (some ⟨p, 1, none⟩)) rfl rfl (by kernel_rfl) (by kernel_rfl) (by kernel_rfl) (by first | exact (fun _ _ _ h => h) | exact (fun _ _ _ h => absurd h.1 (by simp))) (by kernel_rfl) (by rfl) (by rintro w' ⟨_, q1, q2, q3, q4⟩; go_simp) hS ?_; go_frame
            refine AnyT.takeD (i := 12) (v := .slice (some ⟨vb, vo, none⟩) vn vc) rfl rfl (by kernel_rfl) (by kernel_rfl) (by kernel_rfl) (by first | exact (fun _ _ _ h => h) | exact (fun _ _ _ h => absurd h.1 (by simp))) (by kernel_rfl) (by rfl) (by rintro w' ⟨_, q1, q2, q3, q4⟩; go_simp) hS ?_; go_frame
            refine AnyT.takeD (i := 13) (v := .int .i64 t) rfl rfl (by kernel_rfl) (by kernel_rfl) (by kernel_rfl) (by first | exact (fun _ _ _ h => h) | exact (fun _ _ _ h => absurd h.1 (by simp))) (by kernel_rfl) (by rfl) (by rintro w' ⟨_, q1, q2, q3, q4⟩; go_simp) hS ?_; go_frame
            refine AnyT.takeD (i := 14) (v := .pointer (some ⟨vb, vo + t * 2, none⟩)) rfl rfl (by kernel_rfl) (by kernel_rfl) (by kernel_rfl) (by first | exact (fun _ _ _ h => h) | exact (fun _ _ _ h => absurd h.1 (by simp))) (by kernel_rfl) (by rfl) (by rintro w' ⟨_, q1, q2, q3, q4⟩; go_simp) hS ?_; go_frame
            refine AnyT.takeD (i := 15) (v := .agg #[.int .i64 r1, .int .i64 r2]) rfl rfl (by kernel_rfl) (by kernel_rfl) (by kernel_rfl) (by first | exact (fun _ _ _ h => h) | exact (fun _ _ _ h => absurd h.1 (by simp))) (by kernel_rfl) (by rfl) (by rintro w' ⟨_, q1, q2, q3, q4⟩; go_simp) hS ?_; go_frame
            refine AnyT.next (i := 16) (by kernel_rfl) rfl (wpOp_of_list rfl ?_)
            have HWH := hid (whole1 wd (r1, r2) wd (Below.refl _ _))
            go_wp2_with (go_at_call 164; refine HWH.out.mono ?_; rintro e w7 ⟨rfl, hb7⟩; refine Stop.of ?_)
            refine Stop.go ?_
            have hS7 := HSX.out w7 (hS.1.trans (Keep.of_below hb7))
            have HH7 := hid (HHD.out.keep (hb7.block _ HHD.out.lt))
            go_wp2
            refine ⟨fun _ => hS7, ?_⟩
            clear hS hb7
            obtain ⟨wr0, hwr0⟩ : ∃ b, b = wholeR (r1, r2) := ⟨_, rfl⟩
            rw [← hwr0]
            have hok2 : okTo f (t + 1) = wr0 := by rw [HOK.out, hwr0]; rfl
            clear hwr0
            refine AnyT.takeD (i := 17) (v := .bool wr0) rfl rfl (by kernel_rfl) (by kernel_rfl) (by kernel_rfl) (by first | exact (fun _ _ _ h => h) | exact (fun _ _ _ h => absurd h.1 (by simp))) (by kernel_rfl) (by rfl) (by rintro w' ⟨_, q1, q2, q3, q4⟩; go_simp) hS7 ?_; go_frame
            refine AnyT.takeD (i := 18) (v := .pointer (some ⟨Z.heap.size, x, none⟩)) rfl rfl (by kernel_rfl) (by kernel_rfl) (by kernel_rfl) (by first | exact (fun _ _ _ h => h) | exact (fun _ _ _ h => absurd h.1 (by simp))) (by kernel_rfl) (by rfl) (by rintro w' ⟨_, q1, q2, q3, q4⟩; go_simp) hS7 ?_; go_frame
            refine AnyT.next (i := 19) (by kernel_rfl) rfl (wpOp_of_list rfl ?_)
            have hc9 := HH7.out.cell (j := x) (by rw [HLS.out]; omega)
            have hf9 := HH7.out.frozen x
            have hl9 := HH7.out.lt
            have hS9 := HSX.out (w7.setCell ⟨Z.heap.size, x, none⟩ (.int .i64 r1)) (hS7.1.trans (Keep.set _ _ _ _))
            have hH9 := HH7.out.set x (by rw [HLS.out]; omega) r1
            rw [← HSN.out] at hH9
            have HH9 := hid hH9
            clear hH9
            go_wp2
            refine ⟨fun _ => hS9, ?_⟩
            refine AnyT.takeD (i := 20) (v := .bool wr0) rfl rfl (by kernel_rfl) (by kernel_rfl) (by kernel_rfl) (by first | exact (fun _ _ _ h => h) | exact (fun _ _ _ h => absurd h.1 (by simp))) (by kernel_rfl) (by rfl) (by rintro w' ⟨_, q1, q2, q3, q4⟩; go_simp) hS9 ?_; go_frame
            refine ⟨by kernel_rfl, ?_⟩
            have HS9 := hid hS9
            clear hc9 hf9 hl9 hS9
            gi_wp2
            rw [HWR.out]
            refine ⟨⟨t + 1, HLT.out, rfl, by rw [hok2], HH9.out, HKP.out.trans HS9.out.1⟩, meas2 HLT.out⟩
        · obtain rfl : t = pn := by omega
          have HOKA := hid (show okTo f t = f.2.all wholeR by rw [← okTo_all, HLEN.out, HL1.out])
          have HSP := hid (show spreadTo1 W f t = spreadI W f by unfold spreadI; rw [HL1.out])
          rw [HOKA.out] at *
          have HHR := hid hr
          have HKP := hid hkp
          have HBW := hid hbw
          have hlt' : decide ((t : Int) < (t : Int)) = false := by simp
          have HWO := hid (show wholeOne W f = if f.2.all wholeR = true then some (spreadI W f) else none from rfl)
          obtain ⟨ok, hokk⟩ : ∃ ok, ok = f.2.all wholeR := ⟨_, rfl⟩
          rw [← hokk] at HWO ⊢
          clear hr hkp hbw hokk HOKA
          cases ok
          · have hno : wholeOne W f = none := by rw [HWO.out]; rfl
            have HNO := hid hno
            clear hno HWO
            gi_wp2
            refine ⟨HBW.out.size, fun k hk => HBW.out.block k ?_, ?_⟩
            · rcases hk with h | h | h | h
              · rw [HFP.out] at h; have := h.1; omega
              · omega
              · omega
              · exact (HSR.out k h).2
            · show WholeI w w3 (w1.heap.size + 1) fp Sr ((pre ++ [f]).filterMap (wholeOne W)) wr
              rw [List.filterMap_append, List.filterMap_cons_none HNO.out, List.filterMap_nil, List.append_nil]
              exact HI.out.keep (fun _ h => h) (fun _ h => .inl h) (fun k h => (HSR.out k h).1) (by have := HS3.out; omega) (by rw [HFP.out]; exact fun q h => h.1) HBW3.out.size (Keep.of_below HBW.out)
          · have hyes : wholeOne W f = some (spreadI W f) := by rw [HWO.out]; rfl
            obtain ⟨v, hvb, vs, ho, hg, he⟩ := HI.out.o
            obtain ⟨C, hC⟩ : ∃ C, C = pre.filterMap (wholeOne W) := ⟨_, rfl⟩
            have HCL := hid (show C.length ≤ 20000 by
              rw [hC]
              have h1 := List.length_filterMap_le (wholeOne W) pre
              have h2 := HPRE.out.length_le
              simp only [List.length_append, List.length_singleton] at h2
              have h3 := fitsTo_count M y (colsM M) (min (min q (colsM M)) M.length + 1)
              have h4 : 2 ^ (colsM M) ≤ 1024 := Nat.pow_le_pow_right (by omega) (show colsM M ≤ 10 by rw [← HWM.out]; exact hc10)
              have h5 : (min (min q (colsM M)) M.length + 1) * 2 ^ (colsM M) ≤ 11 * 1024 := Nat.mul_le_mul (by omega) h4
              have h6 : (fitsF M y q).length = (fitsTo M y (colsM M) (min (min q (colsM M)) M.length + 1)).length := rfl
              omega)
            rw [← hC] at ho he
            have hIC := HI.out
            rw [← hC] at hIC
            have HIC := hid hIC
            have hRO := RowsN.keep (W' := wr) ⟨vs, ho, hg, he⟩ (Keep.of_below HBW.out) (fun b hb _ => ⟨hb, hb⟩)
            have hBo : Boxed wr (w1.heap.size + 1) 34 v := (HBW.out.block _ hvb.lt).trans hvb
            obtain ⟨vs', ho', hg', he'⟩ := hRO
            have HO := hid ho'
            have HG := hid hg'
            have HE := hid he'
            have HBO := hid hBo
            have hbc := hBo.cell
            have hbf := hBo.frozen
            have hbl := hBo.lt
            have HYES := hid hyes
            have HC := hid hC
            have hZw : w3.heap.size + 2 ≤ wr.heap.size := Nat.le_trans HI.out.z HBW.out.size
            have M1 := hid (show C.length + 1 ≤ maxLen by have := HCL.out; unfold maxLen; omega)
            have M2 := hid (show (C.length + 1) * 24 ≤ 140737488355328 by have := HCL.out; omega)
            have M3 := hid (show w3.heap.size + 2 ≤ (wr.alloc (.cells #[.slice (some ⟨Z.heap.size, 0, none⟩) W W] 30)).heap.size by simp; omega)
            obtain ⟨i0, hi0, hz0, hz1, hz2⟩ := info_parts li_ints
            clear hyes hvb ho hg he ho' hg' he' hIC hBo hC
            gi_wp2_with (gi_at_builtin; go_loud (refine wpListIn_append_own_at _ rfl _ _ 34 rfl (w3.heap.size + 2) 30 i0 (.slice none 0 0) 1 24 Tryz.underlying34 hi0 hz0 hz1 hz2 rfl (by decide) v _ _ rfl (HO.out.alloc _) ⟨wr.heap.size, 0, none⟩ 1 1 [.slice (some ⟨Z.heap.size, 0, none⟩) W W] rfl rfl (one_news wr _ _ _ rfl) (slice_oneCell _ _ _) M1.out M2.out M3.out ?_; refine Stop.of ?_))
            refine Stop.go ?_
            intro v5 w9 own5 g5 _ hat5
            obtain ⟨a5, c5, rfl⟩ := ownsRow_slice own5
            have hb9 : Boxed w9 (w1.heap.size + 1) 34 v := (HBO.out.alloc _).kept g5 (fun e => (HG.out _ e.symm).2.1 rfl)
            have hc9 := hb9.cell
            have hf9 := hb9.frozen
            have hl9 := hb9.lt
            have hrl : (spreadI W f).length = W := by unfold spreadI; exact spreadTo1_len W f _
            have hpush := WholeI.push (r := spreadI W f) (cap := W) HIC.out HBO.out HBW.out HO.out HG.out HE.out (by rw [← HSP.out]; exact HHR.out) (by rw [hrl]; exact Nat.le_trans hc10 (by decide)) g5 (by rw [hrl]; exact own5) (by rw [World.size_alloc]; exact hat5) HSR.out (by have := HS3.out; omega) (by rw [HFP.out]; exact fun k h => h) (by omega)
            have HPU := hid hpush
            clear hb9 hrl hpush own5 g5 hat5
            gi_wp2
            obtain ⟨r1, r2, r3⟩ := HPU.out
            refine ⟨r1, r2, ?_⟩
            show WholeI w w3 (w1.heap.size + 1) fp Sr ((pre ++ [f]).filterMap (wholeOne W)) _
            rw [List.filterMap_append, List.filterMap_cons_some HYES.out, List.filterMap_nil, ← HC.out]
            exact r3
    case hdone =>
      intro Sr Z hZ hSr hI hmk
      obtain ⟨v, hvb, hro⟩ := hI.o
      have hcv := hvb.cell
      have HI := hid hI
      have HRO := hid hro
      have HMR := hid hmk
      clear hI hvb hro hmk hSr
      gi_wp2
      refine marks_leave [w3.heap.size] Z (by simp) (fun h hh => by rw [List.mem_singleton.1 hh]; exact HMR.out) fun w' hk => ?_
      refine ⟨_, results_tmp2 rfl _ _ _, HPOST.out _ _ (hk.below HI.out.b HI.out.b.size (fun k hk hh => by rw [List.mem_singleton.1 hh] at hk; have := HBW3.out.size; omega)) ⟨v, rfl, w3.heap.size + 2, by have := HBW3.out.size; omega, ?_⟩⟩
      have h1 := RowsN.keep (W' := w') (S' := fun _ => True) HRO.out hk (fun q hq _ => ⟨fun hh => hq.2.2.1 (List.mem_singleton.1 hh), trivial⟩)
      rw [HWM.out] at h1
      exact h1
    case hstop =>
      intro Sr c pre Z hpre hSr hI hmk
      exact hI.elim
  · have hne : (countE M y k != 0) = true := by simp [h0]
    have HPOST := hid (show ∀ w', Below w.heap.size w w' → WholePost w M y k (.returned (.tuple #[.slice none 0 0, .int .i64 (countE M y k)])) w' from fun w' hb => ⟨hb, .inl ⟨h0, rfl⟩⟩)
    obtain ⟨E, hE⟩ : ∃ E, E = countE M y k := ⟨_, rfl⟩
    rw [← hE] at HC HPOST hne
    clear hn hn2 H H2 h0 hE
    refine callsIn_wide (n := 0) |>.1 ?_
    refine callsIn_of_wp_marks Tryz.func156 rfl trivial ?_ rfl
    simp only [Tryz.ntmps156, List.size_toArray, List.length_cons, List.length_nil, Nat.reduceAdd, Nat.reduceSub, Array.replicate_succ, Array.replicate_zero, List.push_toArray, List.append_toArray, List.nil_append, List.cons_append]
    gi_wp2_with (refine ⟨trivial, rfl, ?_⟩; gi_at_call 163; refine (callsIn_wide.2 (HC.out _ ((Below.refl _ w).alloc (Nat.le_refl _) _))).mono ?_; rintro e w1 ⟨rfl, hb1⟩; refine Stop.of ?_)
    refine Stop.go ?_
    gi_wp2
    refine ⟨_, results_tmp2 rfl _ _ _, ?_⟩
    exact HPOST.out _ (chain ((Below.refl _ w).alloc (Nat.le_refl _) _) hb1)
end Go.Proofs.YtddcamcdjkiadaaGreatDoor

namespace Go.Proofs.YtddcamcdjkiadaaGreatDoor
open Go.RowKit
set_option linter.unusedVariables false

theorem info_int : (Tryz.prog.info? 3).map (fun i => (i.zero, i.size, i.bytes)) = some (some (.int .i64 0), 1, 8) := by kernel_rfl
theorem listed1 (w : World) (b : Nat) (hb : b < w.heap.size) (hc : w.cell? ⟨b, 0, none⟩ = some (.int .i64 1000000)) : PredI Tryz.prog 162 #[.pointer (some ⟨b, 0, none⟩)] w (fun n => inB n (-1000000) 1000000) := by
  intro x W hbw
  have hc' : W.cell? ⟨b, 0, none⟩ = some (.int .i64 1000000) := (hbw.cell (p := ⟨b, 0, none⟩) hb).trans hc
  go_enter Tryz.func162, Tryz.ntmps162
  go_wp2_with (go_at_call 67; refine (mwithin_c _ _ _ _).mono ?_; rintro e w1 ⟨rfl, rfl⟩)
  go_ret
  exact ⟨rfl, Below.refl _ _⟩

def shownE (M : Mask) (x : List Int) : Int := if okM M = true then (if x.length = colsM M then (if x.all (fun n => inB n (-1000000) 1000000) = true then 0 else 7) else 9) else 1
def okShown (M : Mask) (x : List Int) : Bool := okM M && decide (x.length = colsM M) && x.all (fun n => inB n (-1000000) 1000000)
theorem okShown_iff (M : Mask) (x : List Int) : (shownE M x == 0) = okShown M x := by
  unfold shownE okShown
  cases okM M <;> simp
  by_cases h : x.length = colsM M <;> simp [h]
  split
  · rename_i h2; simp; exact h2
  · rename_i h2; simp; simpa using h2

theorem listed_c (w : World) (a : Option Addr) (n cap : Nat) (M : Mask) (hn : M.length = n) (hm : n ≤ maxLen) (H : RowsAt w a M) (a2 : Option Addr) (n2 cap2 : Nat) (x : List Int) (hn2 : x.length = n2) (hm2 : n2 ≤ maxLen) (H2 : IntsAt w a2 x)
    (g : Nat) (lb : Array Value) (eg : ∀ args w, (callFunc g args).run Tryz.prog w = .ok (.enter g args) w) (hg : okM M = true → ∀ W, Below w.heap.size w W → Calls Tryz.prog g lb W fun e W' => e = .returned (.int .i64 (colsM M)) ∧ W = W') :
    Calls Tryz.prog 154 #[.slice a n cap, .slice a2 n2 cap2, .func (.func g) #[] lb, .int .i64 1000000] w fun e w' => e = .returned (.int .i64 (shownE M x)) ∧ Below w.heap.size w w' := by
  have hb0 : Below w.heap.size w (w.alloc (.cells #[.int .i64 1000000] 3)) := (Below.refl _ _).alloc (Nat.le_refl _) _
  have hmf : ∀ (fn : Fn) (first cap : Array Value) (w : World), (Instr.makeFunc fn first cap).run Tryz.prog w = .ok (.func fn first cap) w := fun _ _ _ _ => rfl
  have HV := hid (maskValid_c (w.alloc (.cells #[.int .i64 1000000] 3)) a n cap M hn hm (H.below hb0))
  have HA := hid (fun (W : World) (hb : Below w.heap.size w W) (hs : w.heap.size < W.heap.size) (hc : W.cell? ⟨w.heap.size, 0, none⟩ = some (.int .i64 1000000)) => allI_c W a2 n2 cap2 x hn2 hm2 (H2.below hb) 162 #[.pointer (some ⟨w.heap.size, 0, none⟩)] _ (enters_of Tryz.func162 (by kernel_rfl) rfl) (listed1 W w.heap.size hs hc))
  have hcell : ∀ W, Below (w.alloc (.cells #[.int .i64 1000000] 3)).heap.size (w.alloc (.cells #[.int .i64 1000000] 3)) W → w.heap.size < W.heap.size ∧ W.cell? ⟨w.heap.size, 0, none⟩ = some (.int .i64 1000000) := fun W hb => by
    have h1 := hb.size
    simp at h1
    refine ⟨by omega, (hb.cell (p := ⟨w.heap.size, 0, none⟩) (by simp)).trans ?_⟩
    rw [World.cell?_alloc_at _ _ _ _ rfl]; rfl
  have HC := hid hcell
  have HN2 := hid hn2
  have HG := hid hg
  have HB := hid hb0
  clear hn H H2 hcell hg hn2 hb0
  cases hv : okM M
  · rw [hv] at HV
    have HE := hid hv
    clear hv
    go_enter Tryz.func154, Tryz.ntmps154
    go_wp2_with (go_at_call 39; refine HV.out.mono ?_; rintro e w1 ⟨rfl, hb1⟩)
    go_ret
    exact ⟨ret_int (by unfold shownE; rw [HE.out]; simp), chain HB.out hb1⟩
  · rw [hv] at HV
    have HE := hid hv
    have HG2 := hid (HG.out hv)
    clear hv HG
    by_cases h : n2 = colsM M
    · have hd : ((n2 : Int) != (colsM M : Int)) = false := by simp [h]
      have HQ := hid h
      clear h
      cases hx : x.all (fun n => inB n (-1000000) 1000000)
      all_goals
        rw [hx] at HA
        have HX := hid hx
        clear hx
        go_enter Tryz.func154, Tryz.ntmps154
        go_wp2_with (first | (go_at_call 39; refine HV.out.mono ?_; rintro e w1 ⟨rfl, hb1⟩) | (go_at_call 109; refine (HA.out _ (chain HB.out hb1) (HC.out _ hb1).1 (HC.out _ hb1).2).mono ?_; rintro e w2 ⟨rfl, hb2⟩) | (refine (HG2.out _ (chain HB.out hb1)).mono ?_; rintro e w3 ⟨rfl, rfl⟩))
        go_ret
        exact ⟨ret_int (by unfold shownE; rw [HE.out, if_pos rfl, if_pos (HN2.out.trans HQ.out), HX.out]; simp), chain (chain HB.out hb1) hb2⟩
    · have hd : ((n2 : Int) != (colsM M : Int)) = true := by simp; omega
      have HQ := hid h
      clear h
      go_enter Tryz.func154, Tryz.ntmps154
      go_wp2_with (first | (go_at_call 39; refine HV.out.mono ?_; rintro e w1 ⟨rfl, hb1⟩) | (refine (HG2.out _ (chain HB.out hb1)).mono ?_; rintro e w3 ⟨rfl, rfl⟩))
      go_ret
      exact ⟨ret_int (by unfold shownE; rw [HE.out, if_pos rfl, if_neg (by rw [HN2.out]; exact HQ.out)]), chain HB.out hb1⟩

theorem okM_len {M : Mask} (h : okM M = true) : 1 ≤ M.length ∧ M.length ≤ 6 ∧ 1 ≤ colsM M ∧ colsM M ≤ 10 ∧ ∀ l ∈ M, l.length = colsM M ∧ ∀ n ∈ l, -1 ≤ n ∧ n ≤ 1 := by
  unfold okM at h
  simp only [Bool.and_eq_true, List.all_eq_true, decide_eq_true_eq] at h
  obtain ⟨h1, h2⟩ := h
  simp [inB] at h1
  have hr : ∀ l ∈ M, l.length = colsM M ∧ (1 ≤ l.length ∧ l.length ≤ 10) ∧ ∀ n ∈ l, -1 ≤ n ∧ n ≤ 1 := by
    intro l hl
    obtain ⟨e, hrow⟩ := h2 l hl
    unfold okMRow at hrow
    simp only [Bool.and_eq_true, List.all_eq_true] at hrow
    refine ⟨e, ?_, fun n hn => ?_⟩
    · have := hrow.1; simp [inB] at this; omega
    · have := hrow.2 n hn; simpa [inB] using this
  have h0 : 0 < M.length := by omega
  have hc := hr M[0] (List.getElem_mem h0)
  refine ⟨by omega, by omega, by omega, by omega, fun l hl => ⟨(hr l hl).1, (hr l hl).2.2⟩⟩

theorem shown1 (w : World) (b : Nat) (a : Option Addr) (n cap : Nat) (M : Mask) (hn : M.length = n) (hm : n ≤ maxLen) (H : RowsAt w a M) (hb : b < w.heap.size) (hc : w.cell? ⟨b, 0, none⟩ = some (.slice a n cap)) (h0 : 0 < n) (W : World) (hbw : Below w.heap.size w W) :
    Calls Tryz.prog 155 #[.pointer (some ⟨b, 0, none⟩)] W fun e W' => e = .returned (.int .i64 (colsM M)) ∧ W = W' := by
  have hc' : W.cell? ⟨b, 0, none⟩ = some (.slice a n cap) := (hbw.cell (p := ⟨b, 0, none⟩) hb).trans hc
  obtain ⟨b', off, qa, qn, qc, rfl, hbs, hq0, hqn, hqm, hqi⟩ := (H.below hbw) 0 (by omega)
  have HCols : colsM M = qn := by unfold colsM; rw [List.getElem?_eq_getElem (by omega), ← hqn]; rfl
  have HCO := hid HCols
  unfold maxLen at hm
  simp only [Nat.add_zero] at hq0
  clear HCols hqn hqi H hc
  go_enter Tryz.func155, Tryz.ntmps155
  go_wp2
  go_ret
  exact ⟨ret_int (by rw [HCO.out]), rfl⟩

theorem mshown_c (w : World) (a : Option Addr) (n cap : Nat) (M : Mask) (hn : M.length = n) (hm : n ≤ maxLen) (H : RowsAt w a M) (a2 : Option Addr) (n2 cap2 : Nat) (x : List Int) (hn2 : x.length = n2) (hm2 : n2 ≤ maxLen) (H2 : IntsAt w a2 x) :
    Calls Tryz.prog 135 #[.slice a n cap, .slice a2 n2 cap2] w fun e w' => e = .returned (.int .i64 (shownE M x)) ∧ Below w.heap.size w w' := by
  have hb0 : Below w.heap.size w (w.alloc (.cells #[.slice a n cap] 35)) := (Below.refl _ _).alloc (Nat.le_refl _) _
  have hmf : ∀ (fn : Fn) (first cap : Array Value) (w : World), (Instr.makeFunc fn first cap).run Tryz.prog w = .ok (.func fn first cap) w := fun _ _ _ _ => rfl
  have HL := hid (listed_c (w.alloc (.cells #[.slice a n cap] 35)) a n cap M hn hm (H.below hb0) a2 n2 cap2 x hn2 hm2 (H2.below hb0) 155 #[.pointer (some ⟨w.heap.size, 0, none⟩)] (enters_of Tryz.func155 (by kernel_rfl) rfl)
    (fun hk W hb => by
      have := okM_len hk
      exact shown1 _ w.heap.size a n cap M hn hm (H.below hb0) (by simp) (by rw [World.cell?_alloc_at _ _ _ _ rfl]; rfl) (by omega) W hb))
  clear hn H hn2 H2
  go_enter Tryz.func135, Tryz.ntmps135
  go_wp2_with (go_at_call 154; refine HL.out.mono ?_; rintro e w1 ⟨rfl, hb1⟩)
  go_ret
  exact ⟨rfl, chain hb0 hb1⟩

def dotTo (row x : List Int) : Nat → Int
  | 0 => 0
  | k + 1 => wrap64 (dotTo row x k + wrap64 (row[k]?.getD 0 * x[k]?.getD 0))
def dotW (row x : List Int) : Int := dotTo row x row.length

theorem times_c (w : World) (a a2 : Option Addr) (n cap n2 cap2 : Nat) (row x : List Int) (hn : row.length = n) (hn2 : x.length = n2) (hle : n ≤ n2) (hm : n ≤ maxLen) (H : IntsAt w a row) (H2 : IntsAt w a2 x) :
    Calls Tryz.prog 136 #[.slice a n cap, .slice a2 n2 cap2] w fun e w' => e = .returned (.int .i64 (dotW row x)) ∧ w = w' := by
  have HN := hid hn
  have HN2 := hid hn2
  have HH := hid H
  have HH2 := hid H2
  clear hn hn2 H H2
  unfold maxLen at hm
  go_enter Tryz.func136, Tryz.ntmps136
  go_wp2
  go_loop [5, 10] (fun s i => ∃ k : Nat, k ≤ n ∧ i = .int .i64 k ∧ s = .int .i64 (dotTo row x k)) (fun _ i => n - (intOf i).toNat)
  case atStart => exact ⟨0, Nat.zero_le _, rfl, rfl⟩
  case round =>
    obtain ⟨k, hk, rfl, rfl⟩ := hrel
    by_cases hlt : k < n
    · obtain ⟨b, off, rfl, _, h1⟩ := HH.out k (by rw [HN.out]; exact hlt)
      obtain ⟨b2, off2, rfl, _, h2⟩ := HH2.out k (by rw [HN2.out]; omega)
      have h3 : k < n2 := by omega
      go_wp2
      go_round
      case rel => exact ⟨k + 1, by omega, by go_num, rfl⟩
      case measure => simp [intOf]; omega
    · have : k = n := by omega
      subst this
      go_wp2
      go_ret
      refine ⟨ret_int ?_, rfl⟩
      unfold dotW; rw [HN.out]

def readM (M : Mask) (x : List Int) : List Int := M.map (fun r => dotW r x)

theorem readM_take (M : Mask) (x : List Int) (k : Nat) (hk : k < M.length) : (readM (M.take (k + 1)) x) = readM (M.take k) x ++ [dotW M[k] x] := by
  unfold readM
  rw [List.take_succ_eq_append_getElem hk, List.map_append]; rfl

theorem one_int (x : Int) : ∀ u ∈ [Value.int .i64 x], u.oneCell' = true := by intro u hu; simp at hu; subst hu; rfl

set_option maxHeartbeats 2000000 in
theorem maskRead_c (w : World) (a : Option Addr) (n cap : Nat) (M : Mask) (hn : M.length = n) (hm : n ≤ maxLen) (H : RowsAt w a M) (a2 : Option Addr) (n2 cap2 : Nat) (x : List Int) (hn2 : x.length = n2) (hm2 : n2 ≤ maxLen) (H2 : IntsAt w a2 x) (hE : shownE M x = 0) :
    Calls Tryz.prog 104 #[.slice a n cap, .slice a2 n2 cap2] w fun e w' => ∃ v base, e = .returned (.tuple #[v, .int .i64 0]) ∧ w.heap.size ≤ base ∧ w'.ownsRow base 3 1 v n ((readM M x).map (Value.int .i64)) ∧ Below w.heap.size w w' := by
  have HS := hid (mshown_c w a n cap M hn hm H a2 n2 cap2 x hn2 hm2 H2)
  rw [hE] at HS
  have hok : okShown M x = true := by rw [← okShown_iff, hE]; rfl
  unfold okShown at hok
  simp only [Bool.and_eq_true, decide_eq_true_eq] at hok
  obtain ⟨⟨hM, hc⟩, _⟩ := hok
  obtain ⟨m1, m6, c1, c10, hrows⟩ := okM_len hM
  have hn6 : n ≤ 6 := by omega
  have HT := hid (fun (W : World) (hb : Below w.heap.size w W) (ra : Option Addr) (rn rc : Nat) (r : List Int) (hr : r ∈ M) (hrn : r.length = rn) (hri : IntsAt W ra r) => times_c W ra a2 rn rc n2 cap2 r x hrn hn2 (by have := (hrows r hr).1; omega) (by have := (hrows r hr).1; unfold maxLen; omega) hri (H2.below hb))
  have HN := hid hn
  have HH := hid H
  clear hn H hn2 H2 hrows hE hM hc m1 m6 c1 c10
  go_enter Tryz.func104, Tryz.ntmps104
  go_wp2_with (go_at_call 135; refine HS.out.mono ?_; rintro e w1 ⟨rfl, hb1⟩)
  go_loopw [7, 18] (fun v i wr => ∃ k : Nat, k ≤ n ∧ i = .int .i64 k ∧ wr.ownsRow w1.heap.size 3 1 v k ((readM (M.take k) x).map (Value.int .i64)) ∧ Below w1.heap.size w1 wr) (fun _ i _ => n - (intOf i).toNat)
  case atStart => exact ⟨0, Nat.zero_le _, rfl, World.ownsRow_nil _ _ _ _, Below.refl _ _⟩
  case round =>
    obtain ⟨k, hk, rfl, hown, hbk⟩ := hrel
    by_cases hlt : k < n
    · have hkM : k < M.length := by rw [HN.out]; exact hlt
      have hbw := chain hb1 hbk
      obtain ⟨b, off, ra, rn, rc, rfl, hbs, hq0, hrn, hrm, hri⟩ := (HH.out.below hbw) k hkM
      have HT1 := hid (HT.out wr hbw ra rn rc M[k] (List.getElem_mem hkM) hrn hri)
      obtain ⟨D, hD⟩ : ∃ D, D = dotW M[k] x := ⟨_, rfl⟩
      rw [← hD] at HT1
      have htk := readM_take M x k hkM
      rw [← hD] at htk
      have HTK := hid htk
      obtain ⟨va, vc, rfl⟩ := ownsRow_slice hown
      have HO := hid hown
      have M1 := hid (show k + 1 ≤ maxLen by unfold maxLen; omega)
      have M2 := hid (show (k + 1) * 8 ≤ 140737488355328 by omega)
      have M3 := hid (Nat.le_trans hbk.size (le_alloc wr (.cells #[.int .i64 D] 3)))
      clear hown htk hD hrn hri hkM
      go_wp2_with (first | (go_at_call 136; refine HT1.out.mono ?_; rintro e w2 ⟨rfl, rfl⟩) | (at_builtin; refine wpList_app _ rfl (.tmp 22) (.tmp 26) 30 rfl w1.heap.size 3 (.int .i64 0) 1 8 Tryz.underlying30 info_int rfl Nat.one_pos (.slice va k vc) k _ rfl (HO.out.alloc _) (some ⟨wr.heap.size, 0, none⟩) 1 1 [.int .i64 D] rfl rfl no_none (one_news wr _ _) (one_int _) M1.out M2.out M3.out ?_; refine Stop.of ?_))
      refine Stop.go ?_
      intro a3 c3 w3 own3 g3
      have hB3 : Below w1.heap.size w1 w3 := (hbk.alloc hbk.size _).grown g3 (Nat.le_trans hbk.size (le_alloc _ _)) (fun k hk => (HO.out.lt k hk).1)
      go_wp2
      refine ⟨⟨k + 1, by omega, by go_num, ?_, hB3⟩, by simp [intOf]; omega⟩
      rw [HTK.out]
      simpa using own3
    · obtain rfl : k = n := by omega
      go_wp2
      go_ret2
      refine ⟨_, w1.heap.size, rfl, hb1.size, ?_, chain hb1 hbk⟩
      rw [← HN.out, List.take_length] at hown
      rw [HN.out] at hown
      exact hown
end Go.Proofs.YtddcamcdjkiadaaGreatDoor

namespace Go.Proofs.YtddcamcdjkiadaaGreatDoor
open Go.RowKit
set_option linter.unusedVariables false

theorem dotTo_sm {row x : List Int} (h1 : BndL 67108864 row) (h2 : BndL 67108864 x) : ∀ k : Nat, k ≤ 1000 → dotTo row x k = sm (fun c => vec row c * vec x c) k
  | 0, _ => by simp [dotTo, sm]
  | k + 1, hk => by
    have ih := dotTo_sm h1 h2 k (by omega)
    have hb := dot_le h1 h2 (k + 1)
    have hb0 := dot_le h1 h2 k
    simp only [dotTo, sm] at hb ⊢
    rw [ih]
    have e1 : row[k]?.getD 0 = vec row k := rfl
    have e2 : x[k]?.getD 0 = vec x k := rfl
    rw [e1, e2]
    have hp : (vec row k * vec x k).natAbs ≤ 4503599627370496 + 4503599627370496 * 1001 + 4503599627370496 * 1001 := by omega
    have hw : wrap64 (vec row k * vec x k) = vec row k * vec x k := by unfold wrap64; omega
    rw [hw]
    unfold wrap64; omega
theorem dotW_dotV {row x : List Int} (h1 : BndL 67108864 row) (h2 : BndL 67108864 x) (hl : row.length ≤ 1000) : dotW row x = dotV row x := dotTo_sm h1 h2 _ hl
end Go.Proofs.YtddcamcdjkiadaaGreatDoor

namespace Go.Proofs.YtddcamcdjkiadaaGreatDoor
open Go.RowKit
set_option linter.unusedVariables false

def picB (M : Mask) (x : List Int) : Bool := decide (x.length = colsM M) && x.all (fun n => inB n (-1000) 1000)
def picsB (M : Mask) (p : List (List Int)) : Bool := okM M && inB p.length 1 60 && p.all (picB M)

theorem swithin_c (n lo hi : Int) (w : World) : Calls Tryz.prog 45 #[.int .i64 n, .int .i64 lo, .int .i64 hi] w fun e w' => e = .returned (.bool (inB n lo hi)) ∧ w = w' := by
  go_enter Tryz.func45, Tryz.ntmps45
  go_wp2
  all_goals
    go_ret
    refine ⟨ret_bool ?_, rfl⟩
    unfold inB
    rw [Bool.eq_iff_iff]
    simp
    try omega

theorem pic1 (w : World) : PredI Tryz.prog 113 #[] w (fun n => !inB n (-1000) 1000) := by
  intro x W hb
  obtain ⟨b, hbb⟩ : ∃ b, b = inB x (-1000) 1000 := ⟨_, rfl⟩
  have HW := hid (fun X => swithin_c x (-1000) 1000 X)
  show Calls _ _ #[.int .i64 x] W fun e W' => e = .returned (.bool (!inB x (-1000) 1000)) ∧ Below W.heap.size W W'
  rw [← hbb] at HW ⊢
  clear hbb
  go_enter Tryz.func113, Tryz.ntmps113
  go_wp2_with (go_at_call 45; refine (HW.out _).mono ?_; rintro e w1 ⟨rfl, rfl⟩)
  go_ret
  exact ⟨rfl, Below.refl _ _⟩

theorem picture_c (w : World) (a : Option Addr) (n cap : Nat) (M : Mask) (hn : M.length = n) (h1 : 1 ≤ n) (H : RowsAt w a M) (a2 : Option Addr) (n2 cap2 : Nat) (x : List Int) (hn2 : x.length = n2) (hm2 : n2 ≤ maxLen) (H2 : IntsAt w a2 x) :
    Calls Tryz.prog 82 #[.slice a n cap, .slice a2 n2 cap2] w fun e w' => e = .returned (.bool (picB M x)) ∧ Below w.heap.size w w' := by
  obtain ⟨b, off, ra, rc, rfl, hb, hc⟩ := rows_head H (by omega)
  have HC := hid (containsI w a2 n2 cap2 x hn2 hm2 H2 113 #[] _ (enters_of Tryz.func113 (by kernel_rfl) rfl) (pic1 w))
  have i0 : (0 : Int) < (n : Int) := by omega
  obtain ⟨W, hW⟩ : ∃ W, W = colsM M := ⟨_, rfl⟩
  have hp : picB M x = (decide (n2 = W) && !(x.any (fun n => !inB n (-1000) 1000))) := by
    unfold picB
    rw [hW, hn2, List.all_eq_not_any_not]
  rw [hp]
  rw [← hW] at hc
  obtain ⟨A, hA⟩ : ∃ A, A = x.any (fun n => !inB n (-1000) 1000) := ⟨_, rfl⟩
  rw [← hA] at HC ⊢
  clear hp hA hn hn2 H H2 hW
  by_cases h : n2 = W
  · subst h
    have hd : (((n2 : Nat) : Int) == (n2 : Int)) = true := by simp
    go_enter Tryz.func82, Tryz.ntmps82
    go_wp2_with (go_at_call 79; refine HC.out.mono ?_; rintro e w1 ⟨rfl, hb1⟩)
    go_ret
    exact ⟨by simp, hb1⟩
  · have hd : (((n2 : Nat) : Int) == (W : Int)) = false := by simp; omega
    rw [decide_eq_false h, Bool.false_and]
    clear h
    go_enter Tryz.func82, Tryz.ntmps82
    go_wp2_with fail
    go_ret
    exact ⟨rfl, Below.refl _ _⟩

theorem vpics1 (w : World) (b : Nat) (a : Option Addr) (n cap : Nat) (M : Mask) (hn : M.length = n) (h1 : 1 ≤ n) (H : RowsAt w a M) (hb : b < w.heap.size) (hc : w.cell? ⟨b, 0, none⟩ = some (.slice a n cap)) :
    PredR Tryz.prog 102 #[.pointer (some ⟨b, 0, none⟩)] w (fun x => !picB M x) := by
  intro x v W hbw hv
  have hc' : W.cell? ⟨b, 0, none⟩ = some (.slice a n cap) := (hbw.cell (p := ⟨b, 0, none⟩) hb).trans hc
  obtain ⟨ra, rn, rc, rfl, hrn, hrm, hri⟩ := hv
  have HP := hid (picture_c W a n cap M hn h1 (H.below hbw) ra rn rc x hrn hrm hri)
  show Calls _ _ #[.slice ra rn rc, .pointer (some ⟨b, 0, none⟩)] W fun e W' => e = .returned (.bool (!picB M x)) ∧ Below W.heap.size W W'
  obtain ⟨A, hA⟩ : ∃ A, A = picB M x := ⟨_, rfl⟩
  rw [← hA] at HP ⊢
  clear hA hn H hrn hri hc hbw
  go_enter Tryz.func102, Tryz.ntmps102
  go_wp2_with (go_at_call 82; refine HP.out.mono ?_; rintro e w1 ⟨rfl, hb1⟩)
  go_ret
  exact ⟨rfl, hb1⟩

theorem validPics_c (w : World) (a : Option Addr) (n cap : Nat) (M : Mask) (hn : M.length = n) (hm : n ≤ maxLen) (H : RowsAt w a M) (a2 : Option Addr) (n2 cap2 : Nat) (p : List (List Int)) (hn2 : p.length = n2) (hm2 : n2 ≤ maxLen) (H2 : RowsAt w a2 p) :
    Calls Tryz.prog 64 #[.slice a n cap, .slice a2 n2 cap2] w fun e w' => e = .returned (.bool (picsB M p)) ∧ Below w.heap.size w w' := by
  have hb0 : Below w.heap.size w (w.alloc (.cells #[.slice a n cap] 35)) := (Below.refl _ _).alloc (Nat.le_refl _) _
  have hmf : ∀ (fn : Fn) (first cap : Array Value) (w : World), (Instr.makeFunc fn first cap).run Tryz.prog w = .ok (.func fn first cap) w := fun _ _ _ _ => rfl
  have HV := hid (maskValid_c (w.alloc (.cells #[.slice a n cap] 35)) a n cap M hn hm (H.below hb0))
  have HB0 := hid hb0
  have HW := hid (fun X => swithin_c n2 1 60 X)
  cases hM : okM M
  · have hp : picsB M p = false := by unfold picsB; rw [hM]; rfl
    rw [hM] at HV
    rw [hp]
    clear hn hn2 H H2 hM hp
    go_enter Tryz.func64, Tryz.ntmps64
    go_wp2_with (go_at_call 39; refine HV.out.mono ?_; rintro e w1 ⟨rfl, hb1⟩)
    go_ret
    exact ⟨rfl, chain HB0.out hb1⟩
  · cases hL : inB n2 1 60
    · have hp : picsB M p = false := by unfold picsB; rw [hM, hn2, hL]; rfl
      rw [hM] at HV
      rw [hL] at HW
      rw [hp]
      clear hn hn2 H H2 hM hp hL
      go_enter Tryz.func64, Tryz.ntmps64
      go_wp2_with first
        | (go_at_call 39; refine HV.out.mono ?_; rintro e w1 ⟨rfl, hb1⟩)
        | (go_at_call 45; refine (HW.out _).mono ?_; rintro e w2 ⟨rfl, rfl⟩)
      go_ret
      exact ⟨rfl, chain HB0.out hb1⟩
    · have hp : picsB M p = !(p.any (fun x => !picB M x)) := by unfold picsB; rw [hM, hn2, hL, List.all_eq_not_any_not]; rfl
      have h1 : 1 ≤ n := by rw [← hn]; exact (okM_ok hM).2.1
      have HC := hid (fun (X : World) (hX : Below w.heap.size w X) (hs : w.heap.size < X.heap.size) (hc : X.cell? ⟨w.heap.size, 0, none⟩ = some (.slice a n cap)) =>
        containsR X a2 n2 cap2 p hn2 hm2 (H2.below hX) 102 #[.pointer (some ⟨w.heap.size, 0, none⟩)] _ (enters_of Tryz.func102 (by kernel_rfl) rfl) (vpics1 X w.heap.size a n cap M hn h1 (H.below hX) hs hc))
      rw [hM] at HV
      rw [hL] at HW
      rw [hp]
      obtain ⟨A, hA⟩ : ∃ A, A = p.any (fun x => !picB M x) := ⟨_, rfl⟩
      rw [← hA] at HC ⊢
      clear hn hn2 H H2 hM hp hL hA
      go_enter Tryz.func64, Tryz.ntmps64
      go_wp2_with first
        | (go_at_call 39; refine HV.out.mono ?_; rintro e w1 ⟨rfl, hb1⟩)
        | (go_at_call 45; refine (HW.out _).mono ?_; rintro e w2 ⟨rfl, rfl⟩)
        | (go_at_call 101; refine (HC.out _ (chain HB0.out hb1) (Nat.lt_of_lt_of_le (by simp) hb1.size) ((hb1.cell (p := ⟨w.heap.size, 0, none⟩) (by simp)).trans (by rw [World.cell?_alloc_at _ _ _ _ rfl]; rfl))).mono ?_; rintro e w3 ⟨rfl, hb3⟩)
      go_ret
      exact ⟨rfl, chain (chain HB0.out hb1) hb3⟩
end Go.Proofs.YtddcamcdjkiadaaGreatDoor

namespace Go.Proofs.YtddcamcdjkiadaaGreatDoor
open Go.RowKit
set_option linter.unusedVariables false

theorem r8in_c (n lo hi : Int) (w : World) : Calls Tryz.prog 75 #[.int .i64 n, .int .i64 lo, .int .i64 hi] w fun e w' => e = .returned (.bool (inB n lo hi)) ∧ w = w' := by
  go_enter Tryz.func75, Tryz.ntmps75
  go_wp2
  all_goals
    go_ret
    refine ⟨ret_bool ?_, rfl⟩
    unfold inB
    rw [Bool.eq_iff_iff]
    simp
    try omega

def listB (l : List Int) (len most : Int) : Bool := decide ((l.length : Int) = len) && l.all (fun n => inB n (-most) most)

theorem r8list_c (w : World) (a : Option Addr) (n cap : Nat) (l : List Int) (hn : l.length = n) (hm : n ≤ maxLen) (H : IntsAt w a l) (len most : Int) (h0 : 0 ≤ most) (h9 : most ≤ 1000000000) :
    Calls Tryz.prog 111 #[.slice a n cap, .int .i64 len, .int .i64 most] w fun e w' => e = .returned (.bool (listB l len most)) ∧ w = w' := by
  have HN := hid hn
  have HH := hid H
  have hd : ((n : Int) == len) = decide ((n : Int) = len) := by rw [Bool.eq_iff_iff]; simp
  obtain ⟨D, hD⟩ : ∃ D, D = decide ((n : Int) = len) := ⟨_, rfl⟩
  rw [← hD] at hd
  have HD := hid hD
  clear hn H hD
  unfold maxLen at hm
  go_enter Tryz.func111, Tryz.ntmps111
  go_wp2
  go_loop [11] (fun i => ∃ k : Nat, k ≤ n ∧ i = .int .i64 k ∧ ∀ j (hj : j < l.length), j < k → inB l[j] (-most) most = true) (fun i => n - (intOf i).toNat)
  case atStart => exact ⟨0, Nat.zero_le _, rfl, fun i _ h => by omega⟩
  case round =>
    obtain ⟨k, hk, rfl, hno⟩ := hrel
    have HNO := hid hno
    clear hno
    by_cases hlt : k < n
    · have hkl : k < l.length := by rw [HN.out]; exact hlt
      obtain ⟨b, off, rfl, hbs, hc⟩ := HH.out k hkl
      have hg : l[k]?.getD 0 = l[k] := by rw [List.getElem?_eq_getElem hkl]; rfl
      rw [hg] at hc
      obtain ⟨B, hB⟩ : ∃ B, B = inB l[k] (-most) most := ⟨_, rfl⟩
      have HW := hid (fun W => r8in_c l[k] (-most) most W)
      rw [← hB] at HW
      have HBB := hid hB
      have HKL := hid hkl
      clear hg hB
      cases B
      · go_wp2_with (go_at_call 75; refine (HW.out _).mono ?_; rintro e w1 ⟨rfl, rfl⟩)
        go_ret
        refine ⟨ret_bool ?_, rfl⟩
        unfold listB
        rw [all_stop HKL.out HBB.out.symm]; simp
      · go_wp2_with (go_at_call 75; refine (HW.out _).mono ?_; rintro e w1 ⟨rfl, rfl⟩)
        go_round
        case rel =>
          refine ⟨k + 1, by omega, by go_num, fun j hj hjk => ?_⟩
          by_cases e : j = k
          · subst e; exact HBB.out.symm
          · exact HNO.out j hj (by omega)
        case measure => simp [intOf]; omega
    · go_wp2
      go_ret
      refine ⟨ret_bool ?_, rfl⟩
      unfold listB
      rw [HN.out, all_done (fun j hj => HNO.out j hj (by have := HN.out; omega)), ← HD.out]; simp

theorem listB_pic {M : Mask} {x : List Int} : listB x (colsM M) 1000 = picB M x := by
  unfold listB picB
  congr 1
  rw [Bool.eq_iff_iff]; simp; omega

theorem allP_stop {α : Type} {p : α → Bool} {l : List α} {k : Nat} (hk : k < l.length) (h : p l[k] = false) : l.all p = false := by
  rw [List.all_eq_false]; exact ⟨l[k], List.getElem_mem hk, by rw [h]; simp⟩
theorem allP_done {α : Type} {p : α → Bool} {l : List α} (h : ∀ j (hj : j < l.length), p l[j] = true) : l.all p = true := by
  rw [List.all_eq_true]; intro x hx
  obtain ⟨j, hj, rfl⟩ := List.getElem_of_mem hx
  exact h j hj

end Go.Proofs.YtddcamcdjkiadaaGreatDoor
