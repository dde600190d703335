/- Walks and plain laws for DualFindsRow, part 7. -/
import Derived.Maps.OwnIn
import Derived.Test.YtlffndehhhpgjaaGreatPkDualFindsRow6
namespace Go.Proofs.YtlffndehhhpgjaaGreat
set_option linter.unusedVariables false
set_option linter.unusedSimpArgs false
set_option maxRecDepth 100000
set_option maxHeartbeats 4000000
section
open Go.RowKit
attribute [local go_sem] Oper.semAt_some
theorem wide_regionK {P : Program} {ops : Array Oper} (T : Nat -> World -> Prop) (n : Nat) {id : Nat} {a : Act} {w : World} {K : Act -> World -> Prop} {Q : Exit -> Act -> World -> Prop} (hm : P.follows .mixedOrders = true)
 (h : AnyT P .any ops (Exit.then K (fun _ _ _ => False)) T ops.size (Array.replicate ops.size false) a w.drew) : (Code.region id ops true).wpIn Fence.wide n P (Exit.then K Q) a w :=
 wpIn_mono (wide_region T n hm (fun ⟨_, _, h⟩ => h) h) (by intro e a w h; cases e <;> first | exact h | exact h.elim)
theorem run_min3 {P : Program} (u : Array TypeId) (t : TypeId) (x y z : Int) (w : World) : (Builtin.min_ u t #[.int .i64 x, .int .i64 y, .int .i64 z]).run P w = .ok (.int .i64 (min (min x y) z)) w := by
 have h1 : Builtin.min_ u t #[.int .i64 x, .int .i64 y, .int .i64 z] = pure (.int .i64 (min (min x y) z)) := by
  unfold Builtin.min_
  simp only [List.foldlM, Builtin.min2, pure_bind]
  congr 2
  by_cases h : y < x
  ·rw [if_pos h]; split <;> omega
  ·rw [if_neg h]; split <;> omega
 rw [h1]; rfl
structure FitsI (w0 : World) (fp : Nat -> Prop) (l : Nat) (J : (Nat -> Prop) -> List FitT -> World -> Prop) (lo : Nat) (pre : List FitT) (S : Nat -> Prop) (hs : List Nat) (X : World) : Prop where
 j : J S pre X
 s : ∀ k, S k -> lo <= k
 y : S lo
 c : X.cell? ⟨lo, 0, none⟩ = some (.func (.yield l) #[] #[])
 f : ∀ k, fp k -> k < lo ∧ X.heap[k]? = w0.heap[k]?
 z : lo < X.heap.size
 m : ∀ h ∈ hs, S h ∧ X.heap[h]? = some (.deferred (some []))
theorem FitsI.keep {w0 : World} {fp : Nat -> Prop} {l lo : Nat} {J : (Nat -> Prop) -> List FitT -> World -> Prop} {pre : List FitT} {S S' : Nat -> Prop} {hs : List Nat} {A B : World}
 (hJ : ∀ S S' s A B, J S s A -> (∀ k, S k -> S' k) -> (∀ k, S' k -> S k ∨ A.heap.size <= k) -> Keep (fun k => ¬ S' k) A B -> J S' s B)
 (h : FitsI w0 fp l J lo pre S hs A) (h1 : ∀ k, S k -> S' k) (h2 : ∀ k, S' k -> S k ∨ A.heap.size <= k) {T : Nat -> Prop} (hk : Keep T A B) (hT : ∀ k, k < A.heap.size -> ¬ S' k -> T k) (hTl : T lo) (hTm : ∀ h ∈ hs, T h) :
 FitsI w0 fp l J lo pre S' hs B where
 j := hJ _ _ _ _ _ h.j h1 h2 ⟨hk.os, hk.tape, hk.output, hk.size, fun i hi hs => hk.block i hi (hT i hi hs)⟩
 s := fun k hk' => by
   rcases h2 k hk' with h3 | h3
   ·exact h.s k h3
   ·have := h.z; omega
 y := h1 _ h.y
 c := hk.cell h.c hTl
 f := fun k hk' => by
   obtain ⟨h3, h4⟩ := h.f k hk'
   refine ⟨h3, (hk.block k (Nat.lt_trans h3 h.z) ?_).trans h4⟩
   refine hT k (Nat.lt_trans h3 h.z) fun h5 => ?_
   rcases h2 k h5 with h6 | h6
   ·have := h.s k h6; omega
   ·have := h.z; omega
 z := Nat.lt_of_lt_of_le h.z hk.size
 m := fun q hq => by
   obtain ⟨h3, h4⟩ := h.m q hq
   exact ⟨h1 _ h3, (hk.block q (Array.getElem?_eq_some_iff.1 h4).1 (hTm q hq)).trans h4⟩
theorem FitsI.step {w0 : World} {fp : Nat -> Prop} {l lo : Nat} {J J' : (Nat -> Prop) -> List FitT -> World -> Prop} {pre pre' : List FitT} {S : Nat -> Prop} {hs : List Nat} {A B C : World}
 (h : FitsI w0 fp l J lo pre S hs A) (hS : ∀ k, S k -> k < A.heap.size) (hb : Below A.heap.size A B) (hz : B.heap.size <= C.heap.size) (hk : ∀ k, fp k ∨ S k -> C.heap[k]? = B.heap[k]?) (hj : J' S pre' C) : FitsI w0 fp l J' lo pre' S hs C where
 j := hj
 s := h.s
 y := h.y
 c := (World.cell?_of_block (a := ⟨lo, 0, none⟩) (hk lo (.inr h.y))).trans ((hb.cell (p := ⟨lo, 0, none⟩) h.z).trans h.c)
 f := fun k hk' => by
   obtain ⟨h3, h4⟩ := h.f k hk'
   exact ⟨h3, (hk k (.inl hk')).trans ((hb.block k (Nat.lt_trans h3 h.z)).trans h4)⟩
 z := Nat.lt_of_lt_of_le h.z (Nat.le_trans hb.size hz)
 m := fun q hq => by
   obtain ⟨h3, h4⟩ := h.m q hq
   exact ⟨h3, (hk q (.inr h3)).trans ((hb.block q (hS q h3)).trans h4)⟩
theorem zJD (M : Mask) (y : List Int) (W t : Nat) : ∀ d, zBQ M y W t <+: zBQ M y W (t + d)
 | 0 => List.prefix_refl _
 | d + 1 => by
   rw [show t + (d + 1) = (t + d) + 1 by omega, zCO]
   exact (zJD M y W t d).trans (List.prefix_append _ _)
theorem zNU {M : Mask} {y : List Int} {W t N : Nat} {pre : List (List Int)} (ht : t < N + 1) (hp : pre <+: comb W t 0) :
 zBQ M y W t ++ pre.filterMap (fitF M y) <+: zBQ M y W (N + 1) := by
 obtain ⟨r, hr⟩ := hp
 have h1 : zBQ M y W t ++ pre.filterMap (fitF M y) <+: zBQ M y W (t + 1) := by
  rw [zCO, <- hr, List.filterMap_append]
  exact ⟨r.filterMap (fitF M y), by rw [List.append_assoc]⟩
 obtain ⟨d, rfl⟩ : ∃ d, N = t + d := ⟨N - t, by omega⟩
 exact h1.trans (by rw [show t + d + 1 = t + 1 + d by omega]; exact zJD M y W (t + 1) d)
theorem fitsTo_in {M : Mask} {y : List Int} {W t N : Nat} {pre : List (List Int)} {x : List Int} {f : FitT} (ht : t < N + 1) (hp : pre ++ [x] <+: comb W t 0) (hf : fitF M y x = some f) :
 (zBQ M y W t ++ pre.filterMap (fitF M y)) ++ [f] <+: zBQ M y W (N + 1) := by
 have e : (zBQ M y W t ++ pre.filterMap (fitF M y)) ++ [f] = zBQ M y W t ++ (pre ++ [x]).filterMap (fitF M y) := by
  simp [List.filterMap_append, hf]
 rw [e]
 exact zNU ht hp
theorem FitV.own {lo lo2 : Nat} {S : Nat -> Prop} {f : FitT} {v : Value} {A B : World} (h : FitV lo (fun _ => False) f v A) (hb : Below A.heap.size A B) (hl : lo2 <= lo) (hS : ∀ q, S q -> q < lo) : FitV lo2 S f v B := by
 obtain ⟨pa, pn, pc, va, vn, vc, e, h1, h2, h3, h4, h5, h6, h7, h8⟩ := h
 refine ⟨pa, pn, pc, va, vn, vc, e, h1, h2, h3, h4, h5.below hb, h6.below hb, fun b o e => ?_, fun b o e => ?_⟩
 ·obtain ⟨g1, g2, _, c, z, g4⟩ := h7 b o e
  exact ⟨Nat.le_trans hl g1, Nat.lt_of_lt_of_le g2 hb.size, fun h => by have := hS b h; omega, c, z, (hb.block b g2).trans g4⟩
 ·obtain ⟨g1, g2, _, c, z, g4⟩ := h8 b o e
  exact ⟨Nat.le_trans hl g1, Nat.lt_of_lt_of_le g2 hb.size, fun h => by have := hS b h; omega, c, z, (hb.block b g2).trans g4⟩
theorem fits_iter (w0 : World) (fp : Nat -> Prop) (k kb qb : Nat) (a a2 : Option Addr) (n cap n2 cap2 : Nat) (M : Mask) (y : List Int) (hn : M.length = n) (hn2 : y.length = n2) (hm : n <= maxLen) (hm2 : n2 <= maxLen) (h1 : 1 <= n) (hW : zAB M <= 1000) (hk : k <= 1000)
 (hfp : ∀ q, fp q -> q < w0.heap.size) (hkb : fp kb) (hqb : fp qb) (hck : w0.cell? ⟨kb, 0, none⟩ = some (.int .i64 k)) (hcq : w0.heap[qb]? = some (.cells #[.slice a n cap, .slice a2 n2 cap2] 216 (0, 0)))
 (hR : ∀ X : World, w0.heap.size <= X.heap.size -> (∀ q, fp q -> X.heap[q]? = w0.heap[q]?) -> zAK X a M ∧ zAH X a2 y) :
 IterS Tryz.prog 254 #[.pointer (some ⟨kb, 0, none⟩), .pointer (some ⟨qb, 0, none⟩)] FitV (zBE M y k) fp w0 := by
 intro l J Jx W hb hJx hJ hY h0
 have hkW : kb < W.heap.size := Nat.lt_of_lt_of_le (hfp _ hkb) hb.size
 have hqW : qb < W.heap.size := Nat.lt_of_lt_of_le (hfp _ hqb) hb.size
 have hFW : ∀ q, fp q -> W.heap[q]? = w0.heap[q]? := fun q hq => hb.block q (hfp q hq)
 have HJ := hid hJ
 have HJx := hid hJx
 have HY := hid hY
 have H0 := hid h0
 have HFW := hid hFW
 have HR := hid hR
 have HFP := hid hfp
 have HB := hid hb
 have HK := hid (show ∀ X : World, (∀ q, fp q -> X.heap[q]? = w0.heap[q]?) -> X.cell? ⟨kb, 0, none⟩ = some (.int .i64 k) from fun X hX => (World.cell?_of_block (a := ⟨kb, 0, none⟩) (hX kb hkb)).trans hck)
 have HQ := hid (show ∀ X : World, (∀ q, fp q -> X.heap[q]? = w0.heap[q]?) -> X.heap[qb]? = some (.cells #[.slice a n cap, .slice a2 n2 cap2] 216 (0, 0)) from fun X hX => (hX qb hqb).trans hcq)
 clear hJ hJx hY h0 hFW hck hcq hR hfp hb hkb hqb
 refine callsIn_of_wp_marks Tryz.func254 rfl trivial ?_ rfl
 simp only [Tryz.ntmps254, List.size_toArray, List.length_cons, List.length_nil, Nat.reduceAdd, Nat.reduceSub, Array.replicate_succ, Array.replicate_zero, List.push_toArray, List.append_toArray, List.nil_append, List.cons_append]
 gi_wp2
 obtain ⟨w1, hw1⟩ := exq (W.alloc (.cells #[.func (.yield l) #[] #[]] 233))
 rw [<- hw1]
 have hs1 : w1.heap.size = W.heap.size + 1 := by rw [hw1]; simp
 have hF1 : ∀ q, fp q -> w1.heap[q]? = w0.heap[q]? := fun q hq => by
  rw [hw1, Below.heap_alloc _ _ _ (Nat.lt_of_lt_of_le (HFP.out q hq) HB.out.size)]; exact HFW.out q hq
 have hc1 : w1.cell? ⟨W.heap.size, 0, none⟩ = some (.func (.yield l) #[] #[]) := by rw [hw1, World.cell?_alloc_at _ _ _ _ rfl]; rfl
 have HB1 := hid (show Below W.heap.size W w1 by rw [hw1]; exact (Below.refl _ _).alloc (Nat.le_refl _) _)
 obtain ⟨w2, hw2⟩ := exq (w1.drew)
 have HF1 := hid hF1
 have HC1 := hid hc1
 have HS1 := hid hs1
 clear hs1 hF1 hc1
 refine wide_regionK (fun j w' => decide (j < 9) = true -> (∀ q, q < W.heap.size + 1 -> w'.heap[q]? = w1.heap[q]?) ∧ W.heap.size + 1 <= w'.heap.size ∧ w'.cell? ⟨kb, 0, none⟩ = some (.int .i64 k) ∧ w'.cell? ⟨qb, 0, none⟩ = some (.slice a n cap) ∧ w'.cell? ⟨qb, 1, none⟩ = some (.slice a2 n2 cap2)) 0 (by kernel_rfl) ?_
 rw [<- hw2]
 have hF2 : ∀ q, fp q -> w2.heap[q]? = w0.heap[q]? := fun q hq => by rw [hw2]; exact HF1.out q hq
 have HS := hid (show ∀ X : World, (∀ q, q < W.heap.size + 1 -> X.heap[q]? = w1.heap[q]?) -> W.heap.size + 1 <= X.heap.size -> (∀ q, q < W.heap.size + 1 -> X.heap[q]? = w1.heap[q]?) ∧ W.heap.size + 1 <= X.heap.size ∧ X.cell? ⟨kb, 0, none⟩ = some (.int .i64 k) ∧ X.cell? ⟨qb, 0, none⟩ = some (.slice a n cap) ∧ X.cell? ⟨qb, 1, none⟩ = some (.slice a2 n2 cap2) from fun X hX hs => by
  have hF : ∀ q, fp q -> X.heap[q]? = w0.heap[q]? := fun q hq => (hX q (by have := HFP.out q hq; have := HB.out.size; omega)).trans (HF1.out q hq)
  have hq := HQ.out X hF
  exact ⟨hX, hs, HK.out X hF, by simp [World.cell?, hq], by simp [World.cell?, hq]⟩)
 have h2 := HS.out w2 (fun q _ => by rw [hw2]; rfl) (by rw [hw2]; exact Nat.le_of_eq HS1.out.symm)
 refine AnyT.tD (i := 0) (v := .int .i64 k) rfl rfl (by rintro w' ⟨_, _, q5, q6, q7⟩; go_simp) h2 ?_; go_frame
 refine AnyT.tD (i := 1) (v := .agg #[.slice a n cap, .slice a2 n2 cap2]) rfl rfl (by rintro w' ⟨_, _, q5, q6, q7⟩; go_simp) h2 ?_; go_frame
 refine AnyT.tD (i := 3) (v := .pointer (some ⟨qb, 0, none⟩)) rfl rfl (by rintro w' q5; go_simp) h2 ?_; go_frame
 refine AnyT.tD (i := 4) (v := .slice a n cap) rfl rfl (by rintro w' ⟨_, _, q5, q6, q7⟩; go_simp) h2 ?_; go_frame
 refine AnyT.tD (i := 5) (v := .int .i64 n) rfl rfl (by rintro w' q5; go_simp) h2 ?_; go_frame
 refine AnyT.tD (i := 8) (v := .int .i64 0) rfl rfl (by rintro w' q5; go_simp) h2 ?_; go_frame
 refine AnyT.nx (i := 2) rfl ?_
 have HPX := hid (fun (X : World) (h : zAK X a M) => qpixels_c X a a2 n cap n2 cap2 M hn h1 h)
 have HR2 := hid (show zAK w2 a M from (HR.out w2 (Nat.le_trans HB.out.size (Nat.le_trans (Nat.le_succ _) h2.2.1)) hF2).1)
 have hB2 : Below W.heap.size W w2 := by rw [hw2]; exact HB1.out.drew
 clear hF2 hw2 hw1
 go_wp2_with (go_at_call 255; go_loud (refine (HPX.out w2 HR2.out).mono ?_; rintro e w3 ⟨rfl, hb3⟩; refine Stop.of ?_))
 refine Stop.go ?_
 have h3 := HS.out w3 (fun q hq => (hb3.block q (Nat.lt_of_lt_of_le hq h2.2.1)).trans (h2.1 q hq)) (Nat.le_trans h2.2.1 hb3.size)
 go_wp2
 refine ⟨fun _ => h3, ?_⟩
 obtain ⟨Wn, hWn⟩ := exq (zAB M)
 rw [<- hWn] at hW ⊢
 obtain ⟨N, hN⟩ : ∃ N : Nat, N = min (min k Wn) n := ⟨_, rfl⟩
 have HN := hid (show zBE M y k = zBQ M y Wn (N + 1) by rw [hN, hWn, <- hn]; rfl)
 have HWn := hid hWn
 have hNc : min (min (k : Int) (Wn : Int)) (n : Int) = (N : Int) := by omega
 have HNC := hid hNc
 have HN1 := hid (show N <= 1000 by omega)
 clear hNc hN hWn
 refine AnyT.tD (i := 6) (v := .int .i64 N) rfl rfl (by rintro w' hw'; go_simp; rw [run_min3, HNC.out]; rfl) h3 ?_; go_frame
 have HW9 := hid (show IntKind.i64.wrap ((N : Int) + 1) = (N : Int) + 1 from IntWalk.i64_in _ (by have := HN1.out; omega))
 refine AnyT.tD (i := 7) (v := .int .i64 ((N : Int) + 1)) rfl rfl (by rintro w' hw'; go_simp; exact HW9.out) h3 ?_; go_frame
 refine ⟨by kernel_rfl, ?_⟩
 have H3 := hid h3
 have HB3 := hid (zAA hB2 hb3)
 clear h2 h3 hB2 hb3
 gi_wp2
 obtain ⟨I, hI⟩ : ∃ I : Act -> World -> Prop, I = (fun a' X => ∃ (u4 u5 u6 u7 u8 u9 u10 u11 u12 u13 u14 u17 u18 u19 u20 u21 u22 u23 u24 u25 u26 u27 u28 u29 u30 u31 u32 u33 u34 u35 u36 u37 : Value), ∃ (t : Nat) (S : Nat -> Prop) (hs : List Nat), t <= N + 1 ∧ FitsI w0 fp l J W.heap.size (zBQ M y Wn t) S hs X ∧ (∀ k, S k -> k < X.heap.size) ∧ hs.Nodup ∧
  a' = ⟨#[.func (.yield l) #[] #[], .pointer (some ⟨kb, 0, none⟩), .pointer (some ⟨qb, 0, none⟩), .pointer (some ⟨W.heap.size, 0, none⟩), u4, u5, u6, u7, u8, u9, u10, u11, u12, u13, u14, .int .i64 ((N : Int) + 1), .int .i64 t, u17, u18, u19, u20, u21, u22, u23, u24, u25, u26, u27, u28, u29, u30, u31, u32, u33, u34, u35, u36, u37], markL hs⟩) := ⟨_, rfl⟩
 have HI := hid hI
 clear hI
 obtain ⟨mu, hmu⟩ : ∃ mu : Act -> World -> Nat, mu = (fun a' _ => N + 1 - (intOf (a'.tmps.getD 16 undef)).toNat) := ⟨_, rfl⟩
 have HMU := hid hmu
 clear hmu
 refine wpIn_loop I mu ?_ ?_
 ·rw [HI.out]
  refine ⟨_, _, _, _, _, _, _, _, _, _, _, _, _, _, _, _, _, _, _, _, _, _, _, _, _, _, _, _, _, _, _, _, 0, (fun q => q = W.heap.size), [], Nat.zero_le _, ?_, ?_, List.nodup_nil, rfl⟩
  ·refine ⟨?_, ?_, rfl, ?_, ?_, ?_, ?_⟩
   ·exact HJ.out _ _ _ _ _ H0.out (fun _ h => h.elim) (fun q hq => .inr (Nat.le_of_eq (Eq.symm hq))) (Keep.of_below HB3.out)
   ·intro q hq; exact Nat.le_of_eq (Eq.symm hq)
   ·exact (World.cell?_of_block (a := ⟨W.heap.size, 0, none⟩) (H3.out.1 _ (Nat.lt_succ_self _))).trans HC1.out
   ·intro q hq
    have hql := Nat.lt_of_lt_of_le (HFP.out q hq) HB.out.size
    exact ⟨hql, (H3.out.1 q (Nat.lt_succ_of_lt hql)).trans (HF1.out q hq)⟩
   ·exact H3.out.2.1
   ·intro h hh; cases hh
  ·intro q hq; rw [hq]; exact H3.out.2.1
 ·intro a' X hIX
  rw [HI.out] at hIX
  obtain ⟨u4, hIX⟩ := hIX; obtain ⟨u5, hIX⟩ := hIX; obtain ⟨u6, hIX⟩ := hIX; obtain ⟨u7, hIX⟩ := hIX; obtain ⟨u8, hIX⟩ := hIX; obtain ⟨u9, hIX⟩ := hIX; obtain ⟨u10, hIX⟩ := hIX; obtain ⟨u11, hIX⟩ := hIX; obtain ⟨u12, hIX⟩ := hIX; obtain ⟨u13, hIX⟩ := hIX; obtain ⟨u14, hIX⟩ := hIX; obtain ⟨u17, hIX⟩ := hIX; obtain ⟨u18, hIX⟩ := hIX; obtain ⟨u19, hIX⟩ := hIX; obtain ⟨u20, hIX⟩ := hIX; obtain ⟨u21, hIX⟩ := hIX; obtain ⟨u22, hIX⟩ := hIX; obtain ⟨u23, hIX⟩ := hIX; obtain ⟨u24, hIX⟩ := hIX; obtain ⟨u25, hIX⟩ := hIX; obtain ⟨u26, hIX⟩ := hIX; obtain ⟨u27, hIX⟩ := hIX; obtain ⟨u28, hIX⟩ := hIX; obtain ⟨u29, hIX⟩ := hIX; obtain ⟨u30, hIX⟩ := hIX; obtain ⟨u31, hIX⟩ := hIX; obtain ⟨u32, hIX⟩ := hIX; obtain ⟨u33, hIX⟩ := hIX; obtain ⟨u34, hIX⟩ := hIX; obtain ⟨u35, hIX⟩ := hIX; obtain ⟨u36, hIX⟩ := hIX; obtain ⟨u37, hIX⟩ := hIX
  obtain ⟨t, S, hs, ht, hX, hSX, hnd, rfl⟩ := hIX
  have HX := hid hX
  have HSX := hid hSX
  have HND := hid hnd
  by_cases hlt : t < N + 1
  ·have hlt' : (t : Int) < (N : Int) + 1 := by omega
   have hXF : ∀ q, fp q -> X.heap[q]? = w0.heap[q]? := fun q hq => (hX.f q hq).2
   have hXz : W.heap.size < X.heap.size := hX.z
   have hq0 : X.cell? ⟨qb, 0, none⟩ = some (.slice a n cap) := by have hq := HQ.out X hXF; simp [World.cell?, hq]
   have hq1 : X.cell? ⟨qb, 1, none⟩ = some (.slice a2 n2 cap2) := by have hq := HQ.out X hXF; simp [World.cell?, hq]
   have HPQ := hid (HPX.out X (HR.out X (Nat.le_trans HB.out.size (Nat.le_of_lt hXz)) hXF).1)
   clear hX hSX hnd hXF
   gi_wp2_with (refine ⟨trivial, rfl, ?_⟩; gi_at_call 255; refine (callsIn_wide.2 HPQ.out).mono ?_; rintro e Y ⟨rfl, hbY⟩; refine Stop.of ?_)
   refine Stop.go ?_
   rw [<- HWn.out]
   gi_wp2_with (refine ⟨trivial, rfl, ?_⟩; gi_at_call 178; refine (callsIn_wide.2 (sets_c _ _ _)).mono ?_; rintro e w' ⟨rfl, rfl⟩; refine Stop.of ?_)
   refine Stop.go ?_
   obtain ⟨wL, hwL⟩ := exq ((Y.alloc (.cells #[.int .i64 Wn] 3)).alloc (.cells #[.int .i64 t] 3))
   have hsz : wL.heap.size = Y.heap.size + 2 := by rw [hwL]; simp
   have hbL : Below Y.heap.size Y wL := by rw [hwL]; exact ((Below.refl _ Y).alloc (Nat.le_refl _) _).alloc (by simp) _
   have hZ0 : Boxed wL Y.heap.size 3 (.int .i64 Wn) := by rw [hwL]; exact (Boxed.new Y 3 (.int .i64 (Wn : Int))).alloc _
   have hZ1 : Boxed wL (Y.heap.size + 1) 3 (.int .i64 (t : Int)) := by
    rw [hwL]
    have h1 := Boxed.new (Y.alloc (.cells #[.int .i64 (Wn : Int)] 3)) 3 (.int .i64 (t : Int))
    rwa [World.size_alloc] at h1
   have hF0 := hZ1.cell
   have hF1 := hZ0.cell
   rw [<- hwL]
   have hbXL := zAA hbY hbL
   have HBXL := hid hbXL
   have HSZ := hid hsz
   have hXY := hbY.size
   have HXY := hid hXY
   clear hwL hq0 hq1 hZ0 hZ1 hbXL hbY
   have ht1k : t <= 1000 := by have := HN1.out; omega
   gi_wp2
   obtain ⟨T, hT⟩ : ∃ T : (Nat -> Prop) -> Nat -> Prop, T = fun Sr q => S q ∨ q = Y.heap.size ∨ q = Y.heap.size + 1 ∨ q = wL.heap.size ∨ q = wL.heap.size + 1 ∨ Sr q := ⟨_, rfl⟩
   refine range_s (gf := 222) (lb := #[.pointer (some ⟨Y.heap.size + 1, 0, none⟩), .pointer (some ⟨Y.heap.size, 0, none⟩)]) (xs := comb Wn t 0) (fp := fun k => k = Y.heap.size + 1 ∨ k = Y.heap.size) (V := SetV) rfl (enters_of Tryz.func222 (by kernel_rfl) rfl)
    (iter_setsS wL Wn t (Y.heap.size + 1) Y.heap.size hW ht1k (by omega) (by omega) hF0 hF1) (Below.refl _ _) (by intro k hk; omega)
    (fun Sr pre Z => FitsI w0 fp l J W.heap.size (zBQ M y Wn t ++ pre.filterMap (fitF M y)) (T Sr) hs Z)
    (fun Sr c pre Z => c = .ret ∧ FitsI w0 fp l Jx W.heap.size (zBQ M y Wn t ++ pre.filterMap (fitF M y)) (T Sr) hs Z) ?hI ?hIx ?hV ?h0 (fun v a' Z => a' = { tmps := #[.func (.yield l) #[] #[], .pointer (some ⟨kb, 0, none⟩), .pointer (some ⟨qb, 0, none⟩), .pointer (some ⟨W.heap.size, 0, none⟩), .int .i64 t, v, u6, u7, u8, u9, u10, u11, u12, u13, u14, .int .i64 ((N : Int) + 1), .int .i64 t, .bool true, .int .i64 t, .agg #[.slice a n cap, .slice a2 n2 cap2], .int .i64 Wn, .int .i64 t, .func (.func 222) #[] #[.pointer (some ⟨Y.heap.size + 1, 0, none⟩), .pointer (some ⟨Y.heap.size, 0, none⟩)], v, u24, u25, u26, u27, u28, u29, u30, u31, u32, u33, u34, u35, u36, u37], defers := [] }) ?hAx ?hassign ?hbody ?hdone ?hstop
   case hI =>
    intro Sr Sr' s A B hIA h1 h2 h3 h4 hk
    refine hIA.keep HJ.out ?_ ?_ hk ?_ ?_ ?_
    ·rw [hT]; rintro q (h | h | h | h | h | h) <;> simp [h, h1]
    ·rw [hT]; rintro q (h | h | h | h | h | h)
     ·exact .inl (.inl h)
     ·exact .inl (.inr (.inl h))
     ·exact .inl (.inr (.inr (.inl h)))
     ·exact .inl (.inr (.inr (.inr (.inl h))))
     ·exact .inl (.inr (.inr (.inr (.inr (.inl h)))))
     ·rcases h2 q h with h | h
      ·exact .inl (.inr (.inr (.inr (.inr (.inr h)))))
      ·exact .inr h
    ·rw [hT]; intro q _ hq; simp only [not_or] at hq; exact ⟨hq.2.2.2.1, hq.2.2.2.2.1, hq.2.2.2.2.2⟩
    ·exact ⟨by omega, by omega, fun h => by have := h3 _ h; omega⟩
    ·intro q hq
     have := HSX.out q (HX.out.m q hq).1
     exact ⟨by omega, by omega, fun h => by have := h3 _ h; omega⟩
   case hIx =>
    rintro Sr Sr' c s A B ⟨hc, hIA⟩ h1 h2 h3 h4 hk
    refine ⟨hc, hIA.keep HJx.out ?_ ?_ hk ?_ ?_ ?_⟩
    ·rw [hT]; rintro q (h | h | h | h | h | h) <;> simp [h, h1]
    ·rw [hT]; rintro q (h | h | h | h | h | h)
     ·exact .inl (.inl h)
     ·exact .inl (.inr (.inl h))
     ·exact .inl (.inr (.inr (.inl h)))
     ·exact .inl (.inr (.inr (.inr (.inl h))))
     ·exact .inl (.inr (.inr (.inr (.inr (.inl h)))))
     ·rcases h2 q h with h | h
      ·exact .inl (.inr (.inr (.inr (.inr (.inr h)))))
      ·exact .inr h
    ·rw [hT]; intro q _ hq; simp only [not_or] at hq; exact ⟨hq.2.2.2.1, hq.2.2.2.2.1, hq.2.2.2.2.2⟩
    ·exact ⟨by omega, by omega, fun h => by have := h3 _ h; omega⟩
    ·intro q hq
     have := HSX.out q (HX.out.m q hq).1
     exact ⟨by omega, by omega, fun h => by have := h3 _ h; omega⟩
   case hV =>
    intro Sr x v A B hv hk
    exact hv.keep hk (fun k hk => ⟨by omega, by omega⟩)
   case h0 =>
    intro Z hk hZ
    rw [List.filterMap_nil, List.append_nil]
    refine HX.out.keep HJ.out ?_ ?_ ((Keep.of_below HBXL.out).trans hk) ?_ ?_ ?_
    ·rw [hT]; intro q h; simp [h]
    ·rw [hT]; rintro q (h | h | h | h | h | h)
     ·exact .inl h
     ·exact .inr (by omega)
     ·exact .inr (by omega)
     ·exact .inr (by omega)
     ·exact .inr (by omega)
     ·exact h.elim
    ·intro q hq _; omega
    ·omega
    ·intro q hq
     have := HSX.out q (HX.out.m q hq).1
     omega
   case hAx =>
    intro v a' A B h _; exact h
   case hassign =>
    intro l' Sr x v Z K hZ hv hK
    gi_wp2
    exact hK _ _ (Below.refl _ _) rfl
   case hbody =>
    rintro l' Sr pre x v _ Z hpre hSr hIZ hv rfl hZ _ _
    obtain ⟨xa, xc, rfl, hxi, hxb⟩ := hv
    have hxm : x ∈ comb Wn t 0 := hpre.subset (by simp)
    have hxl : x.length = t := zCV _ _ _ x hxm
    have hZF : ∀ q, fp q -> Z.heap[q]? = w0.heap[q]? := fun q hq => (hIZ.f q hq).2
    have hZz : W.heap.size < Z.heap.size := hIZ.z
    have hzq0 : Z.cell? ⟨qb, 0, none⟩ = some (.slice a n cap) := by have hq := HQ.out Z hZF; simp [World.cell?, hq]
    have hzq1 : Z.cell? ⟨qb, 1, none⟩ = some (.slice a2 n2 cap2) := by have hq := HQ.out Z hZF; simp [World.cell?, hq]
    have hzy : Z.cell? ⟨W.heap.size, 0, none⟩ = some (.func (.yield l) #[] #[]) := hIZ.c
    obtain ⟨hRZ, hIY⟩ := HR.out Z (Nat.le_trans HB.out.size (Nat.le_of_lt hZz)) hZF
    have HFIT := hid (fit_c Z a a2 xa n cap n2 cap2 x.length xc M y x hn hn2 rfl hm hm2 (by rw [hxl]; exact ht1k) hRZ hIY hxi)
    have HIZ := hid hIZ
    have HT := hid hT
    have HSR := hid hSr
    have HPRE := hid hpre
    have hYs := hbL.size
    have HTB := hid (show ∀ q, T Sr q -> q < Z.heap.size by
     rw [hT]; rintro q (h | h | h | h | h | h)
     ·have := HSX.out q h; omega
     ·omega
     ·omega
     ·omega
     ·omega
     ·exact (hSr q h).2)
    clear hYs
    have hqZ : qb < Z.heap.size := World.block_lt_of_cell? Z ⟨qb, 0, none⟩ hzq0
    clear hRZ hIY hIZ hT hSr hpre hxm hxl hZF hxi hxb hF0 hF1
    cases hF : fitF M y x with
    | none =>
      rw [hF] at HFIT
      have HF := hid hF
      clear hF
      gi_wp2_with (refine ⟨trivial, rfl, ?_⟩; gi_at_call 256; refine (CallsIn.inRound l' (callsIn_wide.2 HFIT.out)).mono ?_; rintro e Z2 ⟨⟨_, rfl⟩ | ⟨f, fv, hso, _⟩, hb2⟩; rotate_left; cases hso; refine Stop.of ?_)
      refine Stop.go ?_
      gi_wp2
      refine ⟨fun _ h => (by cases h), ?_⟩
      gi_wp2
      have hbF := zAA hb2 ((Below.refl Z2.heap.size Z2).alloc (Nat.le_refl _) (.cells #[.slice none 0 0, .slice none 0 0] 73))
      refine ⟨hbF.size, fun q hq => hbF.block q (HTB.out q (by rw [HT.out]; exact .inr (by rcases hq with (hq | hq) | hq | hq | hq <;> simp [hq]))), ?_⟩
      show FitsI w0 fp l J W.heap.size (zBQ M y Wn t ++ (pre ++ [x]).filterMap (fitF M y)) (T Sr) hs _
      rw [List.filterMap_append, List.filterMap_cons_none HF.out, List.filterMap_nil, List.append_nil]
      exact HIZ.out.keep HJ.out (fun _ h => h) (fun _ h => .inl h) (Keep.of_below hbF : Keep (fun _ => True) Z _) (fun _ _ _ => trivial) trivial (fun _ _ => trivial)
    | some f =>
      rw [hF] at HFIT
      have HF := hid hF
      clear hF
      gi_wp2_with (refine ⟨trivial, rfl, ?_⟩; gi_at_call 256; refine (CallsIn.inRound l' (callsIn_wide.2 HFIT.out)).mono ?_; rintro e Z2 ⟨⟨hno, _⟩ | ⟨f', fv, hso, rfl, hfv⟩, hb2⟩; cases hno; refine Stop.of ?_)
      refine Stop.go ?_
      obtain rfl : f = f' := by cases hso; rfl
      clear hso
      have HFV := hid hfv
      obtain ⟨pa, pn, pc, va, vn, vc, rfl, _, _, _, _, _, _, _, _⟩ := hfv
      have hy2 : Z2.cell? ⟨W.heap.size, 0, none⟩ = some (.func (.yield l) #[] #[]) := (hb2.cell (p := ⟨W.heap.size, 0, none⟩) hZz).trans hzy
      have hyl : W.heap.size < Z2.heap.size := Nat.lt_of_lt_of_le hZz hb2.size
      have hb3 := zAA hb2 ((Below.refl Z2.heap.size Z2).alloc (Nat.le_refl _) (.cells #[.slice pa pn pc, .slice va vn vc] 73))
      have hyk := HY.out (T Sr) (zBQ M y Wn t ++ pre.filterMap (fitF M y)) f (.agg #[.slice pa pn pc, .slice va vn vc]) (Z2.alloc (.cells #[.slice pa pn pc, .slice va vn vc] 73))
       (by rw [HN.out]; exact fitsTo_in hlt HPRE.out HF.out) (fun q hq => ⟨HIZ.out.s q hq, Nat.lt_of_lt_of_le (HTB.out q hq) hb3.size⟩) (Nat.le_trans (Nat.le_of_lt hZz) hb3.size)
       (HJ.out _ _ _ _ _ HIZ.out.j (fun _ h => h) (fun _ h => .inl h) (Keep.of_below hb3)) (HFV.out.own ((Below.refl _ _).alloc (Nat.le_refl _) _) (Nat.le_of_lt hZz) HTB.out)
      have HB3' := hid hb3
      clear hb2 hb3
      obtain ⟨fn, tmps, assign, body, hy, hR'⟩ := hyk
      gi_wp2
      refine ⟨rfl, hR'.mono ?_⟩
      clear hR' hy
      rintro e W3 ⟨⟨hs3, hk3⟩, ⟨rfl, hJ3⟩ | ⟨rfl, hJ3⟩⟩
      ·gi_wp2
       refine ⟨Nat.le_trans HB3'.out.size hs3, fun q hq => ?_, ?_⟩
       ·have hq' : T Sr q := by rw [HT.out]; exact .inr (by rcases hq with (hq | hq) | hq | hq | hq <;> simp [hq])
        exact (hk3 q (.inr hq')).trans (HB3'.out.block q (HTB.out q hq'))
       ·show FitsI w0 fp l J W.heap.size (zBQ M y Wn t ++ (pre ++ [x]).filterMap (fitF M y)) (T Sr) hs _
        rw [List.filterMap_append, List.filterMap_cons_some HF.out, List.filterMap_nil, <- List.append_assoc]
        exact HIZ.out.step HTB.out HB3'.out hs3 hk3 hJ3
      ·gi_wp2
       refine ⟨Nat.le_trans HB3'.out.size hs3, fun q hq => ?_, rfl, ?_⟩
       ·have hq' : T Sr q := by rw [HT.out]; exact .inr (by rcases hq with (hq | hq) | hq | hq | hq <;> simp [hq])
        exact (hk3 q (.inr hq')).trans (HB3'.out.block q (HTB.out q hq'))
       ·show FitsI w0 fp l Jx W.heap.size (zBQ M y Wn t ++ (pre ++ [x]).filterMap (fitF M y)) (T Sr) hs _
        rw [List.filterMap_append, List.filterMap_cons_some HF.out, List.filterMap_nil, <- List.append_assoc]
        exact HIZ.out.step HTB.out HB3'.out hs3 hk3 hJ3
   case hdone =>
    intro Sr Z hZ hSr hIZ hmk
    have HIZ := hid hIZ
    have HSR := hid hSr
    have HMK := hid hmk
    have HT := hid hT
    have hYs := hbL.size
    have HTB := hid (show ∀ q, T Sr q -> q < Z.heap.size by
     rw [hT]; rintro q (h | h | h | h | h | h)
     ·have := HSX.out q h; omega
     ·omega
     ·omega
     ·omega
     ·omega
     ·exact (hSr q h).2)
    have HNN := hid (show wL.heap.size ∉ hs from fun h => by have := HSX.out _ (HX.out.m _ h).1; omega)
    clear hIZ hSr hmk hT hF0 hF1 hYs
    gi_wp2
    rw [HI.out, HMU.out]
    refine ⟨⟨_, _, _, _, _, _, _, _, _, _, _, _, _, _, _, _, _, _, _, _, _, _, _, _, _, _, _, _, _, _, _, _, t + 1, T Sr, wL.heap.size :: hs, hlt, ?_, HTB.out, List.nodup_cons.2 ⟨HNN.out, HND.out⟩, by first | rfl | (rw [cast1 t]; rfl)⟩, ?_⟩
    ·rw [zCO]
     refine ⟨HIZ.out.j, HIZ.out.s, HIZ.out.y, HIZ.out.c, HIZ.out.f, HIZ.out.z, fun q hq => ?_⟩
     rcases List.mem_cons.1 hq with rfl | hq
     ·exact ⟨by rw [HT.out]; simp, HMK.out⟩
     ·exact HIZ.out.m q hq
    ·show N + 1 - (intOf (.int .i64 ((t : Int) + 1))).toNat < N + 1 - (intOf (.int .i64 (t : Int))).toNat
     simp only [intOf]; omega
   case hstop =>
    rintro Sr c pre Z hpre hSr ⟨rfl, hIZ⟩ hmk
    have HIZ := hid hIZ
    have HMK := hid hmk
    have HT := hid hT
    have HPRE := hid hpre
    have HNN := hid (show wL.heap.size ∉ hs from fun h => by have := HSX.out _ (HX.out.m _ h).1; have := hbL.size; omega)
    clear hIZ hSr hmk hT hF0 hF1 hpre
    gi_wp2
    refine zGG (wL.heap.size :: hs) Z (List.nodup_cons.2 ⟨HNN.out, HND.out⟩) (fun h hh => ?_) fun w' hk => ?_
    ·rcases List.mem_cons.1 hh with rfl | hh
     ·exact HMK.out
     ·exact (HIZ.out.m h hh).2
    ·refine ⟨_, results_none rfl _ _ _, ⟨_, rfl⟩, .inr ⟨T Sr, _, ?_, HJx.out _ _ _ _ _ HIZ.out.j (fun _ h => h) (fun _ h => .inl h) (hk.mono fun q hq hh => ?_)⟩⟩
     ·rw [HN.out]
      exact zNU hlt HPRE.out
     ·rcases List.mem_cons.1 hh with rfl | hh
      ·exact hq (by rw [HT.out]; simp)
      ·exact hq (HIZ.out.m q hh).1
  ·obtain rfl : t = N + 1 := by omega
   clear hX hSX hnd
   gi_wp2
   refine zGG hs X HND.out (fun h hh => (HX.out.m h hh).2) fun w' hk => ?_
   refine ⟨_, results_none rfl _ _ _, ⟨_, rfl⟩, .inl ⟨S, fun q hq => ⟨HX.out.s q hq, Nat.lt_of_lt_of_le (HSX.out q hq) hk.size⟩, ?_⟩⟩
   rw [HN.out]
   exact HJ.out _ _ _ _ _ HX.out.j (fun _ h => h) (fun _ h => .inl h) (hk.mono fun q hq hh => hq (HX.out.m q hh).1)
end
section
open Go.RowKit
theorem qfits_c (w : World) (a a2 : Option Addr) (n cap n2 cap2 : Nat) (k : Int) :
 Calls Tryz.prog 234 #[.agg #[.slice a n cap, .slice a2 n2 cap2], .int .i64 k] w fun e w' =>
  e = .returned (.func (.func 254) #[] #[.pointer (some ⟨w.heap.size + 1, 0, none⟩), .pointer (some ⟨w.heap.size, 0, none⟩)]) ∧
  w' = (w.alloc (.cells #[.slice a n cap, .slice a2 n2 cap2] 216)).alloc (.cells #[.int .i64 k] 3) := by
 have hmf : ∀ (fn : Fn) (first cap : Array Value) (w : World), (Instr.makeFunc fn first cap).run Tryz.prog w = .ok (.func fn first cap) w := fun _ _ _ _ => rfl
 go_enter Tryz.func234, Tryz.ntmps234
 go_wp2
 go_ret
 exact ⟨rfl, rfl⟩
def zGM (M : Mask) (y : List Int) (k : Int) : Int := if zBB M y [] = 0 then (if inB k 0 10 = true then 0 else 7) else zBB M y []
theorem counted_c (w : World) (a a2 : Option Addr) (n cap n2 cap2 : Nat) (M : Mask) (y : List Int) (k : Int) (hn : M.length = n) (hn2 : y.length = n2) (hm : n <= maxLen) (hm2 : n2 <= maxLen) (H : zAK w a M) (H2 : zAH w a2 y) :
 Calls Tryz.prog 232 #[.slice a n cap, .slice a2 n2 cap2, .int .i64 k] w fun e w' => e = .returned (.int .i64 (zGM M y k)) ∧ Below w.heap.size w w' := by
 have HC := hid (zMW w a a2 none n cap n2 cap2 0 0 M y [] hn hn2 rfl hm hm2 (by decide) H H2 (fun j hj => by simp at hj))
 have HW := hid (fun X => zLY k 0 10 X)
 obtain ⟨E, hE⟩ := exq (zBB M y [])
 obtain ⟨b, hb⟩ := exq (inB k 0 10)
 have hP : zGM M y k = if E = 0 then (if b = true then 0 else 7) else E := by rw [hE, hb]; rfl
 rw [<- hE] at HC
 rw [<- hb] at HW
 rw [hP]
 clear hE hb hP hn hn2 H H2
 go_enter Tryz.func232, Tryz.ntmps232
 by_cases h0 : E = 0
 ·subst h0
  cases b
  all_goals
   go_wp2_with first
    | (go_at_call 101; refine HC.out.mono ?_; rintro e w1 ⟨rfl, hb1⟩)
    | (go_at_call 88; refine (HW.out _).mono ?_; rintro e w2 ⟨rfl, rfl⟩)
   go_ret
   exact ⟨rfl, hb1⟩
 ·have hne : (E != 0) = true := by simp [h0]
  rw [if_neg h0]
  clear h0
  go_wp2_with (go_at_call 101; refine HC.out.mono ?_; rintro e w1 ⟨rfl, hb1⟩)
  go_ret
  exact ⟨rfl, hb1⟩
end
section
open Go.RowKit
attribute [local go_sem] Oper.semAt_some
theorem AnyT.takeDN {P : Program} {md : Region.Mode} {ops : Array Oper} {Q : Exit -> Act -> World -> Prop} {S : World -> Prop} {i d : Nat} {oi : Oper} {fuel : Nat} {listed : Array Bool} {a : Act} {w : World} {Wf : Nat -> Bool} (hi : ops[i]? = some oi) (hd : oi.dst = some d)
 (hs : Region.noSelect ops = true) (hf : Region.free md ops listed i = true) (hr : (Region.ready md ops listed).contains i = true)
 (hQ : ∀ c a w, Q (.panic c) (a.put (some d) undef) w -> Q (.panic c) a w)
 (hW : (List.range ops.size).all (fun j => waits md ops i j || Wf j) = true) (hw : Region.wanted oi (yielded ops a.tmps) = false) (hS : S w)
 (h : AnyT P md ops Q (fun j w => Wf j = true -> S w) fuel (listed.setIfInBounds i true) (a.put (some d) undef) w) : AnyT P md ops Q (fun j w => Wf j = true -> S w) (fuel + 1) listed a w :=
 AnyT.take (v := undef) hi hs hf hr (by rw [hd]; exact hQ) (fun j hj w hT => hT (by
  by_cases e : j < ops.size
  ·have := List.all_eq_true.1 hW j (List.mem_range.2 e)
   rw [hj] at this; simpa using this
  ·unfold waits at hj; rw [Array.getElem?_eq_none (by omega)] at hj; cases hj)) (fun w hS _ => hS) (.inr ⟨hw, rfl⟩) hS (by rw [hd]; exact h)
theorem zNI {R : List (List Int)} {n : Nat} (h : (zAW R n).2 = 0) : (zAW R n).1.length = n := by
 unfold zAW at h ⊢
 simp only [] at h ⊢
 split
 ·rename_i h1; rw [if_pos h1] at h; simp at h
 ·rename_i h1
  rw [if_neg h1] at h
  split
  ·rename_i h2; rw [if_pos h2] at h; simp at h
  ·simp
theorem fitF_len {M : Mask} {y S : List Int} {f : FitT} (h : fitF M y S = some f) : f.1 = S ∧ f.2.length = S.length := by
 obtain ⟨e, h0, _⟩ := zLE h
 rw [e]
 refine ⟨rfl, ?_⟩
 show (zBZ M S y).1.length = S.length
 unfold zBZ at h0 ⊢
 split
 ·rename_i hc
  rw [if_pos hc] at h0
  exact zNI h0
 ·rename_i hc
  rw [if_neg hc] at h0
  exact absurd h0 hc
theorem FitV.keep {lo : Nat} {S : Nat -> Prop} {x : FitT} {v : Value} {A B : World} {T : Nat -> Prop} (h : FitV lo S x v A) (hk : Keep T A B) (hT : ∀ k, lo <= k -> T k) : FitV lo S x v B := by
 obtain ⟨pa, pn, pc, va, vn, vc, e, h1, h2, h3, h4, h5, h6, h7, h8⟩ := h
 refine ⟨pa, pn, pc, va, vn, vc, e, h1, h2, h3, h4, fun j hj => ?_, fun j hj => ?_, fun b o e => ?_, fun b o e => ?_⟩
 ·obtain ⟨b, o, e2, hlt, hc⟩ := h5 j hj
  exact ⟨b, o, e2, Nat.lt_of_lt_of_le hlt hk.size, hk.cell hc (hT b (h7 b o e2).1)⟩
 ·obtain ⟨b, o, e2, hlt, hc, hd⟩ := h6 j hj
  exact ⟨b, o, e2, Nat.lt_of_lt_of_le hlt hk.size, hk.cell hc (hT b (h8 b o e2).1), hk.cell hd (hT b (h8 b o e2).1)⟩
 ·obtain ⟨g1, g2, g3, c, z, g4⟩ := h7 b o e
  exact ⟨g1, Nat.lt_of_lt_of_le g2 hk.size, g3, c, z, (hk.block b g2 (hT b g1)).trans g4⟩
 ·obtain ⟨g1, g2, g3, c, z, g4⟩ := h8 b o e
  exact ⟨g1, Nat.lt_of_lt_of_le g2 hk.size, g3, c, z, (hk.block b g2 (hT b g1)).trans g4⟩
theorem cell_blk {W W' : World} {b o : Nat} {v : Value} (h : W.cell? ⟨b, o, none⟩ = some v) (hk : W'.heap[b]? = W.heap[b]?) : W'.cell? ⟨b, o, none⟩ = some v :=
 (World.cell?_of_block (a := ⟨b, o, none⟩) hk).trans h
theorem lt_blk {W W' : World} {b : Nat} (h : b < W.heap.size) (hk : W'.heap[b]? = W.heap[b]?) : b < W'.heap.size := by
 rcases Nat.lt_or_ge b W'.heap.size with h' | h'
 ·exact h'
 ·rw [Array.getElem?_eq_none h', Array.getElem?_eq_getElem h] at hk; cases hk
theorem zAH.blk {W W' : World} {a : Option Addr} {l : List Int} (h : zAH W a l) (hk : ∀ k, k < W.heap.size -> W'.heap[k]? = W.heap[k]?) : zAH W' a l := by
 intro j hj
 obtain ⟨b, off, e, hb, hc⟩ := h j hj
 exact ⟨b, off, e, lt_blk hb (hk b hb), cell_blk hc (hk b hb)⟩
theorem zAK.blk {W W' : World} {a : Option Addr} {l : List (List Int)} (h : zAK W a l) (hk : ∀ k, k < W.heap.size -> W'.heap[k]? = W.heap[k]?) : zAK W' a l := by
 intro j hj
 obtain ⟨b, off, ra, n, cap, e, hb, hc, h1, h2, h3⟩ := h j hj
 exact ⟨b, off, ra, n, cap, e, lt_blk hb (hk b hb), cell_blk hc (hk b hb), h1, h2, h3.blk hk⟩
theorem zDE (M : Mask) (y : List Int) (W : Nat) : ∀ t, (zBQ M y W t).length <= t * 2 ^ W
 | 0 => by simp [zBQ]
 | t + 1 => by
   rw [zCO, List.length_append]
   have h1 := zDE M y W t
   have h2 := List.length_filterMap_le (fitF M y) (comb W t 0)
   have h3 := zFX W t 0
   rw [Nat.add_mul]
   omega
theorem AnyT.tN {P : Program} {md : Region.Mode} {ops : Array Oper} {Q : Exit -> Act -> World -> Prop} {S : World -> Prop} {i d : Nat} {oi : Oper} {fuel : Nat} {listed : Array Bool} {a : Act} {w : World} {Wf : Nat -> Bool} (hi : ops[i]? = some oi) (hd : oi.dst = some d) (hS : S w)
 (h : AnyT P md ops Q (fun j w => Wf j = true -> S w) fuel (listed.setIfInBounds i true) (a.put (some d) undef) w)
 (hs : Region.noSelect ops = true := by kernel_rfl) (hf : Region.free md ops listed i = true := by kernel_rfl) (hr : (Region.ready md ops listed).contains i = true := by kernel_rfl) (hQ : ∀ c a w, Q (.panic c) (a.put (some d) undef) w -> Q (.panic c) a w := by first | exact (fun _ _ _ h => h) | exact (fun _ _ _ h => absurd h.1 (by simp))) (hW : (List.range ops.size).all (fun j => waits md ops i j || Wf j) = true := by kernel_rfl) (hw : Region.wanted oi (yielded ops a.tmps) = false := by rfl) : AnyT P md ops Q (fun j w => Wf j = true -> S w) (fuel + 1) listed a w :=
 AnyT.takeDN hi hd hs hf hr hQ hW hw hS h
end
section
open Go.RowKit
theorem info_int : (Tryz.prog.info? 3).map (fun i => (i.zero, i.size, i.bytes)) = some (some (.int .i64 0), 1, 8) := by kernel_rfl
theorem listed1 (w : World) (b : Nat) (hb : b < w.heap.size) (hc : w.cell? ⟨b, 0, none⟩ = some (.int .i64 1000000)) : zPO Tryz.prog 249 #[.pointer (some ⟨b, 0, none⟩)] w (fun n => inB n (-1000000) 1000000) := by
 intro x W hbw
 have hc' : W.cell? ⟨b, 0, none⟩ = some (.int .i64 1000000) := (hbw.cell (p := ⟨b, 0, none⟩) hb).trans hc
 go_enter Tryz.func249, Tryz.ntmps249
 go_wp2_with (go_at_call 142; refine (zGZ _ _ _ _).mono ?_; rintro e w1 ⟨rfl, rfl⟩)
 go_ret
 exact ⟨rfl, Below.refl _ _⟩
def zBW (M : Mask) (x : List Int) : Int := if okM M = true then (if x.length = zAB M then (if x.all (fun n => inB n (-1000000) 1000000) = true then 0 else 7) else 9) else 1
def zOU (M : Mask) (x : List Int) : Bool := okM M && decide (x.length = zAB M) && x.all (fun n => inB n (-1000000) 1000000)
theorem okShown_iff (M : Mask) (x : List Int) : (zBW M x == 0) = zOU M x := by
 unfold zBW zOU
 cases okM M <;> simp
 by_cases h : x.length = zAB M <;> simp [h]
 split
 ·rename_i h2; simp; exact h2
 ·rename_i h2; simp; simpa using h2
theorem listed_c (w : World) (a : Option Addr) (n cap : Nat) (M : Mask) (hn : M.length = n) (hm : n <= maxLen) (H : zAK w a M) (a2 : Option Addr) (n2 cap2 : Nat) (x : List Int) (hn2 : x.length = n2) (hm2 : n2 <= maxLen) (H2 : zAH w a2 x)
 (g : Nat) (lb : Array Value) (eg : ∀ args w, (callFunc g args).run Tryz.prog w = .ok (.enter g args) w) (hg : okM M = true -> ∀ W, Below w.heap.size w W -> Calls Tryz.prog g lb W fun e W' => e = .returned (.int .i64 (zAB M)) ∧ W = W') :
 Calls Tryz.prog 214 #[.slice a n cap, .slice a2 n2 cap2, .func (.func g) #[] lb, .int .i64 1000000] w fun e w' => e = .returned (.int .i64 (zBW M x)) ∧ Below w.heap.size w w' := by
 have hb0 : Below w.heap.size w (w.alloc (.cells #[.int .i64 1000000] 3)) := (Below.refl _ _).alloc (Nat.le_refl _) _
 have hmf : ∀ (fn : Fn) (first cap : Array Value) (w : World), (Instr.makeFunc fn first cap).run Tryz.prog w = .ok (.func fn first cap) w := fun _ _ _ _ => rfl
 have HV := hid (zIC (w.alloc (.cells #[.int .i64 1000000] 3)) a n cap M hn hm (H.below hb0))
 have HA := hid (fun (W : World) (hb : Below w.heap.size w W) (hs : w.heap.size < W.heap.size) (hc : W.cell? ⟨w.heap.size, 0, none⟩ = some (.int .i64 1000000)) => allI_c W a2 n2 cap2 x hn2 hm2 (H2.below hb) 249 #[.pointer (some ⟨w.heap.size, 0, none⟩)] _ (enters_of Tryz.func249 (by kernel_rfl) rfl) (listed1 W w.heap.size hs hc))
 have hcell : ∀ W, Below (w.alloc (.cells #[.int .i64 1000000] 3)).heap.size (w.alloc (.cells #[.int .i64 1000000] 3)) W -> w.heap.size < W.heap.size ∧ W.cell? ⟨w.heap.size, 0, none⟩ = some (.int .i64 1000000) := fun W hb => by
  have h1 := hb.size
  simp at h1
  refine ⟨by omega, (hb.cell (p := ⟨w.heap.size, 0, none⟩) (by simp)).trans ?_⟩
  rw [World.cell?_alloc_at _ _ _ _ rfl]; rfl
 have HC := hid hcell
 have HN2 := hid hn2
 have HG := hid hg
 have HB := hid hb0
 clear hn H H2 hcell hg hn2 hb0
 cases hv : okM M
 ·rw [hv] at HV
  have HE := hid hv
  clear hv
  go_enter Tryz.func214, Tryz.ntmps214
  go_wp2_with (go_at_call 79; refine HV.out.mono ?_; rintro e w1 ⟨rfl, hb1⟩)
  go_ret
  exact ⟨zBY (by unfold zBW; rw [HE.out]; simp), zAA HB.out hb1⟩
 ·rw [hv] at HV
  have HE := hid hv
  have HG2 := hid (HG.out hv)
  clear hv HG
  by_cases h : n2 = zAB M
  ·have hd : ((n2 : Int) != (zAB M : Int)) = false := by simp [h]
   have HQ := hid h
   clear h
   cases hx : x.all (fun n => inB n (-1000000) 1000000)
   all_goals
    rw [hx] at HA
    have HX := hid hx
    clear hx
    go_enter Tryz.func214, Tryz.ntmps214
    go_wp2_with (first | (go_at_call 79; refine HV.out.mono ?_; rintro e w1 ⟨rfl, hb1⟩) | (go_at_call 204; refine (HA.out _ (zAA HB.out hb1) (HC.out _ hb1).1 (HC.out _ hb1).2).mono ?_; rintro e w2 ⟨rfl, hb2⟩) | (refine (HG2.out _ (zAA HB.out hb1)).mono ?_; rintro e w3 ⟨rfl, rfl⟩))
    go_ret
    exact ⟨zBY (by unfold zBW; rw [HE.out, if_pos rfl, if_pos (HN2.out.trans HQ.out), HX.out]; simp), zAA (zAA HB.out hb1) hb2⟩
  ·have hd : ((n2 : Int) != (zAB M : Int)) = true := by simp; omega
   have HQ := hid h
   clear h
   go_enter Tryz.func214, Tryz.ntmps214
   go_wp2_with (first | (go_at_call 79; refine HV.out.mono ?_; rintro e w1 ⟨rfl, hb1⟩) | (refine (HG2.out _ (zAA HB.out hb1)).mono ?_; rintro e w3 ⟨rfl, rfl⟩))
   go_ret
   exact ⟨zBY (by unfold zBW; rw [HE.out, if_pos rfl, if_neg (by rw [HN2.out]; exact HQ.out)]), zAA HB.out hb1⟩
theorem okM_len {M : Mask} (h : okM M = true) : 1 <= M.length ∧ M.length <= 6 ∧ 1 <= zAB M ∧ zAB M <= 10 ∧ ∀ l ∈ M, l.length = zAB M ∧ ∀ n ∈ l, -1 <= n ∧ n <= 1 := by
 unfold okM at h
 simp only [Bool.and_eq_true, List.all_eq_true, decide_eq_true_eq] at h
 obtain ⟨h1, h2⟩ := h
 simp [inB] at h1
 have hr : ∀ l ∈ M, l.length = zAB M ∧ (1 <= l.length ∧ l.length <= 10) ∧ ∀ n ∈ l, -1 <= n ∧ n <= 1 := by
  intro l hl
  obtain ⟨e, hrow⟩ := h2 l hl
  unfold zGL at hrow
  simp only [Bool.and_eq_true, List.all_eq_true] at hrow
  refine ⟨e, ?_, fun n hn => ?_⟩
  ·have := hrow.1; simp [inB] at this; omega
  ·have := hrow.2 n hn; simpa [inB] using this
 have h0 : 0 < M.length := by omega
 have hc := hr M[0] (List.getElem_mem h0)
 refine ⟨by omega, by omega, by omega, by omega, fun l hl => ⟨(hr l hl).1, (hr l hl).2.2⟩⟩
theorem shown1 (w : World) (b : Nat) (a : Option Addr) (n cap : Nat) (M : Mask) (hn : M.length = n) (hm : n <= maxLen) (H : zAK w a M) (hb : b < w.heap.size) (hc : w.cell? ⟨b, 0, none⟩ = some (.slice a n cap)) (h0 : 0 < n) (W : World) (hbw : Below w.heap.size w W) :
 Calls Tryz.prog 215 #[.pointer (some ⟨b, 0, none⟩)] W fun e W' => e = .returned (.int .i64 (zAB M)) ∧ W = W' := by
 have hc' : W.cell? ⟨b, 0, none⟩ = some (.slice a n cap) := (hbw.cell (p := ⟨b, 0, none⟩) hb).trans hc
 obtain ⟨b', off, qa, qn, qc, rfl, hbs, hq0, hqn, hqm, hqi⟩ := (H.below hbw) 0 (by omega)
 have HCols : zAB M = qn := by unfold zAB; rw [List.getElem?_eq_getElem (by omega), <- hqn]; rfl
 have HCO := hid HCols
 unfold maxLen at hm
 simp only [Nat.add_zero] at hq0
 clear HCols hqn hqi H hc
 go_enter Tryz.func215, Tryz.ntmps215
 go_wp2
 go_ret
 exact ⟨zBY (by rw [HCO.out]), rfl⟩
theorem mshown_c (w : World) (a : Option Addr) (n cap : Nat) (M : Mask) (hn : M.length = n) (hm : n <= maxLen) (H : zAK w a M) (a2 : Option Addr) (n2 cap2 : Nat) (x : List Int) (hn2 : x.length = n2) (hm2 : n2 <= maxLen) (H2 : zAH w a2 x) :
 Calls Tryz.prog 164 #[.slice a n cap, .slice a2 n2 cap2] w fun e w' => e = .returned (.int .i64 (zBW M x)) ∧ Below w.heap.size w w' := by
 have hb0 : Below w.heap.size w (w.alloc (.cells #[.slice a n cap] 23)) := (Below.refl _ _).alloc (Nat.le_refl _) _
 have hmf : ∀ (fn : Fn) (first cap : Array Value) (w : World), (Instr.makeFunc fn first cap).run Tryz.prog w = .ok (.func fn first cap) w := fun _ _ _ _ => rfl
 have HL := hid (listed_c (w.alloc (.cells #[.slice a n cap] 23)) a n cap M hn hm (H.below hb0) a2 n2 cap2 x hn2 hm2 (H2.below hb0) 215 #[.pointer (some ⟨w.heap.size, 0, none⟩)] (enters_of Tryz.func215 (by kernel_rfl) rfl)
  (fun hk W hb => by
    have := okM_len hk
    exact shown1 _ w.heap.size a n cap M hn hm (H.below hb0) (by simp) (by rw [World.cell?_alloc_at _ _ _ _ rfl]; rfl) (by omega) W hb))
 clear hn H hn2 H2
 go_enter Tryz.func164, Tryz.ntmps164
 go_wp2_with (go_at_call 214; refine HL.out.mono ?_; rintro e w1 ⟨rfl, hb1⟩)
 go_ret
 exact ⟨rfl, zAA hb0 hb1⟩
def dotTo (row x : List Int) : Nat -> Int
 | 0 => 0
 | k + 1 => wrap64 (dotTo row x k + wrap64 (row[k]?.getD 0 * x[k]?.getD 0))
def dotW (row x : List Int) : Int := dotTo row x row.length
theorem times_c (w : World) (a a2 : Option Addr) (n cap n2 cap2 : Nat) (row x : List Int) (hn : row.length = n) (hn2 : x.length = n2) (hle : n <= n2) (hm : n <= maxLen) (H : zAH w a row) (H2 : zAH w a2 x) :
 Calls Tryz.prog 165 #[.slice a n cap, .slice a2 n2 cap2] w fun e w' => e = .returned (.int .i64 (dotW row x)) ∧ w = w' := by
 have HN := hid hn
 have HN2 := hid hn2
 have HH := hid H
 have HH2 := hid H2
 clear hn hn2 H H2
 unfold maxLen at hm
 go_enter Tryz.func165, Tryz.ntmps165
 go_wp2
 go_loop [5, 10] (fun s i => ∃ k : Nat, k <= n ∧ i = .int .i64 k ∧ s = .int .i64 (dotTo row x k)) (fun _ i => n - (intOf i).toNat)
 case atStart => exact ⟨0, Nat.zero_le _, rfl, rfl⟩
 case round =>
  obtain ⟨k, hk, rfl, rfl⟩ := hrel
  by_cases hlt : k < n
  ·obtain ⟨b, off, rfl, _, h1⟩ := HH.out k (by rw [HN.out]; exact hlt)
   obtain ⟨b2, off2, rfl, _, h2⟩ := HH2.out k (by rw [HN2.out]; omega)
   have h3 : k < n2 := by omega
   go_wp2
   go_round
   case rel => exact ⟨k + 1, by omega, by go_num, rfl⟩
   case measure => simp [intOf]; omega
  ·have : k = n := by omega
   subst this
   go_wp2
   go_ret
   refine ⟨zBY ?_, rfl⟩
   unfold dotW; rw [HN.out]
def readM (M : Mask) (x : List Int) : List Int := M.map (fun r => dotW r x)
theorem readM_take (M : Mask) (x : List Int) (k : Nat) (hk : k < M.length) : (readM (M.take (k + 1)) x) = readM (M.take k) x ++ [dotW M[k] x] := by
 unfold readM
 rw [List.take_succ_eq_append_getElem hk, List.map_append]; rfl
theorem one_int (x : Int) : ∀ u ∈ [Value.int .i64 x], u.oneCell' = true := by intro u hu; simp at hu; subst hu; rfl
theorem maskRead_c (w : World) (a : Option Addr) (n cap : Nat) (M : Mask) (hn : M.length = n) (hm : n <= maxLen) (H : zAK w a M) (a2 : Option Addr) (n2 cap2 : Nat) (x : List Int) (hn2 : x.length = n2) (hm2 : n2 <= maxLen) (H2 : zAH w a2 x) (hE : zBW M x = 0) :
 Calls Tryz.prog 104 #[.slice a n cap, .slice a2 n2 cap2] w fun e w' => ∃ v base, e = .returned (.tuple #[v, .int .i64 0]) ∧ w.heap.size <= base ∧ w'.ownsRow base 3 1 v n ((readM M x).map (Value.int .i64)) ∧ Below w.heap.size w w' := by
 have HS := hid (mshown_c w a n cap M hn hm H a2 n2 cap2 x hn2 hm2 H2)
 rw [hE] at HS
 have hok : zOU M x = true := by rw [<- okShown_iff, hE]; rfl
 unfold zOU at hok
 simp only [Bool.and_eq_true, decide_eq_true_eq] at hok
 obtain ⟨⟨hM, hc⟩, _⟩ := hok
 obtain ⟨m1, m6, c1, c10, hrows⟩ := okM_len hM
 have hn6 : n <= 6 := by omega
 have HT := hid (fun (W : World) (hb : Below w.heap.size w W) (ra : Option Addr) (rn rc : Nat) (r : List Int) (hr : r ∈ M) (hrn : r.length = rn) (hri : zAH W ra r) => times_c W ra a2 rn rc n2 cap2 r x hrn hn2 (by have := (hrows r hr).1; omega) (by have := (hrows r hr).1; unfold maxLen; omega) hri (H2.below hb))
 have HN := hid hn
 have HH := hid H
 clear hn H hn2 H2 hrows hE hM hc m1 m6 c1 c10
 go_enter Tryz.func104, Tryz.ntmps104
 go_wp2_with (go_at_call 164; refine HS.out.mono ?_; rintro e w1 ⟨rfl, hb1⟩)
 go_loopw [7, 18] (fun v i wr => ∃ k : Nat, k <= n ∧ i = .int .i64 k ∧ wr.ownsRow w1.heap.size 3 1 v k ((readM (M.take k) x).map (Value.int .i64)) ∧ Below w1.heap.size w1 wr) (fun _ i _ => n - (intOf i).toNat)
 case atStart => exact ⟨0, Nat.zero_le _, rfl, World.ownsRow_nil _ _ _ _, Below.refl _ _⟩
 case round =>
  obtain ⟨k, hk, rfl, hown, hbk⟩ := hrel
  by_cases hlt : k < n
  ·have hkM : k < M.length := by rw [HN.out]; exact hlt
   have hbw := zAA hb1 hbk
   obtain ⟨b, off, ra, rn, rc, rfl, hbs, hq0, hrn, hrm, hri⟩ := (HH.out.below hbw) k hkM
   have HT1 := hid (HT.out wr hbw ra rn rc M[k] (List.getElem_mem hkM) hrn hri)
   obtain ⟨D, hD⟩ := exq (dotW M[k] x)
   rw [<- hD] at HT1
   have htk := readM_take M x k hkM
   rw [<- hD] at htk
   have HTK := hid htk
   obtain ⟨va, vc, rfl⟩ := zAC hown
   have HO := hid hown
   have M1 := hid (show k + 1 <= maxLen by unfold maxLen; omega)
   have M2 := hid (show (k + 1) * 8 <= 140737488355328 by omega)
   have M3 := hid (Nat.le_trans hbk.size (zBL wr (.cells #[.int .i64 D] 3)))
   clear hown htk hD hrn hri hkM
   go_wp2_with (first | (go_at_call 165; refine HT1.out.mono ?_; rintro e w2 ⟨rfl, rfl⟩) | (at_builtin; refine zAJ _ rfl (.tmp 22) (.tmp 26) 24 rfl w1.heap.size 3 (.int .i64 0) 1 8 Tryz.underlying24 info_int rfl Nat.one_pos (.slice va k vc) k _ rfl (HO.out.alloc _) (some ⟨wr.heap.size, 0, none⟩) 1 1 [.int .i64 D] rfl rfl zBN (zBH wr _ _) (one_int _) M1.out M2.out M3.out ?_; refine Stop.of ?_))
   refine Stop.go ?_
   intro a3 c3 w3 own3 g3
   have hB3 : Below w1.heap.size w1 w3 := (hbk.alloc hbk.size _).grown g3 (Nat.le_trans hbk.size (zBL _ _)) (fun k hk => (HO.out.lt k hk).1)
   go_wp2
   refine ⟨⟨k + 1, by omega, by go_num, ?_, hB3⟩, by simp [intOf]; omega⟩
   rw [HTK.out]
   simpa using own3
  ·obtain rfl : k = n := by omega
   go_wp2
   go_ret2
   refine ⟨_, w1.heap.size, rfl, hb1.size, ?_, zAA hb1 hbk⟩
   rw [<- HN.out, List.take_length] at hown
   rw [HN.out] at hown
   exact hown
end
section
open Go.RowKit
theorem dotTo_sm {row x : List Int} (h1 : BndL 67108864 row) (h2 : BndL 67108864 x) : ∀ k : Nat, k <= 1000 -> dotTo row x k = sm (fun c => vec row c * vec x c) k
 | 0, _ => by simp [dotTo, sm]
 | k + 1, hk => by
   have ih := dotTo_sm h1 h2 k (by omega)
   have hb := dot_le h1 h2 (k + 1)
   have hb0 := dot_le h1 h2 k
   simp only [dotTo, sm] at hb ⊢
   rw [ih]
   have e1 : row[k]?.getD 0 = vec row k := rfl
   have e2 : x[k]?.getD 0 = vec x k := rfl
   rw [e1, e2]
   have hp : (vec row k * vec x k).natAbs <= 4503599627370496 + 4503599627370496 * 1001 + 4503599627370496 * 1001 := by omega
   have hw : wrap64 (vec row k * vec x k) = vec row k * vec x k := by unfold wrap64; omega
   rw [hw]
   unfold wrap64; omega
theorem dotW_dotV {row x : List Int} (h1 : BndL 67108864 row) (h2 : BndL 67108864 x) (hl : row.length <= 1000) : dotW row x = dotV row x := dotTo_sm h1 h2 _ hl
end
section
open Go.RowKit
theorem readM_V {M : Mask} {x : List Int} (hM : okM M = true) (hx : BndL 67108864 x) : readM M x = zDH M x := by
 obtain ⟨h, _, _, _, h10⟩ := zCP hM
 unfold readM zDH
 apply List.map_congr_left
 intro r hr
 refine dotW_dotV (fun v hv => ?_) hx (by rw [h.wid r hr]; omega)
 obtain ⟨i, hi, rfl⟩ := List.getElem_of_mem hv
 have := h.one r hr i
 rw [zCS hi] at this
 omega
end
section
open Go.RowKit
theorem AnyT.next2 {P : Program} {md : Region.Mode} {ops : Array Oper} {Q : Exit -> Act -> World -> Prop} {T : Nat -> World -> Prop} {i j : Nat} {fuel : Nat} {listed : Array Bool} {a : Act} {w : World} (hr : Region.ready md ops listed = [i, j])
 (h1 : wpOp P ops Q i (fun a' w' => T i w' ∧ AnyT P md ops Q T fuel (listed.setIfInBounds i true) a' w') a w)
 (h2 : wpOp P ops Q j (fun a' w' => T j w' ∧ AnyT P md ops Q T fuel (listed.setIfInBounds j true) a' w') a w) : AnyT P md ops Q T (fuel + 1) listed a w :=
 ⟨fun h0 => (by rw [hr] at h0; cases h0), fun k hk => by
   rw [hr] at hk
   have : k = i ∨ k = j := by simpa using hk
   rcases this with rfl | rfl
   ·exact h1
   ·exact h2⟩
theorem news2 (w : World) (x0 x1 : Value) (T : TypeId) : ∀ ad, (some ⟨w.heap.size, 0, none⟩ : Option Addr) = some ad -> ∀ j u, [x0, x1][j]? = some u -> (w.alloc (.cells #[x0, x1] T)).cell? (ad.add j) = some u := by
 intro ad e j u hu
 cases e
 match j, hu with
 | 0, hu => rw [Addr.add_lit, World.cell?_alloc_at _ _ _ _ rfl]; simpa using hu
 | 1, hu => rw [Addr.add_lit, World.cell?_alloc_at _ _ _ _ rfl]; simpa using hu
theorem set2_block {w : World} {b : Nat} {a0 a1 v0 v1 : Value} {T : TypeId} (h : w.heap[b]? = some (.cells #[a0, a1] T (0, 0))) : ((w.setCell ⟨b, 0, none⟩ v0).setCell ⟨b, 1, none⟩ v1).heap[b]? = some (.cells #[v0, v1] T (0, 0)) := by
 rw [zAR (zAR h 0 v0) 1 v1]; rfl
theorem zHV {w : World} {b : Nat} {a0 a1 : Value} {T : TypeId} (h : w.heap[b]? = some (.cells #[a0, a1] T (0, 0))) :
 w.cell? ⟨b, 0, none⟩ = some a0 ∧ w.cell? ⟨b, 1, none⟩ = some a1 ∧ w.frozen? ⟨b, 0, none⟩ = false ∧ w.frozen? ⟨b, 1, none⟩ = false ∧ b < w.heap.size :=
 ⟨by simp [World.cell?, h], by simp [World.cell?, h], by simp [World.frozen?, h], by simp [World.frozen?, h], (Array.getElem?_eq_some_iff.1 h).1⟩
theorem zOT {w : World} {base : Nat} {T : TypeId} {k n : Nat} {v : Value} {xs : List Value} (h : w.ownsRow base T k v n xs) {b o : Nat} (u : Value) (hne : ∀ g, v.ownBlock = some g -> g ≠ b) : (w.setCell ⟨b, o, none⟩ u).ownsRow base T k v n xs := by
 refine ⟨h.1, ?_⟩
 rcases h.2 with hn | ⟨g, cap, cur, rfl, hbg, hgg, rest⟩
 ·exact .inl hn
 ·exact .inr ⟨g, cap, cur, rfl, hbg, (Below.heap_setCell _ _ _ _ (hne g rfl)).trans hgg, rest⟩
end
section
open Go.RowKit
theorem news_ints {wr X : World} {xa : Option Addr} {x : List Int} (hxi : zAH wr xa x) (hX : Below wr.heap.size wr X) : ∀ ad, xa = some ad -> ∀ j u, (x.map (Value.int .i64))[j]? = some u -> X.cell? (ad.add j) = some u := by
 intro ad e j u hu
 rw [List.getElem?_map] at hu
 obtain ⟨v, hv, rfl⟩ := Option.map_eq_some_iff.1 hu
 obtain ⟨hjl, e2⟩ := List.getElem?_eq_some_iff.1 hv
 obtain ⟨b, off, ea, hb, hc⟩ := hxi j hjl
 rw [e] at ea
 cases ea
 rw [Addr.add_lit]
 refine (hX.cell (p := ⟨b, off + j, none⟩) hb).trans ?_
 rw [hc, hv]; rfl
end
end Go.Proofs.YtlffndehhhpgjaaGreat
