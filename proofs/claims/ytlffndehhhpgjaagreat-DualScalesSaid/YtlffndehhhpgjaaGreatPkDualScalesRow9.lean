/- Walks and plain laws for DualScalesRow, part 9. -/
import Derived.Lib.SliceRun
import Derived.Test.YtlffndehhhpgjaaGreatPkDualScalesRow8
namespace Go.Proofs.YtlffndehhhpgjaaGreat
open Go.RowKit
set_option linter.unusedVariables false
set_option linter.unusedSimpArgs false

def PredQ (P : Program) (g : Nat) (lb : Array Value) (w : World) (p : Rt → Bool) : Prop :=
  ∀ (r : Rt) (W : World), Below w.heap.size w W → Calls P g (#[ratV r] ++ lb) W fun e W' => e = .returned (.bool (p r)) ∧ Below W.heap.size W W'

theorem indexQ (w : World) (a : Option Addr) (n cap : Nat) (l : List Rt) (hn : l.length = n) (hm : n ≤ maxLen) (H : RatsAt w a l) (g : Nat) (lb : Array Value) (p : Rt → Bool) (hp : PredQ Tryz.prog g lb w p) (eg : ∀ args w, (callFunc g args).run Tryz.prog w = .ok (.enter g args) w) :
    Calls Tryz.prog 146 #[.slice a n cap, .func (.func g) #[] lb] w fun e w' => e = .returned (.int .i64 (idxP p l 0)) ∧ Below w.heap.size w w' := by
  have HN := hid hn
  have HH := hid H
  have HP := hid hp
  clear hn H hp
  unfold maxLen at hm
  go_enter Tryz.func146, Tryz.ntmps146
  go_wp2
  go_loopw [8] (fun i wr => ∃ k : Nat, k ≤ n ∧ i = .int .i64 k ∧ Below w.heap.size w wr ∧ ∀ i y, i < k → l[i]? = some y → p y = false) (fun i _ => n - (intOf i).toNat)
  case atStart => exact ⟨0, Nat.zero_le _, rfl, Below.refl _ _, fun i y h => by omega⟩
  case round =>
    obtain ⟨k, hk, rfl, hb, hno⟩ := hrel
    have HNO := hid hno
    clear hno
    by_cases hlt : k < n
    · have hkl : k < l.length := by rw [HN.out]; exact hlt
      obtain ⟨b, off, rfl, hbs, h0, h1⟩ := (HH.out.below hb) k hkl
      have HK := hid (List.getElem?_eq_getElem hkl)
      obtain ⟨⟨r1, r2⟩, hr⟩ : ∃ r, r = l[k]'hkl := ⟨_, rfl⟩
      rw [← hr] at h0 h1 HK
      simp only [] at h0 h1
      have HC := hid (HP.out (r1, r2) wr hb)
      obtain ⟨B, hB⟩ : ∃ B, B = p (r1, r2) := ⟨_, rfl⟩
      rw [← hB] at HC
      have HBB := hid hB.symm
      clear hr hB hkl
      go_wp2_with (refine HC.out.mono ?_; rintro e w1 ⟨rfl, hb1⟩; refine Stop.of ?_)
      refine Stop.go ?_
      cases B
      · go_wp2
        refine ⟨⟨k + 1, by omega, by go_num, chain hb hb1, ?_⟩, by simp [intOf]; omega⟩
        intro i y hi hy
        by_cases e : i = k
        · subst e; rw [HK.out] at hy; cases hy; exact HBB.out
        · exact HNO.out i y (by omega) hy
      · go_wp2
        go_ret
        refine ⟨ret_int ?_, chain hb hb1⟩
        rw [idxP_at p l 0 k _ HK.out HBB.out HNO.out]; simp
    · go_wp2
      go_ret
      refine ⟨ret_int ?_, hb⟩
      rw [idxP_neg]
      intro x hx
      obtain ⟨i, hi, e⟩ := List.getElem_of_mem hx
      exact HNO.out i x (by have := HN.out; omega) (by rw [List.getElem?_eq_getElem hi, e])

theorem containsQ (w : World) (a : Option Addr) (n cap : Nat) (l : List Rt) (hn : l.length = n) (hm : n ≤ maxLen) (H : RatsAt w a l) (g : Nat) (lb : Array Value) (p : Rt → Bool) (hp : PredQ Tryz.prog g lb w p) (eg : ∀ args w, (callFunc g args).run Tryz.prog w = .ok (.enter g args) w) :
    Calls Tryz.prog 80 #[.slice a n cap, .func (.func g) #[] lb] w fun e w' => e = .returned (.bool (l.any p)) ∧ Below w.heap.size w w' := by
  have HC := hid (indexQ w a n cap l hn hm H g lb p hp eg)
  have HG' := hid (idxP_ge p l 0)
  clear hn H hp
  go_enter Tryz.func80, Tryz.ntmps80
  go_wp2_with (refine HC.out.mono ?_; rintro e w1 ⟨rfl, hb1⟩)
  go_ret
  refine ⟨ret_bool ?_, hb1⟩
  rw [Bool.eq_iff_iff, decide_eq_true_iff, HG'.out]

theorem fit1 (w : World) : PredQ Tryz.prog 263 #[] w (fun r => decide (r.1 = 0)) := by
  rintro ⟨r1, r2⟩ W hb
  have hbz : Below W.heap.size W (W.alloc (.cells #[.int .i64 r1, .int .i64 r2] 29)) := (Below.refl _ _).alloc (Nat.le_refl _) _
  simp only [ratV]
  go_enter Tryz.func263, Tryz.ntmps263
  go_wp2
  go_ret
  exact ⟨ret_bool (by rw [Bool.eq_iff_iff]; simp), hbz⟩

theorem qpixels_c (w : World) (a a2 : Option Addr) (n cap n2 cap2 : Nat) (M : Mask) (hn : M.length = n) (h1 : 1 ≤ n) (H : RowsAt w a M) :
    Calls Tryz.prog 255 #[.agg #[.slice a n cap, .slice a2 n2 cap2]] w fun e w' => e = .returned (.int .i64 (colsM M)) ∧ Below w.heap.size w w' := by
  obtain ⟨b, off, ra, rc, rfl, hb, hc⟩ := rows_head H (by omega)
  have hbz : Below w.heap.size w (w.alloc (.cells #[.slice (some ⟨b, off, none⟩) n cap, .slice a2 n2 cap2] 216)) := (Below.refl _ _).alloc (Nat.le_refl _) _
  have hcz := (hbz.cell (p := ⟨b, off, none⟩) hb).trans hc
  have i0 : (0 : Int) < (n : Int) := by omega
  obtain ⟨W, hW⟩ : ∃ W, W = colsM M := ⟨_, rfl⟩
  rw [← hW] at hcz ⊢
  have HB := hid hbz
  clear hbz hc hb hn H hW
  go_enter Tryz.func255, Tryz.ntmps255
  go_wp2
  go_ret
  exact ⟨rfl, HB.out⟩

def FitV (lo : Nat) (S : Nat → Prop) (f : FitT) (v : Value) (W : World) : Prop :=
  ∃ pa pn pc va vn vc, v = .agg #[.slice pa pn pc, .slice va vn vc] ∧ f.1.length = pn ∧ f.2.length = vn ∧ pn ≤ maxLen ∧ vn ≤ maxLen ∧ IntsAt W pa f.1 ∧ RatsAt W va f.2 ∧
    (∀ b o, pa = some ⟨b, o, none⟩ → lo ≤ b ∧ b < W.heap.size ∧ ¬ S b ∧ ∃ c z, W.heap[b]? = some (.cells c 3 z)) ∧ (∀ b o, va = some ⟨b, o, none⟩ → lo ≤ b ∧ b < W.heap.size ∧ ¬ S b ∧ ∃ c z, W.heap[b]? = some (.cells c 29 z))

def FitPost (o : Option FitT) (lo : Nat) (e : Ending) (w' : World) : Prop :=
  (o = none ∧ e = .returned (.tuple #[.agg #[.slice none 0 0, .slice none 0 0], .bool false])) ∨ (∃ f v, o = some f ∧ e = .returned (.tuple #[v, .bool true]) ∧ FitV lo (fun _ => False) f v w')

theorem own_block {w : World} {base : Nat} {T : TypeId} {k n : Nat} {a : Option Addr} {c : Nat} {xs : List Value} (h : w.ownsRow base T k (.slice a n c) n xs) : ∀ b o, a = some ⟨b, o, none⟩ → base ≤ b ∧ b < w.heap.size := by
  rintro b o rfl
  rcases h.2 with ⟨h1, _⟩ | ⟨g, cap, cur, h1, hbg, hgg, _⟩
  · cases h1
  · cases h1; exact ⟨hbg, (Array.getElem?_eq_some_iff.1 hgg).1⟩

theorem own_typed {w : World} {base : Nat} {T : TypeId} {k n : Nat} {a : Option Addr} {c : Nat} {xs : List Value} (h : w.ownsRow base T k (.slice a n c) n xs) : ∀ b o, a = some ⟨b, o, none⟩ → ∃ c z, w.heap[b]? = some (.cells c T z) := by
  rintro b o rfl
  rcases h.2 with ⟨h1, _⟩ | ⟨g, cap, cur, h1, hbg, hgg, _⟩
  · cases h1
  · cases h1; exact ⟨_, _, hgg⟩

set_option maxRecDepth 100000 in
set_option maxHeartbeats 2000000 in
theorem fit_c (w : World) (a a2 a3 : Option Addr) (n cap n2 cap2 n3 cap3 : Nat) (M : Mask) (y S : List Int) (hn : M.length = n) (hn2 : y.length = n2) (hn3 : S.length = n3) (hm : n ≤ maxLen) (hm2 : n2 ≤ maxLen) (hm3 : n3 ≤ 1000) (H : RowsAt w a M) (H2 : IntsAt w a2 y) (H3 : IntsAt w a3 S) :
    Calls Tryz.prog 256 #[.agg #[.slice a n cap, .slice a2 n2 cap2], .slice a3 n3 cap3] w fun e w' => FitPost (fitF M y S) w.heap.size e w' ∧ Below w.heap.size w w' := by
  obtain ⟨wz, hwz⟩ : ∃ wz, wz = (w.alloc (.cells #[.slice a n cap, .slice a2 n2 cap2] 216)).alloc (.cells #[.slice none 0 0, .slice none 0 0] 73) := ⟨_, rfl⟩
  obtain ⟨s0, hs⟩ : ∃ s, s = w.heap.size := ⟨_, rfl⟩
  have hbz : Below w.heap.size w wz := by rw [hwz]; exact ((Below.refl _ _).alloc (Nat.le_refl _) _).alloc (by simp) _
  have l0 : wz.cell? ⟨s0, 0, none⟩ = some (.slice a n cap) := by rw [hwz, hs, World.cell?_alloc_past _ _ _ (by simp), World.cell?_alloc_at _ _ _ _ rfl]; rfl
  have l1 : wz.cell? ⟨s0, 1, none⟩ = some (.slice a2 n2 cap2) := by rw [hwz, hs, World.cell?_alloc_past _ _ _ (by simp), World.cell?_alloc_at _ _ _ _ rfl]; rfl
  have q0 : wz.heap[s0 + 1]? = some (.cells #[.slice none 0 0, .slice none 0 0] 73 (0, 0)) := by
    have := World.alloc_heap_new (w.alloc (.cells #[.slice a n cap, .slice a2 n2 cap2] 216)) (.cells #[.slice none 0 0, .slice none 0 0] 73)
    rw [hwz, hs]; simpa using this
  have hs1 : s0 + 1 < wz.heap.size := (Array.getElem?_eq_some_iff.1 q0).1
  have HSO := hid (solve_c wz a a3 a2 n cap n3 cap3 n2 cap2 M S y hn hn3 hn2 hm (Nat.le_trans hm3 (by decide)) hm2 (H.below hbz) (H3.below hbz) (H2.below hbz))
  have HCL := hid (fun (X : World) (hX : Below w.heap.size w X) => clone_c X a3 n3 cap3 S hn3 (by omega) (H3.below hX))
  have HFC := hid (fun (X : World) (va : Option Addr) (vc : Nat) (vl : List Rt) (hvm : vl.length ≤ maxLen) (hv : RatsAt X va vl) => containsQ X va vl.length vc vl rfl hvm hv _ #[] _ (fit1 X) (enters_of Tryz.func263 (by kernel_rfl) rfl))
  have HFF := hid (show fitF M y S = if (solveV M S y).2 = 0 ∧ (solveV M S y).1.all (fun r => decide (r.1 ≠ 0)) = true then some (S, (solveV M S y).1) else none from rfl)
  obtain ⟨F, hF⟩ : ∃ F, F = fitF M y S := ⟨_, rfl⟩
  obtain ⟨⟨V, E⟩, hVE⟩ : ∃ V, V = solveV M S y := ⟨_, rfl⟩
  rw [← hVE] at HSO HFF
  rw [← hF] at HFF ⊢
  simp only [] at HSO HFF
  have HB := hid hbz
  have HQ := hid (fun (X : World) (hX : Below wz.heap.size wz X) => (hX.block _ hs1).trans q0)
  have HS := hid hs
  have HN3 := hid hn3
  have hs1' := hid hs1
  clear hbz hn hn2 hn3 H H2 H3 hF hVE q0 hs1
  go_enter Tryz.func256, Tryz.ntmps256
  go_wp2_with fail
  rw [← hs, ← hwz]
  clear hs hwz
  go_wp2_with (go_at_call 262; refine HSO.out.mono ?_; rintro e w1 ⟨v, base, rfl, hbs, hO, hb1⟩; refine Stop.of ?_)
  refine Stop.go ?_
  obtain ⟨va, vc, rfl, hvm, hvr⟩ := hO.reads
  have HVB := hid (own_block hO)
  have HVT := hid (own_typed hO)
  have HVR := hid hvr
  have HVM := hid hvm
  have HB1 := hid hb1
  have HBS := hid hbs
  clear hO hvr hvm hb1 hbs HSO l0 l1
  have hz : ∀ X : World, Below wz.heap.size wz X → X.cell? ⟨s0 + 1, 0, none⟩ = some (.slice none 0 0) ∧ X.cell? ⟨s0 + 1, 1, none⟩ = some (.slice none 0 0) ∧ X.frozen? ⟨s0 + 1, 0, none⟩ = false ∧ X.frozen? ⟨s0 + 1, 1, none⟩ = false ∧ s0 + 1 < X.heap.size := fun X hX => by
    have h := HQ.out X hX
    exact ⟨by simp [World.cell?, h], by simp [World.cell?, h], by simp [World.frozen?, h], by simp [World.frozen?, h], (Array.getElem?_eq_some_iff.1 h).1⟩
  have HZ := hid hz
  clear hz
  by_cases hE : E = 0
  rotate_left
  · obtain rfl : F = none := by rw [HFF.out, if_neg (fun h => hE h.1)]
    have hEb : (E != 0) = true := by simpa using hE
    obtain ⟨z0, z1, f0, f1, hlt⟩ := HZ.out _ HB1.out
    have HFI := hid (show Below w.heap.size w ((w1.setCell ⟨s0 + 1, 0, none⟩ (.slice none 0 0)).setCell ⟨s0 + 1, 1, none⟩ (.slice none 0 0)) from by
      have hg : w.heap.size ≤ s0 + 1 := by rw [HS.out]; omega
      exact below_set (below_set (chain HB.out HB1.out) hg _ _) hg _ _)
    go_wp2
    refine bodyPost_ret (v := .tuple #[.agg #[.slice none 0 0, .slice none 0 0], .bool false]) ?_ rfl ⟨.inl ⟨rfl, rfl⟩, HFI.out⟩
    simp [results, Tryz.results256, go_sem, z0, z1, f0, f1, hlt]
  · subst hE
    have HFC1 := hid (HFC.out w1 va vc V HVM.out HVR.out)
    have hany : V.any (fun r => decide (r.1 = 0)) = !V.all (fun r => decide (r.1 ≠ 0)) := by
      rw [List.not_all_eq_any_not]; congr 1; funext r; simp
    rw [hany] at HFC1
    obtain ⟨A, hA⟩ : ∃ A, A = V.all (fun r => decide (r.1 ≠ 0)) := ⟨_, rfl⟩
    rw [← hA] at HFC1 HFF
    clear hA hany HFC
    go_wp2_with (go_at_call 80; refine HFC1.out.mono ?_; rintro e w2 ⟨rfl, hb2⟩; refine Stop.of ?_)
    refine Stop.go ?_
    have HB2 := hid (chain HB1.out hb2)
    have HVR2 := hid (HVR.out.below hb2)
    have HVT2 := hid (fun (b o : Nat) (h : va = some ⟨b, o, none⟩) => show ∃ c z, w2.heap[b]? = some (.cells c 29 z) from by obtain ⟨c, z, hh⟩ := HVT.out b o h; exact ⟨c, z, (hb2.block b (HVB.out b o h).2).trans hh⟩)
    have HVB2 := hid (fun b o h => show base ≤ b ∧ b < w2.heap.size from by have := HVB.out b o h; have := hb2.size; omega)
    clear hb2 HFC1
    cases A
    · obtain rfl : F = none := by rw [HFF.out]; rfl
      obtain ⟨z0, z1, f0, f1, hlt⟩ := HZ.out _ HB2.out
      have HFI := hid (show Below w.heap.size w ((w2.setCell ⟨s0 + 1, 0, none⟩ (.slice none 0 0)).setCell ⟨s0 + 1, 1, none⟩ (.slice none 0 0)) from by
        have hg : w.heap.size ≤ s0 + 1 := by rw [HS.out]; omega
        exact below_set (below_set (chain HB.out HB2.out) hg _ _) hg _ _)
      go_wp2
      refine bodyPost_ret (v := .tuple #[.agg #[.slice none 0 0, .slice none 0 0], .bool false]) ?_ rfl ⟨.inl ⟨rfl, rfl⟩, HFI.out⟩
      simp [results, Tryz.results256, go_sem, z0, z1, f0, f1, hlt]
    · obtain rfl : F = some (S, V) := by rw [HFF.out]; rfl
      go_wp2_with (go_at_call 231; refine (HCL.out _ (chain HB.out HB2.out)).mono ?_; rintro e w3 ⟨v3, rfl, ho3, hb3⟩; refine Stop.of ?_)
      refine Stop.go ?_
      obtain ⟨pa, pc, rfl, hpi, _⟩ := ints_of_own ho3 HN3.out
      have HB3 := hid (chain HB2.out hb3)
      obtain ⟨z0, z1, f0, f1, hlt⟩ := HZ.out _ HB3.out
      have hgS : w.heap.size ≤ s0 + 1 := by rw [HS.out]; omega
      have HFI := hid (show Below w.heap.size w ((w3.setCell ⟨s0 + 1, 0, none⟩ (.slice pa n3 pc)).setCell ⟨s0 + 1, 1, none⟩ (.slice va V.length vc)) from below_set (below_set (chain HB.out HB3.out) hgS _ _) hgS _ _)
      have hpb := own_block ho3
      have hpt := own_typed ho3
      have hbz2 : s0 + 1 < w2.heap.size := by have := HB2.out.size; have := hs1'.out; omega
      have hsz : w.heap.size ≤ w2.heap.size := Nat.le_trans HB.out.size HB2.out.size
      have hbs : wz.heap.size ≤ base := HBS.out
      have HFV := hid (show FitV w.heap.size (fun _ => False) (S, V) (.agg #[.slice pa n3 pc, .slice va V.length vc]) ((w3.setCell ⟨s0 + 1, 0, none⟩ (.slice pa n3 pc)).setCell ⟨s0 + 1, 1, none⟩ (.slice va V.length vc)) from by
        have hkeep : ∀ k, k ≠ s0 + 1 → ((w3.setCell ⟨s0 + 1, 0, none⟩ (.slice pa n3 pc)).setCell ⟨s0 + 1, 1, none⟩ (.slice va V.length vc)).heap[k]? = w3.heap[k]? := fun k hk => (Below.heap_setCell _ _ _ _ hk).trans (Below.heap_setCell _ _ _ _ hk)
        refine ⟨pa, n3, pc, va, V.length, vc, rfl, HN3.out, rfl, Nat.le_trans hm3 (by decide), HVM.out, ?_, ?_, ?_, ?_⟩
        · intro j hj
          obtain ⟨b, o, e, hb, hc⟩ := hpi j hj
          have := hpb b o e
          refine ⟨b, o, e, by simp [World.setCell]; omega, ?_⟩
          rw [World.cell?_of_block (hkeep b (by omega))]; exact hc
        · intro j hj
          obtain ⟨b, o, e, hb, h0, h1⟩ := (HVR2.out.below hb3) j hj
          have := HVB2.out b o e
          have hs2 := hs1'.out
          refine ⟨b, o, e, by simp [World.setCell]; omega, ?_, ?_⟩
          · rw [World.cell?_of_block (hkeep b (by omega))]; exact h0
          · rw [World.cell?_of_block (hkeep b (by omega))]; exact h1
        · intro b o e
          have := hpb b o e
          exact ⟨by omega, by simp [World.setCell]; omega, fun h => h, by obtain ⟨c, z, hh⟩ := hpt b o e; exact ⟨c, z, (hkeep b (by omega)).trans hh⟩⟩
        · intro b o e
          have := HVB2.out b o e
          have hvt := HVT2.out b o e
          have hs2 := hs1'.out
          have h3z := hb3.size
          exact ⟨by have := HB.out.size; omega, by simp [World.setCell]; omega, fun h => h, by obtain ⟨c, z, hh⟩ := hvt; exact ⟨c, z, (hkeep b (by omega)).trans ((hb3.block b this.2).trans hh)⟩⟩)
      clear ho3 hpi hb3 hpb hpt HVR HVR2 HCL
      go_wp2
      refine bodyPost_ret (v := .tuple #[.agg #[.slice pa n3 pc, .slice va V.length vc], .bool true]) ?_ rfl ⟨.inr ⟨_, _, rfl, rfl, HFV.out⟩, HFI.out⟩
      simp [results, Tryz.results256, go_sem, z0, z1, f0, f1, hlt]
end Go.Proofs.YtlffndehhhpgjaaGreat

namespace Go.Proofs.YtlffndehhhpgjaaGreat
open Go.RowKit
set_option linter.unusedVariables false
set_option linter.unusedSimpArgs false

theorem dinvalid_c (w : World) (N D : Int) : Calls Tryz.prog 81 #[.agg #[.int .i64 N, .int .i64 D]] w fun e w' => e = .returned (.bool (!validR (N, D))) ∧ Below w.heap.size w w' := by
  obtain ⟨wz, hwz⟩ : ∃ wz, wz = w.alloc (.cells #[.int .i64 N, .int .i64 D] 29) := ⟨_, rfl⟩
  have HB := hid (show Below w.heap.size w wz by rw [hwz]; exact (Below.refl _ _).alloc (Nat.le_refl _) _)
  have l0 : wz.cell? ⟨w.heap.size, 0, none⟩ = some (.int .i64 N) := by rw [hwz, World.cell?_alloc_at _ _ _ _ rfl]; rfl
  have l1 : wz.cell? ⟨w.heap.size, 1, none⟩ = some (.int .i64 D) := by rw [hwz, World.cell?_alloc_at _ _ _ _ rfl]; rfl
  have HV := hid (fvalid_c wz N D)
  obtain ⟨b, hb⟩ : ∃ b, b = validR (N, D) := ⟨_, rfl⟩
  rw [← hb] at HV ⊢
  clear hb
  go_enter Tryz.func81, Tryz.ntmps81
  go_wp2_with fail
  rw [← hwz]
  clear hwz
  go_wp2_with (go_at_call 147; refine HV.out.mono ?_; rintro e w2 ⟨rfl, hb2⟩; refine Stop.of ?_)
  refine Stop.go ?_
  go_wp2
  go_ret
  exact ⟨rfl, chain HB.out hb2⟩
theorem any_inv (x : List Rt) : x.any (fun r => !validR r) = !x.all validR := by
  induction x with
  | nil => rfl
  | cons r x ih => rw [List.any_cons, List.all_cons, ih, Bool.not_and]
theorem dcontains_c (w : World) (a : Option Addr) (n cap : Nat) (x : List Rt) (hn : x.length = n) (hm : n ≤ maxLen) (H : RatsAt w a x) :
    Calls Tryz.prog 80 #[.slice a n cap, .func (.func 81) #[] #[]] w fun e w' => e = .returned (.bool (!x.all validR)) ∧ Below w.heap.size w w' := by
  have h := containsQ w a n cap x hn hm H 81 #[] (fun r => !validR r) (fun r W hW => dinvalid_c W r.1 r.2) (enters_of Tryz.func81 (by kernel_rfl) rfl)
  rw [any_inv] at h; exact h

def provesB (M : Mask) (Y : List Int) (p x : List Rt) : Bool :=
  makesB M p Y && (decide (x.length = M.length) && (x.all validR && (seesB M x && decide ((sumP (vec Y) x M.length).1 * (nrmQ p).2 = (nrmQ p).1 * (sumP (vec Y) x M.length).2))))

set_option maxRecDepth 100000 in
set_option maxHeartbeats 8000000 in
theorem dproves_c (w : World) (a a3 pa xa : Option Addr) (n cap n3 cap3 pn pc xn xc : Nat) (M : Mask) (Y : List Int) (p x : List Rt) (hn : M.length = n) (hn3 : Y.length = n3) (hpn : p.length = pn) (hxn : x.length = xn) (hm : n ≤ maxLen) (hm3 : n3 ≤ maxLen) (hmp : pn ≤ maxLen) (hmx : xn ≤ maxLen)
    (H : RowsAt w a M) (H3 : IntsAt w a3 Y) (HP : RatsAt w pa p) (HXx : RatsAt w xa x) :
    Calls Tryz.prog 61 #[.slice a n cap, .slice a3 n3 cap3, .agg #[.slice pa pn pc, .slice xa xn xc]] w fun e w' => e = .returned (.bool (provesB M Y p x)) ∧ Below w.heap.size w w' := by
  obtain ⟨pb, hpb⟩ : ∃ pb, pb = w.heap.size := ⟨_, rfl⟩
  obtain ⟨wz, hwz⟩ : ∃ wz, wz = w.alloc (.cells #[.slice pa pn pc, .slice xa xn xc] 78) := ⟨_, rfl⟩
  have hbz : Below w.heap.size w wz := by rw [hwz]; exact (Below.refl _ _).alloc (Nat.le_refl _) _
  have hl0 : wz.cell? ⟨pb, 0, none⟩ = some (.slice pa pn pc) := by rw [hwz, hpb, World.cell?_alloc_at _ _ _ _ rfl]; rfl
  have hl1 : wz.cell? ⟨pb, 1, none⟩ = some (.slice xa xn xc) := by rw [hwz, hpb, World.cell?_alloc_at _ _ _ _ rfl]; rfl
  have hpl : pb < wz.heap.size := by rw [hwz, hpb]; simp
  have HPZ := hid (fun (X : World) (hX : Below wz.heap.size wz X) => show X.cell? ⟨pb, 0, none⟩ = some (.slice pa pn pc) ∧ X.cell? ⟨pb, 1, none⟩ = some (.slice xa xn xc) from ⟨(hX.cell (p := ⟨pb, 0, none⟩) hpl).trans hl0, (hX.cell (p := ⟨pb, 1, none⟩) hpl).trans hl1⟩)
  have HMK := hid (lmakes_c wz a pa a3 n cap pn pc n3 cap3 M p Y hn hpn hn3 hm hmp hm3 (H.below hbz) (HP.below hbz) (H3.below hbz))
  have HCN := hid (fun (X : World) (hX : Below w.heap.size w X) => dcontains_c X xa xn xc x hxn hmx (HXx.below hX))
  have HBZ := hid hbz
  have HWZ := hid hwz
  by_cases c1 : makesB M p Y = true
  rotate_left
  · have c1' : makesB M p Y = false := by simpa using c1
    have HNO := hid (show provesB M Y p x = false by unfold provesB; rw [c1']; rfl)
    rw [c1'] at HMK
    clear hn hn3 hpn hxn H H3 HP HXx hbz hwz c1 c1'
    have HHH := hid hpb
    go_enter Tryz.func61, Tryz.ntmps61
    go_upto_region 1 with fail
    rw [← hpb, ← HWZ.out]
    clear hpb
    go_wp2_with (go_at_call 84; refine HMK.out.mono ?_; rintro e w1 ⟨rfl, hb1⟩; have HB1 := hid hb1; clear hb1; refine Stop.of ?_)
    refine Stop.go ?_
    go_wp2
    go_ret
    exact ⟨by rw [HNO.out]; rfl, chain HBZ.out HB1.out⟩
  have hr0 : rdE M Y = 0 := by
    rcases Decidable.em (rdE M Y = 0) with h | h
    · exact h
    · rw [mk_no1 h] at c1; cases c1
  have hpc : p.length = colsM M := by
    rcases Decidable.em (p.length = colsM M) with h | h
    · exact h
    · rw [mk_no2 h] at c1; cases c1
  have hpv : p.all validR = true := by
    cases h : p.all validR with
    | true => rfl
    | false => rw [mk_no3 h] at c1; cases c1
  obtain ⟨hok, hyl, hmil⟩ := rd_ok hr0
  obtain ⟨hM, h1, h6, hc1, hc10⟩ := okM_ok hok
  obtain rfl : n3 = n := by omega
  rw [c1] at HMK
  by_cases c2 : xn = n3
  rotate_left
  · have HNO := hid (show provesB M Y p x = false by unfold provesB; rw [decide_eq_false (show ¬ x.length = M.length by omega)]; simp)
    have hnb : ((xn : Int) != (n3 : Int)) = true := by simp; omega
    clear hn hn3 hpn hxn H H3 HP HXx hbz hwz c1 c2 hr0 hpc hpv hok hyl hmil hM h1 h6 hc1 hc10
    go_enter Tryz.func61, Tryz.ntmps61
    go_upto_region 1 with fail
    rw [← hpb, ← HWZ.out]
    clear hpb
    go_wp2_with (go_at_call 84; refine HMK.out.mono ?_; rintro e w1 ⟨rfl, hb1⟩; have HB1 := hid hb1; clear hb1; refine Stop.of ?_)
    refine Stop.go ?_
    clear hl0 hl1
    obtain ⟨z0, z1⟩ := HPZ.out _ HB1.out
    go_wp2
    go_ret
    exact ⟨by rw [HNO.out]; rfl, chain HBZ.out HB1.out⟩
  subst c2
  have hnb : ((xn : Int) != (xn : Int)) = false := by simp
  by_cases c3 : x.all validR = true
  rotate_left
  · have c3' : x.all validR = false := by simpa using c3
    have HNO := hid (show provesB M Y p x = false by unfold provesB; rw [c3']; simp)
    rw [c3'] at HCN
    clear hn hn3 hpn hxn H H3 HP HXx hbz hwz c1 c3 c3' hr0 hpc hpv hok hyl hmil hM h1 h6 hc1 hc10
    go_enter Tryz.func61, Tryz.ntmps61
    go_upto_region 1 with fail
    rw [← hpb, ← HWZ.out]
    clear hpb
    go_wp2_with (go_at_call 84; refine HMK.out.mono ?_; rintro e w1 ⟨rfl, hb1⟩; have HB1 := hid hb1; clear hb1; refine Stop.of ?_)
    refine Stop.go ?_
    clear hl0 hl1
    obtain ⟨z0, z1⟩ := HPZ.out _ HB1.out
    go_wp2_with (go_at_call 80; refine (HCN.out _ (chain HBZ.out HB1.out)).mono ?_; rintro e w2 ⟨rfl, hb2⟩; have HB2 := hid hb2; clear hb2; refine Stop.of ?_)
    refine Stop.go ?_
    go_wp2
    go_ret
    exact ⟨by rw [HNO.out]; rfl, chain HBZ.out (chain HB1.out HB2.out)⟩
  have hxv := valB_of c3
  rw [c3] at HCN
  have hone : ∀ r ∈ M, ∀ k, -1 ≤ vec r k ∧ vec r k ≤ 1 := hM.one
  have HSE := hid (fun (X : World) (hX : Below w.heap.size w X) => dsees_c X a xa xn cap xn xc M x hn hxn rfl (by omega) (by omega) hM.wid hone hc10 hxv (H.below hX) (HXx.below hX))
  by_cases c4 : seesB M x = true
  rotate_left
  · have c4' : seesB M x = false := by simpa using c4
    have HNO := hid (show provesB M Y p x = false by unfold provesB; rw [c4']; simp)
    rw [c4'] at HSE
    clear hn hn3 hpn hxn H H3 HP HXx hbz hwz c1 c3 c4 c4' hr0 hpc hpv hok hyl hmil hM h1 h6 hc1 hc10 hxv hone
    go_enter Tryz.func61, Tryz.ntmps61
    go_upto_region 1 with fail
    rw [← hpb, ← HWZ.out]
    clear hpb
    go_wp2_with (go_at_call 84; refine HMK.out.mono ?_; rintro e w1 ⟨rfl, hb1⟩; have HB1 := hid hb1; clear hb1; refine Stop.of ?_)
    refine Stop.go ?_
    clear hl0 hl1
    obtain ⟨z0, z1⟩ := HPZ.out _ HB1.out
    go_wp2_with (go_at_call 80; refine (HCN.out _ (chain HBZ.out HB1.out)).mono ?_; rintro e w2 ⟨rfl, hb2⟩; have HB2 := hid (chain HB1.out hb2); clear hb2; refine Stop.of ?_)
    refine Stop.go ?_
    clear z0 z1
    obtain ⟨z0, z1⟩ := HPZ.out _ HB2.out
    go_wp2_with (go_at_call 123; refine (HSE.out _ (chain HBZ.out HB2.out)).mono ?_; rintro e w3 ⟨rfl, hb3⟩; have HB3 := hid hb3; clear hb3; refine Stop.of ?_)
    refine Stop.go ?_
    go_wp2
    go_ret
    exact ⟨by rw [HNO.out]; rfl, chain HBZ.out (chain HB2.out HB3.out)⟩
  rw [c4] at HSE
  have HLAST := hid (show provesB M Y p x = decide ((sumP (vec Y) x xn).1 * (nrmQ p).2 = (nrmQ p).1 * (sumP (vec Y) x xn).2) by
    unfold provesB; rw [c1, c3, c4, decide_eq_true (show x.length = M.length by omega), hn]; simp)
  obtain ⟨B, hB⟩ : ∃ B, B = provesB M Y p x := ⟨_, rfl⟩
  rw [← hB] at HLAST ⊢
  have hvb : ∀ k, (vec Y k).natAbs ≤ 1000000 := fun k => by
    unfold vec
    cases e : Y[k]? with
    | none => decide
    | some y =>
      have := mil_le hmil y (List.mem_of_getElem? e)
      show y.natAbs ≤ _
      omega
  have HVB := hid hvb
  have HBD := hid (fun k (hk : k ≤ 6) => sumP_bnd6 hvb hxv hk)
  have HXV := hid hxv
  have hpvb := valB_of hpv
  have HNB := hid (show (nrmQ p).1.natAbs ≤ 10485760000000000000000000000000000000 ∧ 1 ≤ (nrmQ p).2 ∧ (nrmQ p).2.natAbs ≤ 104857600000000000000000000 from nrm_bnd hpvb (Nat.le_refl _) (by omega))
  have HNORM := hid (fun (X : World) (hX : Below w.heap.size w X) => dnorm_c X pa pn pc p hpn (by omega) (HP.below hX) hpvb)
  have HX := hid HXx
  have HY := hid H3
  have HNX := hid hxn
  have HNY := hid hn3
  have hn6 : xn ≤ 6 := by omega
  clear hn hn3 hpn hxn H H3 HP HXx hbz hwz c1 c3 c4 hr0 hpc hpv hok hyl hmil hM h1 h6 hc1 hc10 hxv hone hB hvb hpvb
  go_enter Tryz.func61, Tryz.ntmps61
  go_upto_region 1 with fail
  rw [← hpb, ← HWZ.out]
  clear hpb
  go_wp2_with (go_at_call 84; refine HMK.out.mono ?_; rintro e w1 ⟨rfl, hb1⟩; have HB1 := hid hb1; clear hb1; refine Stop.of ?_)
  refine Stop.go ?_
  clear hl0 hl1
  obtain ⟨z0, z1⟩ := HPZ.out _ HB1.out
  go_wp2_with (go_at_call 80; refine (HCN.out _ (chain HBZ.out HB1.out)).mono ?_; rintro e w2 ⟨rfl, hb2⟩; have HB2 := hid (chain HB1.out hb2); clear hb2; refine Stop.of ?_)
  refine Stop.go ?_
  clear z0 z1
  obtain ⟨z0, z1⟩ := HPZ.out _ HB2.out
  go_wp2_with (go_at_call 123; refine (HSE.out _ (chain HBZ.out HB2.out)).mono ?_; rintro e w3 ⟨rfl, hb3⟩; have HB3 := hid (chain HB2.out hb3); clear hb3; refine Stop.of ?_)
  refine Stop.go ?_
  clear z0 z1
  go_wp2_with (go_at_call 95; refine (wzero_c _).mono ?_; rintro e w4 ⟨rfl, hb4⟩; have HB4 := hid (chain HB3.out hb4); clear hb4; refine Stop.of ?_)
  refine Stop.go ?_
  have hz : sumV 0 1 = .agg #[.int .i64 0, .int .u64 0, .int .i64 0, .int .u64 1] := by simp [sumV]
  rw [hz]
  clear hz
  go_upto_region 4 with fail
  obtain ⟨wb, hwb⟩ : ∃ wb, wb = w4.alloc (.cells #[.int .i64 0, .int .u64 0, .int .i64 0, .int .u64 1] 102) := ⟨_, rfl⟩
  obtain ⟨g, hg⟩ : ∃ g, g = w4.heap.size := ⟨_, rfl⟩
  have HSB := hid (show SumB wb g 0 1 by rw [hwb, hg]; exact SumB.made w4 ⟨by decide, by decide⟩ ⟨by decide, by decide⟩)
  have hbb : Below wz.heap.size wz wb := by rw [hwb]; exact HB4.out.alloc HB4.out.size _
  have HBB := hid (chain HBZ.out hbb)
  have HGW := hid (show wz.heap.size ≤ g by rw [hg]; exact HB4.out.size)
  have HGZ := hid HBZ.out.size
  rw [← hwb, ← hg]
  obtain ⟨z0, z1⟩ := HPZ.out _ hbb
  clear hwb hg
  have HBBZ := hid hbb
  clear hbb HMK HCN HSE HB1 HB2 HB3 HB4
  go_wp2
  clear z0 z1
  go_loopw [40] (fun i wr => ∃ t : Nat, t ≤ xn ∧ i = .int .i64 t ∧ SumB wr g (sumP (vec Y) x t).1 (sumP (vec Y) x t).2 ∧ Below wz.heap.size wz wr) (fun i _ => xn - (intOf i).toNat)
  case atStart => exact ⟨0, Nat.zero_le _, rfl, HSB.out, HBBZ.out⟩
  case round =>
    obtain ⟨t, ht, rfl, hsb, hbt⟩ := hrel
    by_cases htl : t < xn
    · obtain ⟨bx, ox, rfl, hbx, hx0, hx1⟩ := HX.out t (by rw [HNX.out]; exact htl)
      obtain ⟨b6, o6, rfl, hb6, hc6⟩ := HY.out t (by rw [HNY.out]; exact htl)
      have hv6 : Y[t]?.getD 0 = vec Y t := rfl
      rw [hv6] at hc6
      have hxt : ratAt x t = x[t]'(by rw [HNX.out]; exact htl) := by unfold ratAt; rw [List.getElem?_eq_getElem (by rw [HNX.out]; exact htl)]; rfl
      rw [← hxt] at hx0 hx1
      have hsr : sumP (vec Y) x (t + 1) = ((sumP (vec Y) x t).1 * (ratAt x t).2 + (sumP (vec Y) x t).2 * ((ratAt x t).1 * vec Y t), (sumP (vec Y) x t).2 * (ratAt x t).2) := rfl
      obtain ⟨k1, k2, k3⟩ := HBD.out t (by omega)
      obtain ⟨m1, m2, m3⟩ := HBD.out (t + 1) (by omega)
      obtain ⟨x1, x2, x3, x4⟩ := HXV.out t
      have hvb := HVB.out t
      rw [hsr] at m1 m2 m3
      have HSR := hid hsr
      obtain ⟨v, hv⟩ : ∃ v, v = vec Y t := ⟨_, rfl⟩
      rw [← hv] at hc6 m1 HSR hvb
      obtain ⟨⟨RN, RD⟩, hND⟩ : ∃ q, q = ratAt x t := ⟨_, rfl⟩
      rw [← hND] at hx0 hx1 m1 m2 m3 x1 x2 x3 x4 HSR
      obtain ⟨⟨sn, sd⟩, hS⟩ : ∃ q, q = sumP (vec Y) x t := ⟨_, rfl⟩
      rw [← hS] at hsb k1 k2 k3 m1 m2 m3 HSR
      simp only [] at hx0 hx1 m1 m2 m3 x1 x2 x3 x4 HSR hsb k1 k2 k3
      have e1 : (sn * RD).natAbs ≤ 245760000000000000000000000000000 * 400 := by
        rw [Int.natAbs_mul]; exact Nat.mul_le_mul k1 (by omega)
      have e2 : (sd * (RN * v)).natAbs ≤ 4096000000000000 * 10000000000000000 := by
        rw [Int.natAbs_mul, Int.natAbs_mul]
        exact Nat.mul_le_mul k3 (Nat.mul_le_mul (show RN.natAbs ≤ 10000000000 by omega) hvb)
      have e3 : -10000000000000000 ≤ RN * v ∧ RN * v ≤ 10000000000000000 := by
        have : (RN * v).natAbs ≤ 10000000000 * 1000000 := by rw [Int.natAbs_mul]; exact Nat.mul_le_mul (by omega) hvb
        omega
      have HPL := hid (fun (X : World) => splus_c X sn sd RN RD v (by unfold B127; omega) (by unfold B127; omega) (by omega) (by omega) (by unfold B127; omega) (by unfold B127; omega) (by unfold B127; omega) (by unfold B127; omega))
      obtain ⟨s1, s2, pS⟩ := WP.ex sn
      obtain ⟨d1, d2, pD⟩ := WP.ex sd
      obtain ⟨t1, t2, pT⟩ := WP.ex (sn * RD + sd * (RN * v))
      obtain ⟨c1, c2, pC⟩ := WP.ex (sd * RD)
      rw [pS.sum pD, pT.sum pC] at HPL
      simp only [ratV] at HPL
      have PS := hid pS
      have PD := hid pD
      have PT := hid pT
      have PC := hid pC
      have HSX := hid hsb
      have HBT := hid hbt
      have HCE := hid (fun (X : World) (hX : Below w.heap.size w X) => show X.cell? ⟨b6, o6 + t, none⟩ = some (.int .i64 v) from (hX.cell (p := ⟨b6, _, none⟩) hb6).trans hc6)
      have q0 : wr.cell? ⟨bx, ox + t * 2, none⟩ = some (.int .i64 RN) := ((chain HBZ.out HBT.out).cell (p := ⟨bx, _, none⟩) hbx).trans hx0
      have q1 : wr.cell? ⟨bx, ox + t * 2 + 1, none⟩ = some (.int .i64 RD) := ((chain HBZ.out HBT.out).cell (p := ⟨bx, _, none⟩) hbx).trans hx1
      have i1 : (t : Int) < (xn : Int) := by omega
      have HIT := hid (show (0 : Int) ≤ (t : Int) ∧ (t : Int) < (xn : Int) from ⟨by omega, by omega⟩)
      clear hv6 hxt hsr k1 k2 k3 m1 m2 m3 x1 x2 x3 x4 hvb hv hND hS e1 e2 e3 pS pD pT pC hsb hbt hx0 hx1 hc6 hb6 hbx
      go_upto_region 7 with fail
      obtain ⟨h, hh⟩ : ∃ h, h = wr.heap.size := ⟨_, rfl⟩
      obtain ⟨wh, hwh⟩ : ∃ wh, wh = wr.alloc (.cells #[.int .i64 RN, .int .i64 RD] 29) := ⟨_, rfl⟩
      rw [← hh, ← hwh]
      have hbh : Below wr.heap.size wr wh := by rw [hwh]; exact (Below.refl _ _).alloc (Nat.le_refl _) _
      have HRH := hid (show RatI wh h (RN, RD) by rw [hwh, hh]; exact RatI.made wr (RN, RD))
      have HBH := hid (chain HBT.out hbh)
      have HSH := hid (HSX.out.keep (hbh.block _ HSX.out.lt))
      have HRG := hid (show h ≠ g by have := HSX.out.lt; omega)
      clear q0 q1 i1 hh hwh hbh
      refine plain_region (fun _ _ => True) (by kernel_rfl) ?_
      obtain ⟨wd, hwd⟩ : ∃ wd, wd = wh.drew := ⟨_, rfl⟩
      have hbd : Below wh.heap.size wh wd := by rw [hwd]; exact (Below.refl _ _).drew
      rw [← hwd]
      have HWD := hid (chain HBH.out hbd)
      have HAD := hid (HSH.out.keep (hbd.block _ HSH.out.lt))
      have HRD := hid (HRH.out.keep (hbd.block _ HRH.out.lt))
      clear hbd hwd
      refine anyT_gen fun a0 ha0 => ?_
      have hsz : a0.tmps.size = 58 := by rw [ha0]; rfl
      have v1 : a0.eval (.tmp 1) = .slice (some ⟨b6, o6, none⟩) xn cap3 := by rw [ha0]; rfl
      have v7 : a0.eval (.tmp 7) = .pointer (some ⟨g, 0, none⟩) := by rw [ha0]; rfl
      have v8 : a0.eval (.tmp 8) = .int .i64 (t : Nat) := by rw [ha0]; rfl
      have v9 : a0.eval (.tmp 9) = .pointer (some ⟨h, 0, none⟩) := by rw [ha0]; rfl
      have HA0 := hid ha0
      clear ha0
      refine AnyT.regF [45, 46, 47, 48, 49, 50, 51] (fun l f W => (l 0 = true → f 45 = .agg #[.int .i64 s1, .int .u64 s2, .int .i64 d1, .int .u64 d2]) ∧ (l 1 = true → f 46 = .agg #[.int .i64 RN, .int .i64 RD]) ∧ (l 2 = true → f 47 = .slice (some ⟨b6, o6, none⟩) xn cap3) ∧ (l 3 = true → f 48 = .int .i64 (t : Nat)) ∧ (l 4 = true → f 49 = .pointer (some ⟨b6, o6 + t, none⟩)) ∧ (l 5 = true → f 50 = .int .i64 v) ∧ (l 6 = true → f 51 = .agg #[.int .i64 t1, .int .u64 t2, .int .i64 c1, .int .u64 c2]) ∧ (Keep (fun k => k ≠ g) wd W) ∧ (SumB W g (if l 7 = true then sn * RD + sd * (RN * v) else sn) (if l 7 = true then sd * RD else sd)) ∧ (l 6 = true → l 0 = true) ∧ (l 7 = true → l 6 = true)) (by kernel_rfl) (by kernel_rfl) ?_ ?_ ?_
      · have egP : ∀ args w, (callFunc 96 args).run Tryz.prog w = .ok (.enter 96 args) w := enters_of Tryz.func96 (by kernel_rfl) rfl
        rintro l f W i o ho hi hd ⟨h0, h1, h2, h3, h4, h5, h6, hK, hA, i60, i76⟩
        have e45 : evalF a0 [45, 46, 47, 48, 49, 50, 51] f (.tmp 45) = f 45 := by simp [evalF, hsz]
        have e46 : evalF a0 [45, 46, 47, 48, 49, 50, 51] f (.tmp 46) = f 46 := by simp [evalF, hsz]
        have e47 : evalF a0 [45, 46, 47, 48, 49, 50, 51] f (.tmp 47) = f 47 := by simp [evalF, hsz]
        have e48 : evalF a0 [45, 46, 47, 48, 49, 50, 51] f (.tmp 48) = f 48 := by simp [evalF, hsz]
        have e49 : evalF a0 [45, 46, 47, 48, 49, 50, 51] f (.tmp 49) = f 49 := by simp [evalF, hsz]
        have e50 : evalF a0 [45, 46, 47, 48, 49, 50, 51] f (.tmp 50) = f 50 := by simp [evalF, hsz]
        have e51 : evalF a0 [45, 46, 47, 48, 49, 50, 51] f (.tmp 51) = f 51 := by simp [evalF, hsz]
        have w1 : evalF a0 [45, 46, 47, 48, 49, 50, 51] f (.tmp 1) = .slice (some ⟨b6, o6, none⟩) xn cap3 := by simp [evalF, v1]
        have w7 : evalF a0 [45, 46, 47, 48, 49, 50, 51] f (.tmp 7) = .pointer (some ⟨g, 0, none⟩) := by simp [evalF, v7]
        have w8 : evalF a0 [45, 46, 47, 48, 49, 50, 51] f (.tmp 8) = .int .i64 (t : Nat) := by simp [evalF, v8]
        have w9 : evalF a0 [45, 46, 47, 48, 49, 50, 51] f (.tmp 9) = .pointer (some ⟨h, 0, none⟩) := by simp [evalF, v9]
        have eFP : evalF a0 [45, 46, 47, 48, 49, 50, 51] f (.func 96) = .func (.func 96) #[] #[] := rfl
        have m2 := HCE.out W (chain HBZ.out (hK.below HWD.out HWD.out.size fun k hk => by have := HGW.out; omega))
        rcases i with _ | _ | _ | _ | _ | _ | _ | _ | i
        · simp only [List.getElem?_toArray, List.getElem?_cons_zero, List.getElem?_cons_succ, Option.some.injEq] at ho
          subst ho
          have l7 : l 7 = false := by
            cases h : l 7 with
            | false => rfl
            | true => rw [i60 (i76 h)] at hi; cases hi
          rw [l7] at hA
          obtain ⟨x0, x1, x2, x3, xf⟩ := SumB.cells (n := sn) (d := sd) hA PS.out PD.out
          rw [← l7] at hA
          clear xf
          refine StepF.val (w' := W) (v := .agg #[.int .i64 s1, .int .u64 s2, .int .i64 d1, .int .u64 d2]) rfl (by go_simp) ⟨fun _ => rfl, h1, h2, h3, h4, h5, h6, hK, hA, fun _ => rfl, i76⟩
        · simp only [List.getElem?_toArray, List.getElem?_cons_zero, List.getElem?_cons_succ, Option.some.injEq] at ho
          subst ho
          obtain ⟨y0, y1, _⟩ := (HRD.out.keep (hK.block _ HRD.out.lt HRG.out)).cells
          refine StepF.val (w' := W) (v := .agg #[.int .i64 RN, .int .i64 RD]) rfl (by go_simp) ⟨h0, fun _ => rfl, h2, h3, h4, h5, h6, hK, hA, i60, i76⟩
        · simp only [List.getElem?_toArray, List.getElem?_cons_zero, List.getElem?_cons_succ, Option.some.injEq] at ho
          subst ho
          refine StepF.val (w' := W) (v := .slice (some ⟨b6, o6, none⟩) xn cap3) rfl (by go_simp) ⟨h0, h1, fun _ => rfl, h3, h4, h5, h6, hK, hA, i60, i76⟩
        · simp only [List.getElem?_toArray, List.getElem?_cons_zero, List.getElem?_cons_succ, Option.some.injEq] at ho
          subst ho
          refine StepF.val (w' := W) (v := .int .i64 (t : Nat)) rfl (by go_simp) ⟨h0, h1, h2, fun _ => rfl, h4, h5, h6, hK, hA, i60, i76⟩
        · simp only [List.getElem?_toArray, List.getElem?_cons_zero, List.getElem?_cons_succ, Option.some.injEq] at ho
          subst ho
          have k2 := h2 (hd { on := 2, ground := .data } (by simp) (by kernel_rfl))
          rw [k2] at e47
          have k3 := h3 (hd { on := 3, ground := .data } (by simp) (by kernel_rfl))
          rw [k3] at e48
          have hi1 := HIT.out.1
          have hi2 := HIT.out.2
          refine StepF.val (w' := W) (v := .pointer (some ⟨b6, o6 + t, none⟩)) rfl (by go_simp) ⟨h0, h1, h2, h3, fun _ => rfl, h5, h6, hK, hA, i60, i76⟩
        · simp only [List.getElem?_toArray, List.getElem?_cons_zero, List.getElem?_cons_succ, Option.some.injEq] at ho
          subst ho
          have k4 := h4 (hd { on := 4, ground := .data } (by simp) (by kernel_rfl))
          rw [k4] at e49
          refine StepF.val (w' := W) (v := .int .i64 v) rfl (by go_simp) ⟨h0, h1, h2, h3, h4, fun _ => rfl, h6, hK, hA, i60, i76⟩
        · simp only [List.getElem?_toArray, List.getElem?_cons_zero, List.getElem?_cons_succ, Option.some.injEq] at ho
          subst ho
          have k0 := h0 (hd { on := 0, ground := .data } (by simp) (by kernel_rfl))
          rw [k0] at e45
          have k1 := h1 (hd { on := 1, ground := .data } (by simp) (by kernel_rfl))
          rw [k1] at e46
          have k5 := h5 (hd { on := 5, ground := .data } (by simp) (by kernel_rfl))
          rw [k5] at e50
          refine StepF.call (g := 96) (args := #[.agg #[.int .i64 s1, .int .u64 s2, .int .i64 d1, .int .u64 d2], .agg #[.int .i64 RN, .int .i64 RD], .int .i64 v]) (w' := W) rfl (by simp [execOp, resolve, invoke, go_sem, e45, e46, e50, eFP, egP]) ((HPL.out W).mono ?_)
          rintro e' w4 ⟨rfl, hb4⟩
          exact ⟨_, rfl, h0, h1, h2, h3, h4, h5, fun _ => rfl, hK.trans (Keep.of_below hb4), hA.keep (hb4.block _ hA.lt), fun _ => hd { on := 0, ground := .data } (by simp) (by kernel_rfl), fun _ => rfl⟩
        · simp only [List.getElem?_toArray, List.getElem?_cons_zero, List.getElem?_cons_succ, Option.some.injEq] at ho
          subst ho
          have k6 := h6 (hd { on := 6, ground := .data } (by simp) (by kernel_rfl))
          rw [k6] at e51
          rw [hi] at hA
          have hA' : SumB W g sn sd := hA
          obtain ⟨x0, x1, x2, x3, xf⟩ := hA'.cells PS.out PD.out
          have y0 := xf 0
          have y1 := xf 1
          have y2 := xf 2
          have y3 := xf 3
          have hlt := hA'.lt
          have K := keep_set4 W g (.int .i64 t1) (.int .u64 t2) (.int .i64 c1) (.int .u64 c2)
          clear xf
          refine StepF.skip (w' := (((W.setCell ⟨g, 0, none⟩ (.int .i64 t1)).setCell ⟨g, 1, none⟩ (.int .u64 t2)).setCell ⟨g, 2, none⟩ (.int .i64 c1)).setCell ⟨g, 3, none⟩ (.int .u64 c2)) rfl (by go_simp) ⟨h0, h1, h2, h3, h4, h5, h6, hK.trans K, hA'.set PT.out PC.out, i60, fun _ => hd { on := 6, ground := .data } (by simp) (by kernel_rfl)⟩
        · exact absurd ho (by simp)
      · rintro l f W hall ⟨h0, h1, h2, h3, h4, h5, h6, hK, hA, i60, i76⟩
        rw [hall 7 (by decide)] at hA
        have HA9 := hid (show SumB W g (sn * RD + sd * (RN * v)) (sd * RD) from hA)
        have HK9 := hid hK
        clear h0 h1 h2 h3 h4 h5 h6 hK hA i60 i76 hall
        rw [HA0.out]
        simp only [fillA, List.foldl_cons, List.foldl_nil, Act.put, List.setIfInBounds_toArray, List.set_cons_succ, List.set_cons_zero]
        generalize f 45 = z45, f 46 = z46, f 47 = z47, f 48 = z48, f 49 = z49, f 50 = z50, f 51 = z51
        clear hsz v1 v7 v8 v9 HA0
        go_wp2
        refine ⟨⟨t + 1, by omega, by go_num, ?_, ?_⟩, by simp [intOf]; omega⟩
        · rw [HSR.out]; exact HA9.out
        · exact HK9.out.below HWD.out HWD.out.size fun k hk => by have := HGW.out; omega
      · intro l f hl
        refine ⟨?_, ?_, ?_, ?_, ?_, ?_, ?_, Keep.refl _ _, (by rw [hl 7 (by decide)]; exact HAD.out), (fun h => by rw [hl _ (by decide)] at h; cases h), (fun h => by rw [hl _ (by decide)] at h; cases h)⟩
        · intro h; rw [hl _ (by decide)] at h; cases h
        · intro h; rw [hl _ (by decide)] at h; cases h
        · intro h; rw [hl _ (by decide)] at h; cases h
        · intro h; rw [hl _ (by decide)] at h; cases h
        · intro h; rw [hl _ (by decide)] at h; cases h
        · intro h; rw [hl _ (by decide)] at h; cases h
        · intro h; rw [hl _ (by decide)] at h; cases h
    · obtain rfl : t = xn := by omega
      have HSX := hid hsb
      have HBT := hid hbt
      obtain ⟨k1, k2, k3⟩ := HBD.out t (by omega)
      obtain ⟨⟨sn, sd⟩, hS⟩ : ∃ q, q = sumP (vec Y) x t := ⟨_, rfl⟩
      rw [← hS] at k1 k2 k3 HSX
      simp only [] at k1 k2 k3 HSX
      have hnb := HNB.out
      obtain ⟨EB, hEB⟩ : ∃ EB, EB = decide (sn * (nrmQ p).2 = (nrmQ p).1 * sd) := ⟨_, rfl⟩
      have HEQ := hid (fun (X : World) => sequal_c X sn sd (nrmQ p).1 (nrmQ p).2 (by omega) (by omega) (by omega) (by omega))
      rw [← hEB] at HEQ
      have HFI := hid (show B = EB by rw [hEB]; have h := HLAST.out; rw [← hS] at h; exact h)
      obtain ⟨s1, s2, pS⟩ := WP.ex sn
      obtain ⟨d1, d2, pD⟩ := WP.ex sd
      obtain ⟨NV, hNV⟩ : ∃ NV, NV = sumV (nrmQ p).1 (nrmQ p).2 := ⟨_, rfl⟩
      rw [pS.sum pD, ← hNV] at HEQ
      have HNM := hid (show ∀ X, Below w.heap.size w X → Calls Tryz.prog 82 #[.slice pa pn pc] X fun e w' => e = .returned NV ∧ Below X.heap.size X w' from fun X hX => by rw [hNV]; exact HNORM.out X hX)
      have PS := hid pS
      have PD := hid pD
      have hni : ¬ ((t : Int) < (t : Int)) := by omega
      clear hsb hbt k1 k2 k3 hnb hS hEB pS pD hNV
      go_upto_region 9 with fail
      refine plain_region (fun _ _ => True) (by kernel_rfl) ?_
      obtain ⟨wd, hwd⟩ : ∃ wd, wd = wr.drew := ⟨_, rfl⟩
      have hbd : Below wr.heap.size wr wd := by rw [hwd]; exact (Below.refl _ _).drew
      rw [← hwd]
      have HWD := hid (chain HBT.out hbd)
      have HSD := hid (HSX.out.keep (hbd.block _ HSX.out.lt))
      clear hbd hwd
      refine anyT_gen fun a0 ha0 => ?_
      have hsz : a0.tmps.size = 58 := by rw [ha0]; rfl
      have v5 : a0.eval (.tmp 5) = .pointer (some ⟨pb, 0, none⟩) := by rw [ha0]; rfl
      have v7 : a0.eval (.tmp 7) = .pointer (some ⟨g, 0, none⟩) := by rw [ha0]; rfl
      have HA0 := hid ha0
      clear ha0
      refine AnyT.regF [53, 54, 55, 56, 57, 6] (fun l f W => (l 0 = true → f 53 = .agg #[.int .i64 s1, .int .u64 s2, .int .i64 d1, .int .u64 d2]) ∧ (l 1 = true → f 54 = .pointer (some ⟨pb, 0, none⟩)) ∧ (l 2 = true → f 55 = .slice pa pn pc) ∧ (l 3 = true → f 56 = NV) ∧ (l 4 = true → f 57 = .bool EB) ∧ (l 5 = true → f 6 = .bool EB) ∧ (Below wd.heap.size wd W)) (by kernel_rfl) (by kernel_rfl) ?_ ?_ ?_
      · have egN : ∀ args w, (callFunc 82 args).run Tryz.prog w = .ok (.enter 82 args) w := enters_of Tryz.func82 (by kernel_rfl) rfl
        have egQ : ∀ args w, (callFunc 124 args).run Tryz.prog w = .ok (.enter 124 args) w := enters_of Tryz.func124 (by kernel_rfl) rfl
        rintro l f W i o ho hi hd ⟨h0, h1, h2, h3, h4, h5, hS⟩
        have e53 : evalF a0 [53, 54, 55, 56, 57, 6] f (.tmp 53) = f 53 := by simp [evalF, hsz]
        have e54 : evalF a0 [53, 54, 55, 56, 57, 6] f (.tmp 54) = f 54 := by simp [evalF, hsz]
        have e55 : evalF a0 [53, 54, 55, 56, 57, 6] f (.tmp 55) = f 55 := by simp [evalF, hsz]
        have e56 : evalF a0 [53, 54, 55, 56, 57, 6] f (.tmp 56) = f 56 := by simp [evalF, hsz]
        have e57 : evalF a0 [53, 54, 55, 56, 57, 6] f (.tmp 57) = f 57 := by simp [evalF, hsz]
        have e6 : evalF a0 [53, 54, 55, 56, 57, 6] f (.tmp 6) = f 6 := by simp [evalF, hsz]
        have w5 : evalF a0 [53, 54, 55, 56, 57, 6] f (.tmp 5) = .pointer (some ⟨pb, 0, none⟩) := by simp [evalF, v5]
        have w7 : evalF a0 [53, 54, 55, 56, 57, 6] f (.tmp 7) = .pointer (some ⟨g, 0, none⟩) := by simp [evalF, v7]
        have eFN : evalF a0 [53, 54, 55, 56, 57, 6] f (.func 82) = .func (.func 82) #[] #[] := rfl
        have eFQ : evalF a0 [53, 54, 55, 56, 57, 6] f (.func 124) = .func (.func 124) #[] #[] := rfl
        rcases i with _ | _ | _ | _ | _ | _ | i
        · simp only [List.getElem?_toArray, List.getElem?_cons_zero, List.getElem?_cons_succ, Option.some.injEq] at ho
          subst ho
          obtain ⟨x0, x1, x2, x3, xf⟩ := (HSD.out.keep (hS.block _ HSD.out.lt)).cells PS.out PD.out
          clear xf
          refine StepF.val (w' := W) (v := .agg #[.int .i64 s1, .int .u64 s2, .int .i64 d1, .int .u64 d2]) rfl (by go_simp) ⟨fun _ => rfl, h1, h2, h3, h4, h5, hS⟩
        · simp only [List.getElem?_toArray, List.getElem?_cons_zero, List.getElem?_cons_succ, Option.some.injEq] at ho
          subst ho
          refine StepF.val (w' := W) (v := .pointer (some ⟨pb, 0, none⟩)) rfl (by go_simp) ⟨h0, fun _ => rfl, h2, h3, h4, h5, hS⟩
        · simp only [List.getElem?_toArray, List.getElem?_cons_zero, List.getElem?_cons_succ, Option.some.injEq] at ho
          subst ho
          have k1 := h1 (hd { on := 1, ground := .data } (by simp) (by kernel_rfl))
          rw [k1] at e54
          obtain ⟨x0, x1⟩ := HPZ.out W (chain HWD.out hS)
          refine StepF.val (w' := W) (v := .slice pa pn pc) rfl (by go_simp) ⟨h0, h1, fun _ => rfl, h3, h4, h5, hS⟩
        · simp only [List.getElem?_toArray, List.getElem?_cons_zero, List.getElem?_cons_succ, Option.some.injEq] at ho
          subst ho
          have k2 := h2 (hd { on := 2, ground := .data } (by simp) (by kernel_rfl))
          rw [k2] at e55
          refine StepF.call (g := 82) (args := #[.slice pa pn pc]) (w' := W) rfl (by simp [execOp, resolve, invoke, go_sem, e55, eFN, egN]) ((HNM.out W (chain HBZ.out (chain HWD.out hS))).mono ?_)
          rintro e' w4 ⟨rfl, hb4⟩
          exact ⟨_, rfl, h0, h1, h2, fun _ => rfl, h4, h5, chain hS hb4⟩
        · simp only [List.getElem?_toArray, List.getElem?_cons_zero, List.getElem?_cons_succ, Option.some.injEq] at ho
          subst ho
          have k0 := h0 (hd { on := 0, ground := .data } (by simp) (by kernel_rfl))
          rw [k0] at e53
          have k3 := h3 (hd { on := 3, ground := .data } (by simp) (by kernel_rfl))
          rw [k3] at e56
          refine StepF.call (g := 124) (args := #[.agg #[.int .i64 s1, .int .u64 s2, .int .i64 d1, .int .u64 d2], NV]) (w' := W) rfl (by simp [execOp, resolve, invoke, go_sem, e53, e56, eFQ, egQ]) ((HEQ.out W).mono ?_)
          rintro e' w4 ⟨rfl, hb4⟩
          exact ⟨_, rfl, h0, h1, h2, h3, fun _ => rfl, h5, chain hS hb4⟩
        · simp only [List.getElem?_toArray, List.getElem?_cons_zero, List.getElem?_cons_succ, Option.some.injEq] at ho
          subst ho
          have k4 := h4 (hd { on := 4, ground := .data } (by simp) (by kernel_rfl))
          rw [k4] at e57
          refine StepF.val (w' := W) (v := .bool EB) rfl (by go_simp) ⟨h0, h1, h2, h3, h4, fun _ => rfl, hS⟩
        · exact absurd ho (by simp)
      · rintro l f W hall ⟨h0, h1, h2, h3, h4, h5, hS⟩
        have f6 := h5 (hall 5 (by decide))
        have HFF := hid (chain HBZ.out (chain HWD.out hS))
        clear h0 h1 h2 h3 h4 h5 hS hall
        rw [HA0.out]
        simp only [fillA, List.foldl_cons, List.foldl_nil, Act.put, List.setIfInBounds_toArray, List.set_cons_succ, List.set_cons_zero]
        rw [f6]
        generalize f 53 = z53, f 54 = z54, f 55 = z55, f 56 = z56, f 57 = z57
        clear f6 hsz v5 v7 HA0
        go_wp2
        go_ret
        exact ⟨by rw [HFI.out]; rfl, HFF.out⟩
      · intro l f hl
        refine ⟨?_, ?_, ?_, ?_, ?_, ?_, Below.refl _ _⟩
        · intro h; rw [hl _ (by decide)] at h; cases h
        · intro h; rw [hl _ (by decide)] at h; cases h
        · intro h; rw [hl _ (by decide)] at h; cases h
        · intro h; rw [hl _ (by decide)] at h; cases h
        · intro h; rw [hl _ (by decide)] at h; cases h
        · intro h; rw [hl _ (by decide)] at h; cases h
end Go.Proofs.YtlffndehhhpgjaaGreat

namespace Go.Proofs.YtlffndehhhpgjaaGreat
open Go.RowKit
set_option linter.unusedVariables false
set_option linter.unusedSimpArgs false

def IterS (P : Program) (g : Nat) (lb : Array Value) {α : Type} (V : Nat → (Nat → Prop) → α → Value → World → Prop) (xs : List α) (fp : Nat → Prop) (w0 : World) : Prop :=
  ∀ (l : Nat) (J Jx : (Nat → Prop) → List α → World → Prop) (W : World), Below w0.heap.size w0 W →
    (∀ S S' s A B, Jx S s A → (∀ k, S k → S' k) → (∀ k, S' k → S k ∨ A.heap.size ≤ k) → Keep (fun k => ¬ S' k) A B → Jx S' s B) →
    (∀ S S' s A B, J S s A → (∀ k, S k → S' k) → (∀ k, S' k → S k ∨ A.heap.size ≤ k) → Keep (fun k => ¬ S' k) A B → J S' s B) →
    (∀ S pre x v W1, pre ++ [x] <+: xs → (∀ k, S k → W.heap.size ≤ k ∧ k < W1.heap.size) → W.heap.size ≤ W1.heap.size → J S pre W1 → V W.heap.size S x v W1 →
      YieldAt Fence.wide 0 P l #[v] W1 fun e W' =>
        (W1.heap.size ≤ W'.heap.size ∧ (∀ k, fp k ∨ S k → W'.heap[k]? = W1.heap[k]?)) ∧ ((e = .returned (.bool true) ∧ J S (pre ++ [x]) W') ∨ (e = .returned (.bool false) ∧ Jx S (pre ++ [x]) W'))) →
    J (fun _ => False) [] W →
    CallsIn Fence.wide 0 P g (#[.func (.yield l) #[] #[]] ++ lb) W fun e W' => (∃ v, e = .returned v) ∧ ((∃ S, (∀ k, S k → W.heap.size ≤ k ∧ k < W'.heap.size) ∧ J S xs W') ∨ (∃ S pre, pre <+: xs ∧ Jx S pre W'))

def roundEndS {α : Type} (S : Nat → Prop) (I : List α → World → Prop) (Ix : Code → List α → World → Prop) (xs : List α) (W : World) : Exit → Act → World → Prop
  | .normal, _, W' => W.heap.size ≤ W'.heap.size ∧ (∀ k, S k → W'.heap[k]? = W.heap[k]?) ∧ I xs W'
  | .ret, _, W' => W.heap.size ≤ W'.heap.size ∧ (∀ k, S k → W'.heap[k]? = W.heap[k]?) ∧ Ix .ret xs W'
  | .exit id, _, W' => W.heap.size ≤ W'.heap.size ∧ (∀ k, S k → W'.heap[k]? = W.heap[k]?) ∧ Ix (.exit id) xs W'
  | .goto t, _, W' => W.heap.size ≤ W'.heap.size ∧ (∀ k, S k → W'.heap[k]? = W.heap[k]?) ∧ Ix (.goto t) xs W'
  | .panic _, _, _ => False
  | .outgrown, _, _ => False

theorem range_s {P : Program} {g : Operand} {p : Tmp} {assign body : Code} {Q : Exit → Act → World → Prop} {a : Act} {w : World}
    {gf : Nat} {lb : Array Value} (hg : a.eval g = .func (.func gf) #[] lb) (eg : ∀ args w, (callFunc gf args).run P w = .ok (.enter gf args) w)
    {α : Type} {V : Nat → (Nat → Prop) → α → Value → World → Prop} {xs : List α} {fp : Nat → Prop} {w0 : World} (hseq : IterS P gf lb V xs fp w0) (hb0 : Below w0.heap.size w0 w) (hfp : ∀ k, fp k → k < w.heap.size)
    (I : (Nat → Prop) → List α → World → Prop) (Ix : (Nat → Prop) → Code → List α → World → Prop)
    (hI : ∀ S S' s A B, I S s A → (∀ k, S k → S' k) → (∀ k, S' k → S k ∨ A.heap.size ≤ k) → (∀ k, S' k → w.heap.size + 2 ≤ k) → w.heap.size + 2 ≤ A.heap.size → Keep (fun k => k ≠ w.heap.size ∧ k ≠ w.heap.size + 1 ∧ ¬ S' k) A B → I S' s B)
    (hIx : ∀ S S' c s A B, Ix S c s A → (∀ k, S k → S' k) → (∀ k, S' k → S k ∨ A.heap.size ≤ k) → (∀ k, S' k → w.heap.size + 2 ≤ k) → w.heap.size + 2 ≤ A.heap.size → Keep (fun k => k ≠ w.heap.size ∧ k ≠ w.heap.size + 1 ∧ ¬ S' k) A B → Ix S' c s B)
    (hV : ∀ S x v A B, V (w.heap.size + 2) S x v A → Keep (fun k => k ≠ w.heap.size ∧ k ≠ w.heap.size + 1) A B → V (w.heap.size + 2) S x v B)
    (h0 : ∀ W, Keep (fun k => k < w.heap.size) w W → w.heap.size + 2 ≤ W.heap.size → I (fun _ => False) [] W) (Ax : Value → Act → World → Prop)
    (hAx : ∀ v a' A B, Ax v a' A → Keep (fun k => k ≠ w.heap.size ∧ k ≠ w.heap.size + 1) A B → Ax v a' B)
    (hassign : ∀ (l : Nat) (S : Nat → Prop) (x : α) (v : Value) (W : World) (K : Act → World → Prop), w.heap.size + 2 ≤ W.heap.size → V (w.heap.size + 2) S x v W → (∀ a' W', Below W.heap.size W W' → Ax v a' W' → K a' W') →
      assign.wpIn (Fence.wide.inRound l) 0 P (Exit.then K (fun _ _ _ => False)) { tmps := a.tmps.setIfInBounds p v, defers := [] } W)
    (hbody : ∀ (l : Nat) (S : Nat → Prop) (pre : List α) (x : α) (v : Value) (a' : Act) (W : World), pre ++ [x] <+: xs → (∀ k, S k → w.heap.size + 2 ≤ k ∧ k < W.heap.size) → I S pre W → V (w.heap.size + 2) S x v W → Ax v a' W → w.heap.size + 2 ≤ W.heap.size →
      (∃ o, W.heap[w.heap.size]? = some o ∧ o.isCells = false) → (∃ o, W.heap[w.heap.size + 1]? = some o ∧ o.isCells = false) →
      body.wpIn (Fence.wide.inRound l) 0 P (roundEndS (fun k => fp k ∨ k = w.heap.size ∨ k = w.heap.size + 1 ∨ S k) (I S) (Ix S) (pre ++ [x]) W) a' W)
    (hdone : ∀ (S : Nat → Prop) (W : World), w.heap.size + 2 ≤ W.heap.size → (∀ k, S k → w.heap.size + 2 ≤ k ∧ k < W.heap.size) → I S xs W → W.heap[w.heap.size]? = some (.deferred (some [])) → Q .normal { a with defers := { target := .collected w.heap.size, args := #[] } :: a.defers } W)
    (hstop : ∀ (S : Nat → Prop) (c : Code) (pre : List α) (W : World), pre <+: xs → (∀ k, S k → w.heap.size + 2 ≤ k) → Ix S c pre W → W.heap[w.heap.size]? = some (.deferred (some [])) → c.wpIn Fence.wide 0 P Q { a with defers := { target := .collected w.heap.size, args := #[] } :: a.defers } W) :
    (Code.rangeFunc g #[p] assign body).wpIn Fence.wide 0 P Q a w := by
  refine wpIn_rangeFunc ?_
  intro fn hfn
  obtain ⟨rec, hrec⟩ : ∃ rec : LoopState → Option Code → Loop, rec = fun st pe => { state := st, pending := pe, fn, tmps := a.tmps, params := #[p], assign, body, defers := w.heap.size } := ⟨_, rfl⟩
  obtain ⟨W1, hW1⟩ : ∃ W1, (w.alloc (.deferred (some []))).alloc (.loop (rec .ready none)) = W1 := ⟨_, rfl⟩
  have hsz1 : W1.heap.size = w.heap.size + 2 := by rw [← hW1]; simp
  have hL1 : W1.heap[w.heap.size + 1]? = some (.loop (rec .ready none)) := by
    rw [← hW1]; have := World.alloc_heap_new (w.alloc (.deferred (some []))) (.loop (rec .ready none)); rwa [World.size_alloc] at this
  have hK1 : W1.heap[w.heap.size]? = some (.deferred (some [])) := by
    rw [← hW1]; exact (Below.heap_alloc _ _ _ (by simp)).trans (World.alloc_heap_new w _)
  have hbw : Below w.heap.size w W1 := by rw [← hW1]; exact ((Below.refl _ w).alloc (Nat.le_refl _) _).alloc (by simp) _
  refine ⟨w.heap.size + 1, [{ target := .collected w.heap.size, args := #[] }], W1, { target := .fn (.func gf) lb, args := #[.func (.yield (w.heap.size + 1)) #[] #[]] }, W1, gf,
    #[.func (.yield (w.heap.size + 1)) #[] #[]] ++ lb, W1, ?_, ?_, ?_, ?_, fun h => by simp [Fence.wide] at h, ?_⟩
  · rw [← hW1, hrec]; exact run_enterLoop_outer _ _ _ _ _
  · simp only [resolve, hg]
    simp [go_sem]
  · intro f' hf'; exact trivial
  · simp [invoke, go_sem, eg]
  · refine (hseq (w.heap.size + 1)
      (fun S pre W => (I S pre W ∧ w.heap.size + 2 ≤ W.heap.size ∧ ∀ k, S k → w.heap.size + 2 ≤ k) ∧ W.heap[w.heap.size + 1]? = some (.loop (rec .ready none)) ∧ W.heap[w.heap.size]? = some (.deferred (some [])))
      (fun S pre W => ∃ c, (Ix S c pre W ∧ w.heap.size + 2 ≤ W.heap.size ∧ ∀ k, S k → w.heap.size + 2 ≤ k) ∧ W.heap[w.heap.size + 1]? = some (.loop (rec .done (some c))) ∧ W.heap[w.heap.size]? = some (.deferred (some [])))
      W1 (chain hb0 hbw) ?_ ?_ ?_ ?_).mono ?_
    · rintro S S' s A B ⟨c, ⟨hi, hsA, hSl⟩, hl, hk⟩ hSS hSn hAB
      have hS' : ∀ k, S' k → w.heap.size + 2 ≤ k := fun k h => by
        rcases hSn k h with h1 | h1
        · exact hSl k h1
        · omega
      exact ⟨c, ⟨hIx S S' c s A B hi hSS hSn hS' hsA (hAB.mono fun k hk => hk.2.2), Nat.le_trans hsA hAB.size, hS'⟩,
        (hAB.block _ (Array.getElem?_eq_some_iff.1 hl).1 (fun h => by have := hS' _ h; omega)).trans hl, (hAB.block _ (Array.getElem?_eq_some_iff.1 hk).1 (fun h => by have := hS' _ h; omega)).trans hk⟩
    · rintro S S' s A B ⟨⟨hi, hsA, hSl⟩, hl, hk⟩ hSS hSn hAB
      have hS' : ∀ k, S' k → w.heap.size + 2 ≤ k := fun k h => by
        rcases hSn k h with h1 | h1
        · exact hSl k h1
        · omega
      exact ⟨⟨hI S S' s A B hi hSS hSn hS' hsA (hAB.mono fun k hk => hk.2.2), Nat.le_trans hsA hAB.size, hS'⟩,
        (hAB.block _ (Array.getElem?_eq_some_iff.1 hl).1 (fun h => by have := hS' _ h; omega)).trans hl, (hAB.block _ (Array.getElem?_eq_some_iff.1 hk).1 (fun h => by have := hS' _ h; omega)).trans hk⟩
    · rintro S pre x v W hpre hSb hsz ⟨⟨hi, hsW, hSl⟩, hl, hk⟩ hv
      rw [hsz1] at hv hSb
      have hlt : w.heap.size + 1 < W.heap.size := (Array.getElem?_eq_some_iff.1 hl).1
      have hy := run_yield (P := P) (args := #[v]) hl (by rw [hrec]; simp)
      rw [hrec] at hy
      have hy' : (Instr.yield (w.heap.size + 1) #[v]).run P W = .ok (.round (w.heap.size + 1) fn (a.tmps.setIfInBounds p v) assign body) W := by
        simpa using hy
      refine ⟨fn, _, assign, body, hy', roundIn_of_wpIn hfn ?_⟩
      refine hassign _ S x v W _ hsW hv ?_
      intro a' W' hbW' hax
      have hlW' : W'.heap[w.heap.size + 1]? = some (.loop (rec .ready none)) := (hbW'.block _ hlt).trans hl
      have hkW' : W'.heap[w.heap.size]? = some (.deferred (some [])) := (hbW'.block _ (by omega)).trans hk
      have hltW' : w.heap.size + 1 < W'.heap.size := by have := hbW'.size; omega
      refine ⟨_, run_beginRound hlW' (by rw [hrec]), ?_⟩
      have hl2 : (W'.putObj (w.heap.size + 1) (.loop { rec .ready none with state := .busy })).heap[w.heap.size + 1]? = some (.loop { rec .ready none with state := .busy }) := World.putObj_heap_same hltW'
      have hkp := Keep.put W' (w.heap.size + 1) (.loop { rec .ready none with state := .busy })
      have hkp2 : Keep (fun k => k ≠ w.heap.size ∧ k ≠ w.heap.size + 1) W' _ := hkp.mono fun k hk => hk.2
      have hIW' := hI S S pre _ _ (hI S S pre _ _ hi (fun _ h => h) (fun _ h => .inl h) hSl hsW (Keep.of_below hbW')) (fun _ h => h) (fun _ h => .inl h) hSl (Nat.le_trans hsW hbW'.size) (hkp2.mono fun k hk => ⟨hk.1, hk.2.1⟩)
      refine wpIn_mono (hbody _ S pre x v a' _ hpre (fun k h => ⟨hSl k h, by have := (hSb k h).2; exact Nat.lt_of_lt_of_le this (Nat.le_trans hbW'.size hkp.size)⟩) hIW' (hV S x v _ _ (hV S x v _ _ hv (Keep.of_below hbW')) hkp2) (hAx _ _ _ _ hax hkp2) (Nat.le_trans (Nat.le_trans hsW hbW'.size) hkp.size) ⟨_, (World.putObj_heap_other (by omega)).trans hkW', rfl⟩ ⟨_, hl2, rfl⟩) ?_
      have fin : ∀ (jump : Option Code) (W3 : World), (∀ k, (fp k ∨ k = w.heap.size ∨ k = w.heap.size + 1 ∨ S k) → W3.heap[k]? = (W'.putObj (w.heap.size + 1) (.loop { rec .ready none with state := .busy })).heap[k]?) →
          (Instr.endRound (w.heap.size + 1) jump).run P W3 = .ok (.bool jump.isNone) (W3.putObj (w.heap.size + 1) (.loop (rec (if jump.isNone then .ready else .done) jump))) ∧
          W3.heap[w.heap.size + 1]? = some (.loop { rec .ready none with state := .busy }) ∧
          (W3.putObj (w.heap.size + 1) (.loop (rec (if jump.isNone then .ready else .done) jump))).heap[w.heap.size + 1]? = some (.loop (rec (if jump.isNone then .ready else .done) jump)) ∧
          (W3.putObj (w.heap.size + 1) (.loop (rec (if jump.isNone then .ready else .done) jump))).heap[w.heap.size]? = some (.deferred (some [])) := fun jump W3 hk3 => by
        have hl3 := (hk3 (w.heap.size + 1) (by simp)).trans hl2
        have := run_endRound (P := P) jump hl3
        rw [hrec] at this ⊢
        refine ⟨this, by rw [hrec] at hl3; exact hl3, World.putObj_heap_same (Array.getElem?_eq_some_iff.1 hl3).1, (World.putObj_heap_other (by omega)).trans ((hk3 w.heap.size (by simp)).trans ((World.putObj_heap_other (by omega)).trans hkW'))⟩
      rintro e a3 W3 hp
      have keepP : ∀ (o : Obj), Keep (fun k => k ≠ w.heap.size ∧ k ≠ w.heap.size + 1) W3 (W3.putObj (w.heap.size + 1) o) := fun o => (Keep.put W3 (w.heap.size + 1) o).mono fun k hk => hk.2
      have both : ∀ (o : Obj), W'.heap.size ≤ W3.heap.size → (∀ k, (fp k ∨ k = w.heap.size ∨ k = w.heap.size + 1 ∨ S k) → W3.heap[k]? = (W'.putObj (w.heap.size + 1) (.loop { rec .ready none with state := .busy })).heap[k]?) →
          W.heap.size ≤ (W3.putObj (w.heap.size + 1) o).heap.size ∧ ∀ k, fp k ∨ S k → (W3.putObj (w.heap.size + 1) o).heap[k]? = W.heap[k]? := fun o hs3 hk3 => by
        refine ⟨Nat.le_trans (Nat.le_trans hbW'.size hs3) (keepP o).size, fun k hk => ?_⟩
        have hne : k ≠ w.heap.size + 1 := by
          rcases hk with hk | hk
          · have := hfp k hk; omega
          · have := hSl k hk; omega
        have hltk : k < W.heap.size := by
          rcases hk with hk | hk
          · have := hfp k hk; omega
          · exact (hSb k hk).2
        exact (World.putObj_heap_other hne).trans ((hk3 k (by rcases hk with hk | hk <;> simp [hk])).trans ((World.putObj_heap_other hne).trans (hbW'.block k hltk)))
      cases e with
      | normal =>
        obtain ⟨hs3, hk3, hi3⟩ := hp
        obtain ⟨hr, hl3, hl4, hk4⟩ := fin none W3 hk3
        have hs3' : W.heap.size ≤ W3.heap.size := Nat.le_trans (Nat.le_trans hbW'.size hkp.size) hs3
        exact ⟨_, _, hr, both _ (Nat.le_trans hkp.size hs3) hk3, .inl ⟨rfl, ⟨hI S S _ _ _ hi3 (fun _ h => h) (fun _ h => .inl h) hSl (Nat.le_trans hsW hs3') ((keepP _).mono fun k hk => ⟨hk.1, hk.2.1⟩), Nat.le_trans (Nat.le_trans hsW hs3') (keepP _).size, hSl⟩, hl4, hk4⟩⟩
      | ret =>
        obtain ⟨hs3, hk3, hi3⟩ := hp
        obtain ⟨hr, hl3, hl4, hk4⟩ := fin (some .ret) W3 hk3
        have hs3' : W.heap.size ≤ W3.heap.size := Nat.le_trans (Nat.le_trans hbW'.size hkp.size) hs3
        exact ⟨_, _, hr, both _ (Nat.le_trans hkp.size hs3) hk3, .inr ⟨rfl, .ret, ⟨hIx S S _ _ _ _ hi3 (fun _ h => h) (fun _ h => .inl h) hSl (Nat.le_trans hsW hs3') ((keepP _).mono fun k hk => ⟨hk.1, hk.2.1⟩), Nat.le_trans (Nat.le_trans hsW hs3') (keepP _).size, hSl⟩, hl4, hk4⟩⟩
      | exit id =>
        obtain ⟨hs3, hk3, hi3⟩ := hp
        obtain ⟨hr, hl3, hl4, hk4⟩ := fin (some (.exit id)) W3 hk3
        have hs3' : W.heap.size ≤ W3.heap.size := Nat.le_trans (Nat.le_trans hbW'.size hkp.size) hs3
        exact ⟨_, _, hr, both _ (Nat.le_trans hkp.size hs3) hk3, .inr ⟨rfl, .exit id, ⟨hIx S S _ _ _ _ hi3 (fun _ h => h) (fun _ h => .inl h) hSl (Nat.le_trans hsW hs3') ((keepP _).mono fun k hk => ⟨hk.1, hk.2.1⟩), Nat.le_trans (Nat.le_trans hsW hs3') (keepP _).size, hSl⟩, hl4, hk4⟩⟩
      | goto t =>
        obtain ⟨hs3, hk3, hi3⟩ := hp
        obtain ⟨hr, hl3, hl4, hk4⟩ := fin (some (.goto t)) W3 hk3
        have hs3' : W.heap.size ≤ W3.heap.size := Nat.le_trans (Nat.le_trans hbW'.size hkp.size) hs3
        exact ⟨_, _, hr, both _ (Nat.le_trans hkp.size hs3) hk3, .inr ⟨rfl, .goto t, ⟨hIx S S _ _ _ _ hi3 (fun _ h => h) (fun _ h => .inl h) hSl (Nat.le_trans hsW hs3') ((keepP _).mono fun k hk => ⟨hk.1, hk.2.1⟩), Nat.le_trans (Nat.le_trans hsW hs3') (keepP _).size, hSl⟩, hl4, hk4⟩⟩
      | panic ch => exact hp.elim
      | outgrown => exact hp.elim
    · exact ⟨⟨h0 W1 (Keep.of_below hbw |>.mono fun k _ => trivial) (by omega), by omega, fun k h => h.elim⟩, hL1, hK1⟩
    · rintro e W2 ⟨⟨v, rfl⟩, (⟨S, hSw, ⟨hi, hs2, hSl⟩, hl, hk⟩ | ⟨S, pre, hSp, c, ⟨hi, hs2, hSl⟩, hl, hk⟩)⟩
      · refine ⟨none, _, by have := run_endLoop (P := P) hl (by rw [hrec]; simp); rw [hrec] at this; exact this, hdone S _ (Nat.le_trans hs2 (Keep.put W2 _ _).size) (fun k h => ⟨hSl k h, Nat.lt_of_lt_of_le (hSw k h).2 (Keep.put W2 _ _).size⟩) (hI S S _ _ _ hi (fun _ h => h) (fun _ h => .inl h) hSl hs2 ((Keep.put W2 _ _).mono fun k hk => hk.2.1)) ((World.putObj_heap_other (by omega)).trans hk)⟩
      · refine ⟨some c, _, by have := run_endLoop (P := P) hl (by rw [hrec]; simp); rw [hrec] at this; exact this, hstop S c pre _ hSp hSl (hIx S S _ _ _ _ hi (fun _ h => h) (fun _ h => .inl h) hSl hs2 ((Keep.put W2 _ _).mono fun k hk => hk.2.1)) ((World.putObj_heap_other (by omega)).trans hk)⟩
end Go.Proofs.YtlffndehhhpgjaaGreat

namespace Go.Proofs.YtlffndehhhpgjaaGreat
open Go.RowKit
set_option linter.unusedVariables false
set_option linter.unusedSimpArgs false

section
variable {P : Program} {ops : Array Oper} {Q : Exit → Act → World → Prop} {md : Region.Mode} {S : World → Prop}

theorem wpOp_inWide (n : Nat) {i : Nat} {K : Act → World → Prop} {a : Act} {w : World} (hq : ¬ LetsOut Q) (h : wpOp P ops Q i K a w) : wpOpIn Fence.wide n P ops Q i K a w := by
  unfold wpOp at h
  unfold wpOpIn
  cases ho : ops[i]? with
  | none => simpa [ho] using h
  | some o =>
    simp only [ho] at h ⊢
    split
    · rename_i hw
      simp only [hw, if_true] at h
      have h := h.resolve_right (fun x => hq x.2)
      refine ⟨fun f _ => trivial, ?_⟩
      rw [show Fence.wide.round = none from rfl, Oper.semAt_none]
      unfold Oper.wp at h
      generalize (execOp a.eval o).run P w = r at *
      cases r with
      | ok x w' =>
        cases x <;> simp only [Oper.upon, Oper.uponIn] at h ⊢ <;> first
          | exact h
          | exact ⟨fun h => by simp [Fence.wide] at h, callsIn_wide.2 h⟩
          | (refine ⟨fun h => by simp [Fence.wide] at h, fun c cs _ => ?_⟩
             obtain ⟨v, w'', hr, hs⟩ := h c cs
             exact ⟨v, w'', hr, (StepsIn.of_steps hs).mono fun m _ => fenced_wide P m⟩)
      | halt x w' => cases x <;> simp only [Oper.upon, Oper.uponIn] at h ⊢ <;> exact h
    · rename_i hw
      simp only [hw] at h
      exact ⟨fun f _ => trivial, h⟩
theorem AnyT.inWide {T : Nat → World → Prop} (n : Nat) (hq : ¬ LetsOut Q) : ∀ (fuel : Nat) (listed : Array Bool) (a : Act) (w : World),
    AnyT P md ops Q T fuel listed a w → wpAnyIn Fence.wide n P md ops Q fuel listed a w
  | 0, _, _, _, h => h
  | fuel + 1, _, _, _, h => ⟨h.1, fun i hi => wpOpIn_mono (fun a' w' h' => AnyT.inWide n hq fuel _ a' w' h'.2) (wpOp_inWide n hq (h.2 i hi))⟩
theorem wide_region (T : Nat → World → Prop) (n : Nat) {id : Nat} {a : Act} {w : World} (hm : P.follows .mixedOrders = true) (hq : ¬ LetsOut Q)
    (h : AnyT P .any ops Q T ops.size (Array.replicate ops.size false) a w.drew) : (Code.region id ops true).wpIn Fence.wide n P Q a w :=
  wpIn_region_any hm (AnyT.inWide n hq _ _ _ _ h)
end

def markL (hs : List Nat) : List Deferred := hs.map fun h => { target := .collected h, args := #[] }
theorem marks_leave {F : Fence} {n : Nat} {P : Program} {fn : Func} {tmps : Array Value} {R : Ending → World → Prop} : ∀ (hs : List Nat) (w : World), hs.Nodup → (∀ h ∈ hs, w.heap[h]? = some (.deferred (some []))) →
    (∀ w', Keep (fun k => k ∉ hs) w w' → LeavesIn F n P fn tmps R [] .returning w') → LeavesInM F n P fn tmps R (markL hs) .returning w
  | [], w, _, _, h => h w (Keep.refl _ _)
  | k :: hs, w, hd, hm, h => by
    obtain ⟨h1, h2⟩ := List.nodup_cons.1 hd
    refine ⟨by simp [markL], .inl ⟨k, _, by rfl, run_takeDeferred (hm k (by simp)), ?_⟩⟩
    refine marks_leave hs _ h2 (fun q hq => (World.putObj_heap_other (by rintro rfl; exact h1 hq)).trans (hm q (by simp [hq]))) fun w' hk => h w' ?_
    have hp := Keep.put w k (.deferred none)
    refine ⟨hk.os.trans hp.os, hk.tape.trans hp.tape, hk.output.trans hp.output, Nat.le_trans hp.size hk.size, fun i hi hs' => ?_⟩
    have hne : i ≠ k := fun e => hs' (by simp [e])
    exact (hk.block i (Nat.lt_of_lt_of_le hi hp.size) (fun h => hs' (by simp [h]))).trans (World.putObj_heap_other hne)

def SetV (lo : Nat) (S : Nat → Prop) (x : List Int) (v : Value) (W : World) : Prop := ∃ a c, v = .slice a x.length c ∧ IntsAt W a x ∧ ∀ b o, a = some ⟨b, o, none⟩ → lo ≤ b
theorem SetV.keep {lo : Nat} {S : Nat → Prop} {x : List Int} {v : Value} {A B : World} {T : Nat → Prop} (h : SetV lo S x v A) (hk : Keep T A B) (hT : ∀ k, lo ≤ k → T k) : SetV lo S x v B := by
  obtain ⟨a, c, e, hi, hb⟩ := h
  refine ⟨a, c, e, fun j hj => ?_, hb⟩
  obtain ⟨b, o, e2, hlt, hc⟩ := hi j hj
  exact ⟨b, o, e2, Nat.lt_of_lt_of_le hlt hk.size, hk.cell hc (hT b (hb b o e2))⟩

theorem iter_setsS (w0 : World) (n k kb nb : Nat) (hn : n ≤ 1000) (hk : k ≤ 1000) (hkb : kb < w0.heap.size) (hnb : nb < w0.heap.size) (hf0 : w0.cell? ⟨kb, 0, none⟩ = some (.int .i64 k)) (hf1 : w0.cell? ⟨nb, 0, none⟩ = some (.int .i64 n)) :
    IterS Tryz.prog 222 #[.pointer (some ⟨kb, 0, none⟩), .pointer (some ⟨nb, 0, none⟩)] SetV (comb n k 0) (fun q => q = kb ∨ q = nb) w0 := by
  rcases Nat.eq_zero_or_pos k with rfl | h1
  · intro l J Jx W hb hJx hJ hY h0
    have hxs : comb n 0 0 = [[]] := by unfold comb; rfl
    rw [hxs] at hY ⊢
    have hg0 : W.cell? ⟨kb, 0, none⟩ = some (.int .i64 0) := (hb.cell (p := ⟨kb, 0, none⟩) hkb).trans hf0
    have hg1 : W.cell? ⟨nb, 0, none⟩ = some (.int .i64 n) := (hb.cell (p := ⟨nb, 0, none⟩) hnb).trans hf1
    have hkW : kb < W.heap.size := Nat.lt_of_lt_of_le hkb hb.size
    have hnW : nb < W.heap.size := Nat.lt_of_lt_of_le hnb hb.size
    have HJ := hid hJ
    have HY := hid hY
    have H0 := hid h0
    have HALL := hid (all_c W 0 (by decide))
    clear hJ hJx hY h0 hf0 hf1 hb hxs
    refine callsIn_of_wp Tryz.func222 rfl trivial ?_ rfl
    simp only [Tryz.ntmps222, List.size_toArray, List.length_cons, List.length_nil, Nat.reduceAdd, Nat.reduceSub, Array.replicate_succ, Array.replicate_zero, List.push_toArray, List.append_toArray, List.nil_append, List.cons_append]
    gi_wp2_with (refine ⟨trivial, rfl, ?_⟩; gi_at_call 194; refine (callsIn_wide.2 HALL.out).mono ?_; rintro e w1 ⟨v, rfl, ho1, hb1⟩; refine Stop.of ?_)
    refine Stop.go ?_
    obtain ⟨va, vc, rfl⟩ := ownsRow_slice ho1
    have hVB := own_block ho1
    have hJ1 : J (fun _ => False) [] w1 := HJ.out _ _ _ _ _ H0.out (fun _ h => h) (fun _ h => h.elim) (Keep.of_below hb1)
    have hc0 : w1.cell? ⟨kb, 0, none⟩ = some (.int .i64 0) := (hb1.cell (p := ⟨kb, 0, none⟩) hkW).trans hg0
    have hc1 : w1.cell? ⟨nb, 0, none⟩ = some (.int .i64 n) := (hb1.cell (p := ⟨nb, 0, none⟩) hnW).trans hg1
    have hyk := HY.out (fun _ => False) [] [] (.slice va 0 vc) w1 (List.prefix_refl _) (fun _ h => h.elim) hb1.size hJ1 ⟨va, vc, rfl, fun j hj => by simp at hj, fun b o e => (hVB b o e).1⟩
    have hn0 : (0 : Int) ≤ (n : Int) := by omega
    have HB1 := hid hb1
    clear ho1 hVB hJ1 HALL hb1
    gi_wp2
    refine wpIn_loop_once ?_
    obtain ⟨fn, tmps, assign, body, hy, hR⟩ := hyk
    gi_wp2
    refine ⟨rfl, hR.mono ?_⟩
    clear hR hy
    rintro e W3 ⟨⟨hs3, hk3⟩, ⟨rfl, hJ3⟩ | ⟨rfl, hJx⟩⟩
    · have hg30 : W3.cell? ⟨kb, 0, none⟩ = some (.int .i64 0) := (World.cell?_of_block (a := ⟨kb, 0, none⟩) (hk3 kb (Or.inl (Or.inl rfl)))).trans hc0
      have HJ3 := hid hJ3
      clear hJ3 hk3 hc0 hc1
      gi_wp2
      refine wpIn_loop_once ?_
      gi_wp2
      gi_quiet (fail)
      gi_wp2
      refine bodyPost_ret (results_none rfl _ _ _) rfl ?_
      exact ⟨⟨_, rfl⟩, .inl ⟨fun _ => False, fun _ h => h.elim, HJ.out _ _ _ _ _ HJ3.out (fun _ h => h) (fun _ h => h.elim) ((Keep.refl _ _).drewN _)⟩⟩
    · gi_wp2
      refine bodyPost_ret (results_none rfl _ _ _) rfl ?_
      exact ⟨⟨_, rfl⟩, .inr ⟨fun _ => False, [[]], List.prefix_refl _, hJx⟩⟩
  · intro l J Jx W hb hJx hJ hY h0
    refine (iter_sets w0 n k kb nb hn hk h1 hkb hnb hf0 hf1 l (fun it pre X => (pre = [] ∧ Keep (fun q => q ≠ it) W X) ∨ (J (fun q => q = it) pre X ∧ it < X.heap.size)) (fun pre X => ∃ S, Jx S pre X) W hb ?_ ?_ ?_).mono ?_
    · rintro it s A B _ (⟨e, hj⟩ | ⟨hj, hl⟩) hab
      · exact .inl ⟨e, hj.trans hab⟩
      · exact .inr ⟨hJ _ _ _ _ _ hj (fun _ h => h) (fun _ h => .inl h) hab, Nat.lt_of_lt_of_le hl hab.size⟩
    · intro it pre x cap sp W1 hpre hit hit1 hj hrow
      have hj : J (fun q => q = it) pre W1 := by
        rcases hj with ⟨e, hj⟩ | ⟨hj, _⟩
        · rw [e]
          exact hJ _ _ _ _ _ h0 (fun _ h => h.elim) (fun q hq => .inr (by rw [hq]; exact hit)) hj
        · exact hj
      have hsz : W.heap.size ≤ W1.heap.size := by omega
      have := hY (fun q => q = it) pre x (.slice (some ⟨it, 0, none⟩) x.length cap) W1 hpre (fun q hq => by subst hq; exact ⟨hit, hit1⟩) hsz hj ⟨_, _, rfl, ints_row hrow, fun b o e => by simp only [Option.some.injEq, Addr.mk.injEq] at e; rw [← e.1]; exact hit⟩
      obtain ⟨fn, tmps, assign, body, hy, hR⟩ := this
      refine ⟨fn, tmps, assign, body, hy, hR.mono ?_⟩
      rintro e W3 ⟨⟨h2, h3⟩, ⟨he, h1⟩ | ⟨he, h⟩⟩
      · exact .inl ⟨he, .inr ⟨h1, Nat.lt_of_lt_of_le hit1 h2⟩, h2, h3⟩
      · exact .inr ⟨he, _, h⟩
    · intro it hit
      exact .inl ⟨rfl, Keep.refl _ _⟩
    · rintro e W' ⟨hv, ⟨it, hit, ⟨e, hj⟩ | ⟨hj, hl⟩⟩ | ⟨pre, hpre, S, hj⟩⟩
      · rw [e]
        refine ⟨hv, .inl ⟨fun q => q = it ∧ q < W'.heap.size, fun q hq => by rw [hq.1]; exact ⟨hit, by have := hq.2; rwa [hq.1] at this⟩, hJ _ _ _ _ _ h0 (fun _ h => h.elim) (fun q hq => .inr (by rw [hq.1]; exact hit)) ?_⟩⟩
        exact ⟨hj.os, hj.tape, hj.output, hj.size, fun i hi _ => hj.block i hi (fun e => by omega)⟩
      · exact ⟨hv, .inl ⟨_, fun q hq => by rw [hq]; exact ⟨hit, hl⟩, hj⟩⟩
      · exact ⟨hv, .inr ⟨_, _, hpre, hj⟩⟩
end Go.Proofs.YtlffndehhhpgjaaGreat

namespace Go.Proofs.YtlffndehhhpgjaaGreat
open Go.RowKit
set_option linter.unusedVariables false
set_option linter.unusedSimpArgs false
attribute [local go_sem] Oper.semAt_some

theorem wide_regionK {P : Program} {ops : Array Oper} (T : Nat → World → Prop) (n : Nat) {id : Nat} {a : Act} {w : World} {K : Act → World → Prop} {Q : Exit → Act → World → Prop} (hm : P.follows .mixedOrders = true)
    (h : AnyT P .any ops (Exit.then K (fun _ _ _ => False)) T ops.size (Array.replicate ops.size false) a w.drew) : (Code.region id ops true).wpIn Fence.wide n P (Exit.then K Q) a w :=
  wpIn_mono (wide_region T n hm (fun ⟨_, _, h⟩ => h) h) (by intro e a w h; cases e <;> first | exact h | exact h.elim)

theorem run_min3 {P : Program} (u : Array TypeId) (t : TypeId) (x y z : Int) (w : World) : (Builtin.min_ u t #[.int .i64 x, .int .i64 y, .int .i64 z]).run P w = .ok (.int .i64 (min (min x y) z)) w := by
  have h1 : Builtin.min_ u t #[.int .i64 x, .int .i64 y, .int .i64 z] = pure (.int .i64 (min (min x y) z)) := by
    unfold Builtin.min_
    simp only [List.foldlM, Builtin.min2, pure_bind]
    congr 2
    by_cases h : y < x
    · rw [if_pos h]; split <;> omega
    · rw [if_neg h]; split <;> omega
  rw [h1]; rfl

structure FitsI (w0 : World) (fp : Nat → Prop) (l : Nat) (J : (Nat → Prop) → List FitT → World → Prop) (lo : Nat) (pre : List FitT) (S : Nat → Prop) (hs : List Nat) (X : World) : Prop where
  j : J S pre X
  s : ∀ k, S k → lo ≤ k
  y : S lo
  c : X.cell? ⟨lo, 0, none⟩ = some (.func (.yield l) #[] #[])
  f : ∀ k, fp k → k < lo ∧ X.heap[k]? = w0.heap[k]?
  z : lo < X.heap.size
  m : ∀ h ∈ hs, S h ∧ X.heap[h]? = some (.deferred (some []))

theorem FitsI.keep {w0 : World} {fp : Nat → Prop} {l lo : Nat} {J : (Nat → Prop) → List FitT → World → Prop} {pre : List FitT} {S S' : Nat → Prop} {hs : List Nat} {A B : World}
    (hJ : ∀ S S' s A B, J S s A → (∀ k, S k → S' k) → (∀ k, S' k → S k ∨ A.heap.size ≤ k) → Keep (fun k => ¬ S' k) A B → J S' s B)
    (h : FitsI w0 fp l J lo pre S hs A) (h1 : ∀ k, S k → S' k) (h2 : ∀ k, S' k → S k ∨ A.heap.size ≤ k) {T : Nat → Prop} (hk : Keep T A B) (hT : ∀ k, k < A.heap.size → ¬ S' k → T k) (hTl : T lo) (hTm : ∀ h ∈ hs, T h) :
    FitsI w0 fp l J lo pre S' hs B where
  j := hJ _ _ _ _ _ h.j h1 h2 ⟨hk.os, hk.tape, hk.output, hk.size, fun i hi hs => hk.block i hi (hT i hi hs)⟩
  s := fun k hk' => by
    rcases h2 k hk' with h3 | h3
    · exact h.s k h3
    · have := h.z; omega
  y := h1 _ h.y
  c := hk.cell h.c hTl
  f := fun k hk' => by
    obtain ⟨h3, h4⟩ := h.f k hk'
    refine ⟨h3, (hk.block k (Nat.lt_trans h3 h.z) ?_).trans h4⟩
    refine hT k (Nat.lt_trans h3 h.z) fun h5 => ?_
    rcases h2 k h5 with h6 | h6
    · have := h.s k h6; omega
    · have := h.z; omega
  z := Nat.lt_of_lt_of_le h.z hk.size
  m := fun q hq => by
    obtain ⟨h3, h4⟩ := h.m q hq
    exact ⟨h1 _ h3, (hk.block q (Array.getElem?_eq_some_iff.1 h4).1 (hTm q hq)).trans h4⟩

theorem FitsI.step {w0 : World} {fp : Nat → Prop} {l lo : Nat} {J J' : (Nat → Prop) → List FitT → World → Prop} {pre pre' : List FitT} {S : Nat → Prop} {hs : List Nat} {A B C : World}
    (h : FitsI w0 fp l J lo pre S hs A) (hS : ∀ k, S k → k < A.heap.size) (hb : Below A.heap.size A B) (hz : B.heap.size ≤ C.heap.size) (hk : ∀ k, fp k ∨ S k → C.heap[k]? = B.heap[k]?) (hj : J' S pre' C) : FitsI w0 fp l J' lo pre' S hs C where
  j := hj
  s := h.s
  y := h.y
  c := (World.cell?_of_block (a := ⟨lo, 0, none⟩) (hk lo (.inr h.y))).trans ((hb.cell (p := ⟨lo, 0, none⟩) h.z).trans h.c)
  f := fun k hk' => by
    obtain ⟨h3, h4⟩ := h.f k hk'
    exact ⟨h3, (hk k (.inl hk')).trans ((hb.block k (Nat.lt_trans h3 h.z)).trans h4)⟩
  z := Nat.lt_of_lt_of_le h.z (Nat.le_trans hb.size hz)
  m := fun q hq => by
    obtain ⟨h3, h4⟩ := h.m q hq
    exact ⟨h3, (hk q (.inr h3)).trans ((hb.block q (hS q h3)).trans h4)⟩

theorem fitsTo_prefix (M : Mask) (y : List Int) (W t : Nat) : ∀ d, fitsTo M y W t <+: fitsTo M y W (t + d)
  | 0 => List.prefix_refl _
  | d + 1 => by
    rw [show t + (d + 1) = (t + d) + 1 by omega, fitsTo_succ]
    exact (fitsTo_prefix M y W t d).trans (List.prefix_append _ _)
theorem fitsTo_in' {M : Mask} {y : List Int} {W t N : Nat} {pre : List (List Int)} (ht : t < N + 1) (hp : pre <+: comb W t 0) :
    fitsTo M y W t ++ pre.filterMap (fitF M y) <+: fitsTo M y W (N + 1) := by
  obtain ⟨r, hr⟩ := hp
  have h1 : fitsTo M y W t ++ pre.filterMap (fitF M y) <+: fitsTo M y W (t + 1) := by
    rw [fitsTo_succ, ← hr, List.filterMap_append]
    exact ⟨r.filterMap (fitF M y), by rw [List.append_assoc]⟩
  obtain ⟨d, rfl⟩ : ∃ d, N = t + d := ⟨N - t, by omega⟩
  exact h1.trans (by rw [show t + d + 1 = t + 1 + d by omega]; exact fitsTo_prefix M y W (t + 1) d)
theorem fitsTo_in {M : Mask} {y : List Int} {W t N : Nat} {pre : List (List Int)} {x : List Int} {f : FitT} (ht : t < N + 1) (hp : pre ++ [x] <+: comb W t 0) (hf : fitF M y x = some f) :
    (fitsTo M y W t ++ pre.filterMap (fitF M y)) ++ [f] <+: fitsTo M y W (N + 1) := by
  have e : (fitsTo M y W t ++ pre.filterMap (fitF M y)) ++ [f] = fitsTo M y W t ++ (pre ++ [x]).filterMap (fitF M y) := by
    simp [List.filterMap_append, hf]
  rw [e]
  exact fitsTo_in' ht hp

theorem FitV.own {lo lo2 : Nat} {S : Nat → Prop} {f : FitT} {v : Value} {A B : World} (h : FitV lo (fun _ => False) f v A) (hb : Below A.heap.size A B) (hl : lo2 ≤ lo) (hS : ∀ q, S q → q < lo) : FitV lo2 S f v B := by
  obtain ⟨pa, pn, pc, va, vn, vc, e, h1, h2, h3, h4, h5, h6, h7, h8⟩ := h
  refine ⟨pa, pn, pc, va, vn, vc, e, h1, h2, h3, h4, h5.below hb, h6.below hb, fun b o e => ?_, fun b o e => ?_⟩
  · obtain ⟨g1, g2, _, c, z, g4⟩ := h7 b o e
    exact ⟨Nat.le_trans hl g1, Nat.lt_of_lt_of_le g2 hb.size, fun h => by have := hS b h; omega, c, z, (hb.block b g2).trans g4⟩
  · obtain ⟨g1, g2, _, c, z, g4⟩ := h8 b o e
    exact ⟨Nat.le_trans hl g1, Nat.lt_of_lt_of_le g2 hb.size, fun h => by have := hS b h; omega, c, z, (hb.block b g2).trans g4⟩

set_option maxRecDepth 100000 in
set_option maxHeartbeats 4000000 in
theorem fits_iter (w0 : World) (fp : Nat → Prop) (k kb qb : Nat) (a a2 : Option Addr) (n cap n2 cap2 : Nat) (M : Mask) (y : List Int) (hn : M.length = n) (hn2 : y.length = n2) (hm : n ≤ maxLen) (hm2 : n2 ≤ maxLen) (h1 : 1 ≤ n) (hW : colsM M ≤ 1000) (hk : k ≤ 1000)
    (hfp : ∀ q, fp q → q < w0.heap.size) (hkb : fp kb) (hqb : fp qb) (hck : w0.cell? ⟨kb, 0, none⟩ = some (.int .i64 k)) (hcq : w0.heap[qb]? = some (.cells #[.slice a n cap, .slice a2 n2 cap2] 216 (0, 0)))
    (hR : ∀ X : World, w0.heap.size ≤ X.heap.size → (∀ q, fp q → X.heap[q]? = w0.heap[q]?) → RowsAt X a M ∧ IntsAt X a2 y) :
    IterS Tryz.prog 254 #[.pointer (some ⟨kb, 0, none⟩), .pointer (some ⟨qb, 0, none⟩)] FitV (fitsF M y k) fp w0 := by
  intro l J Jx W hb hJx hJ hY h0
  have hkW : kb < W.heap.size := Nat.lt_of_lt_of_le (hfp _ hkb) hb.size
  have hqW : qb < W.heap.size := Nat.lt_of_lt_of_le (hfp _ hqb) hb.size
  have hFW : ∀ q, fp q → W.heap[q]? = w0.heap[q]? := fun q hq => hb.block q (hfp q hq)
  have HJ := hid hJ
  have HJx := hid hJx
  have HY := hid hY
  have H0 := hid h0
  have HFW := hid hFW
  have HR := hid hR
  have HFP := hid hfp
  have HB := hid hb
  have HK := hid (show ∀ X : World, (∀ q, fp q → X.heap[q]? = w0.heap[q]?) → X.cell? ⟨kb, 0, none⟩ = some (.int .i64 k) from fun X hX => (World.cell?_of_block (a := ⟨kb, 0, none⟩) (hX kb hkb)).trans hck)
  have HQ := hid (show ∀ X : World, (∀ q, fp q → X.heap[q]? = w0.heap[q]?) → X.heap[qb]? = some (.cells #[.slice a n cap, .slice a2 n2 cap2] 216 (0, 0)) from fun X hX => (hX qb hqb).trans hcq)
  clear hJ hJx hY h0 hFW hck hcq hR hfp hb hkb hqb
  refine callsIn_of_wp_marks Tryz.func254 rfl trivial ?_ rfl
  simp only [Tryz.ntmps254, List.size_toArray, List.length_cons, List.length_nil, Nat.reduceAdd, Nat.reduceSub, Array.replicate_succ, Array.replicate_zero, List.push_toArray, List.append_toArray, List.nil_append, List.cons_append]
  gi_wp2
  obtain ⟨w1, hw1⟩ : ∃ w1, w1 = W.alloc (.cells #[.func (.yield l) #[] #[]] 233) := ⟨_, rfl⟩
  rw [← hw1]
  have hs1 : w1.heap.size = W.heap.size + 1 := by rw [hw1]; simp
  have hF1 : ∀ q, fp q → w1.heap[q]? = w0.heap[q]? := fun q hq => by
    rw [hw1, Below.heap_alloc _ _ _ (Nat.lt_of_lt_of_le (HFP.out q hq) HB.out.size)]; exact HFW.out q hq
  have hc1 : w1.cell? ⟨W.heap.size, 0, none⟩ = some (.func (.yield l) #[] #[]) := by rw [hw1, World.cell?_alloc_at _ _ _ _ rfl]; rfl
  have HB1 := hid (show Below W.heap.size W w1 by rw [hw1]; exact (Below.refl _ _).alloc (Nat.le_refl _) _)
  obtain ⟨w2, hw2⟩ : ∃ w2, w2 = w1.drew := ⟨_, rfl⟩
  have HF1 := hid hF1
  have HC1 := hid hc1
  have HS1 := hid hs1
  clear hs1 hF1 hc1
  refine wide_regionK (fun j w' => decide (j < 9) = true → (∀ q, q < W.heap.size + 1 → w'.heap[q]? = w1.heap[q]?) ∧ W.heap.size + 1 ≤ w'.heap.size ∧ w'.cell? ⟨kb, 0, none⟩ = some (.int .i64 k) ∧ w'.cell? ⟨qb, 0, none⟩ = some (.slice a n cap) ∧ w'.cell? ⟨qb, 1, none⟩ = some (.slice a2 n2 cap2)) 0 (by kernel_rfl) ?_
  rw [← hw2]
  have hF2 : ∀ q, fp q → w2.heap[q]? = w0.heap[q]? := fun q hq => by rw [hw2]; exact HF1.out q hq
  have HS := hid (show ∀ X : World, (∀ q, q < W.heap.size + 1 → X.heap[q]? = w1.heap[q]?) → W.heap.size + 1 ≤ X.heap.size → (∀ q, q < W.heap.size + 1 → X.heap[q]? = w1.heap[q]?) ∧ W.heap.size + 1 ≤ X.heap.size ∧ X.cell? ⟨kb, 0, none⟩ = some (.int .i64 k) ∧ X.cell? ⟨qb, 0, none⟩ = some (.slice a n cap) ∧ X.cell? ⟨qb, 1, none⟩ = some (.slice a2 n2 cap2) from fun X hX hs => by
    have hF : ∀ q, fp q → X.heap[q]? = w0.heap[q]? := fun q hq => (hX q (by have := HFP.out q hq; have := HB.out.size; omega)).trans (HF1.out q hq)
    have hq := HQ.out X hF
    exact ⟨hX, hs, HK.out X hF, by simp [World.cell?, hq], by simp [World.cell?, hq]⟩)
  have h2 := HS.out w2 (fun q _ => by rw [hw2]; rfl) (by rw [hw2]; exact Nat.le_of_eq HS1.out.symm)
  refine AnyT.takeD (i := 0) (v := .int .i64 k) rfl rfl (by kernel_rfl) (by kernel_rfl) (by kernel_rfl) (by first | exact (fun _ _ _ h => h) | exact (fun _ _ _ h => absurd h.1 (by simp))) (by kernel_rfl) (by rfl) (by rintro w' ⟨_, _, q5, q6, q7⟩; go_simp) h2 ?_; go_frame
  refine AnyT.takeD (i := 1) (v := .agg #[.slice a n cap, .slice a2 n2 cap2]) rfl rfl (by kernel_rfl) (by kernel_rfl) (by kernel_rfl) (by first | exact (fun _ _ _ h => h) | exact (fun _ _ _ h => absurd h.1 (by simp))) (by kernel_rfl) (by rfl) (by rintro w' ⟨_, _, q5, q6, q7⟩; go_simp) h2 ?_; go_frame
  refine AnyT.takeD (i := 3) (v := .pointer (some ⟨qb, 0, none⟩)) rfl rfl (by kernel_rfl) (by kernel_rfl) (by kernel_rfl) (by first | exact (fun _ _ _ h => h) | exact (fun _ _ _ h => absurd h.1 (by simp))) (by kernel_rfl) (by rfl) (by rintro w' q5; go_simp) h2 ?_; go_frame
  refine AnyT.takeD (i := 4) (v := .slice a n cap) rfl rfl (by kernel_rfl) (by kernel_rfl) (by kernel_rfl) (by first | exact (fun _ _ _ h => h) | exact (fun _ _ _ h => absurd h.1 (by simp))) (by kernel_rfl) (by rfl) (by rintro w' ⟨_, _, q5, q6, q7⟩; go_simp) h2 ?_; go_frame
  refine AnyT.takeD (i := 5) (v := .int .i64 n) rfl rfl (by kernel_rfl) (by kernel_rfl) (by kernel_rfl) (by first | exact (fun _ _ _ h => h) | exact (fun _ _ _ h => absurd h.1 (by simp))) (by kernel_rfl) (by rfl) (by rintro w' q5; go_simp) h2 ?_; go_frame
  refine AnyT.takeD (i := 8) (v := .int .i64 0) rfl rfl (by kernel_rfl) (by kernel_rfl) (by kernel_rfl) (by first | exact (fun _ _ _ h => h) | exact (fun _ _ _ h => absurd h.1 (by simp))) (by kernel_rfl) (by rfl) (by rintro w' q5; go_simp) h2 ?_; go_frame
  refine AnyT.next (i := 2) (by kernel_rfl) rfl (wpOp_of_list rfl ?_)
  have HPX := hid (fun (X : World) (h : RowsAt X a M) => qpixels_c X a a2 n cap n2 cap2 M hn h1 h)
  have HR2 := hid (show RowsAt w2 a M from (HR.out w2 (Nat.le_trans HB.out.size (Nat.le_trans (Nat.le_succ _) h2.2.1)) hF2).1)
  have hB2 : Below W.heap.size W w2 := by rw [hw2]; exact HB1.out.drew
  clear hF2 hw2 hw1
  go_wp2_with (go_at_call 255; go_loud (refine (HPX.out w2 HR2.out).mono ?_; rintro e w3 ⟨rfl, hb3⟩; refine Stop.of ?_))
  refine Stop.go ?_
  have h3 := HS.out w3 (fun q hq => (hb3.block q (Nat.lt_of_lt_of_le hq h2.2.1)).trans (h2.1 q hq)) (Nat.le_trans h2.2.1 hb3.size)
  go_wp2
  refine ⟨fun _ => h3, ?_⟩
  obtain ⟨Wn, hWn⟩ : ∃ Wn, Wn = colsM M := ⟨_, rfl⟩
  rw [← hWn] at hW ⊢
  obtain ⟨N, hN⟩ : ∃ N : Nat, N = min (min k Wn) n := ⟨_, rfl⟩
  have HN := hid (show fitsF M y k = fitsTo M y Wn (N + 1) by rw [hN, hWn, ← hn]; rfl)
  have HWn := hid hWn
  have hNc : min (min (k : Int) (Wn : Int)) (n : Int) = (N : Int) := by omega
  have HNC := hid hNc
  have HN1 := hid (show N ≤ 1000 by omega)
  clear hNc hN hWn
  refine AnyT.takeD (i := 6) (v := .int .i64 N) rfl rfl (by kernel_rfl) (by kernel_rfl) (by kernel_rfl) (by first | exact (fun _ _ _ h => h) | exact (fun _ _ _ h => absurd h.1 (by simp))) (by kernel_rfl) (by rfl) (by rintro w' hw'; go_simp; rw [run_min3, HNC.out]; rfl) h3 ?_; go_frame
  have HW9 := hid (show IntKind.i64.wrap ((N : Int) + 1) = (N : Int) + 1 from IntWalk.i64_in _ (by have := HN1.out; omega))
  refine AnyT.takeD (i := 7) (v := .int .i64 ((N : Int) + 1)) rfl rfl (by kernel_rfl) (by kernel_rfl) (by kernel_rfl) (by first | exact (fun _ _ _ h => h) | exact (fun _ _ _ h => absurd h.1 (by simp))) (by kernel_rfl) (by rfl) (by rintro w' hw'; go_simp; exact HW9.out) h3 ?_; go_frame
  refine ⟨by kernel_rfl, ?_⟩
  have H3 := hid h3
  have HB3 := hid (chain hB2 hb3)
  clear h2 h3 hB2 hb3
  gi_wp2
  obtain ⟨I, hI⟩ : ∃ I : Act → World → Prop, I = (fun a' X => ∃ (u4 u5 u6 u7 u8 u9 u10 u11 u12 u13 u14 u17 u18 u19 u20 u21 u22 u23 u24 u25 u26 u27 u28 u29 u30 u31 u32 u33 u34 u35 u36 u37 : Value), ∃ (t : Nat) (S : Nat → Prop) (hs : List Nat), t ≤ N + 1 ∧ FitsI w0 fp l J W.heap.size (fitsTo M y Wn t) S hs X ∧ (∀ k, S k → k < X.heap.size) ∧ hs.Nodup ∧
    a' = ⟨#[.func (.yield l) #[] #[], .pointer (some ⟨kb, 0, none⟩), .pointer (some ⟨qb, 0, none⟩), .pointer (some ⟨W.heap.size, 0, none⟩), u4, u5, u6, u7, u8, u9, u10, u11, u12, u13, u14, .int .i64 ((N : Int) + 1), .int .i64 t, u17, u18, u19, u20, u21, u22, u23, u24, u25, u26, u27, u28, u29, u30, u31, u32, u33, u34, u35, u36, u37], markL hs⟩) := ⟨_, rfl⟩
  have HI := hid hI
  clear hI
  obtain ⟨mu, hmu⟩ : ∃ mu : Act → World → Nat, mu = (fun a' _ => N + 1 - (intOf (a'.tmps.getD 16 undef)).toNat) := ⟨_, rfl⟩
  have HMU := hid hmu
  clear hmu
  refine wpIn_loop I mu ?_ ?_
  · rw [HI.out]
    refine ⟨_, _, _, _, _, _, _, _, _, _, _, _, _, _, _, _, _, _, _, _, _, _, _, _, _, _, _, _, _, _, _, _, 0, (fun q => q = W.heap.size), [], Nat.zero_le _, ?_, ?_, List.nodup_nil, rfl⟩
    · refine ⟨?_, ?_, rfl, ?_, ?_, ?_, ?_⟩
      · exact HJ.out _ _ _ _ _ H0.out (fun _ h => h.elim) (fun q hq => .inr (Nat.le_of_eq (Eq.symm hq))) (Keep.of_below HB3.out)
      · intro q hq; exact Nat.le_of_eq (Eq.symm hq)
      · exact (World.cell?_of_block (a := ⟨W.heap.size, 0, none⟩) (H3.out.1 _ (Nat.lt_succ_self _))).trans HC1.out
      · intro q hq
        have hql := Nat.lt_of_lt_of_le (HFP.out q hq) HB.out.size
        exact ⟨hql, (H3.out.1 q (Nat.lt_succ_of_lt hql)).trans (HF1.out q hq)⟩
      · exact H3.out.2.1
      · intro h hh; cases hh
    · intro q hq; rw [hq]; exact H3.out.2.1
  · intro a' X hIX
    rw [HI.out] at hIX
    obtain ⟨u4, hIX⟩ := hIX; obtain ⟨u5, hIX⟩ := hIX; obtain ⟨u6, hIX⟩ := hIX; obtain ⟨u7, hIX⟩ := hIX; obtain ⟨u8, hIX⟩ := hIX; obtain ⟨u9, hIX⟩ := hIX; obtain ⟨u10, hIX⟩ := hIX; obtain ⟨u11, hIX⟩ := hIX; obtain ⟨u12, hIX⟩ := hIX; obtain ⟨u13, hIX⟩ := hIX; obtain ⟨u14, hIX⟩ := hIX; obtain ⟨u17, hIX⟩ := hIX; obtain ⟨u18, hIX⟩ := hIX; obtain ⟨u19, hIX⟩ := hIX; obtain ⟨u20, hIX⟩ := hIX; obtain ⟨u21, hIX⟩ := hIX; obtain ⟨u22, hIX⟩ := hIX; obtain ⟨u23, hIX⟩ := hIX; obtain ⟨u24, hIX⟩ := hIX; obtain ⟨u25, hIX⟩ := hIX; obtain ⟨u26, hIX⟩ := hIX; obtain ⟨u27, hIX⟩ := hIX; obtain ⟨u28, hIX⟩ := hIX; obtain ⟨u29, hIX⟩ := hIX; obtain ⟨u30, hIX⟩ := hIX; obtain ⟨u31, hIX⟩ := hIX; obtain ⟨u32, hIX⟩ := hIX; obtain ⟨u33, hIX⟩ := hIX; obtain ⟨u34, hIX⟩ := hIX; obtain ⟨u35, hIX⟩ := hIX; obtain ⟨u36, hIX⟩ := hIX; obtain ⟨u37, hIX⟩ := hIX
    obtain ⟨t, S, hs, ht, hX, hSX, hnd, rfl⟩ := hIX
    have HX := hid hX
    have HSX := hid hSX
    have HND := hid hnd
    by_cases hlt : t < N + 1
    · have hlt' : (t : Int) < (N : Int) + 1 := by omega
      have hXF : ∀ q, fp q → X.heap[q]? = w0.heap[q]? := fun q hq => (hX.f q hq).2
      have hXz : W.heap.size < X.heap.size := hX.z
      have hq0 : X.cell? ⟨qb, 0, none⟩ = some (.slice a n cap) := by have hq := HQ.out X hXF; simp [World.cell?, hq]
      have hq1 : X.cell? ⟨qb, 1, none⟩ = some (.slice a2 n2 cap2) := by have hq := HQ.out X hXF; simp [World.cell?, hq]
      have HPQ := hid (HPX.out X (HR.out X (Nat.le_trans HB.out.size (Nat.le_of_lt hXz)) hXF).1)
      clear hX hSX hnd hXF
      gi_wp2_with (refine ⟨trivial, rfl, ?_⟩; gi_at_call 255; refine (callsIn_wide.2 HPQ.out).mono ?_; rintro e Y ⟨rfl, hbY⟩; refine Stop.of ?_)
      refine Stop.go ?_
      rw [← HWn.out]
      gi_wp2_with (refine ⟨trivial, rfl, ?_⟩; gi_at_call 178; refine (callsIn_wide.2 (sets_c _ _ _)).mono ?_; rintro e w' ⟨rfl, rfl⟩; refine Stop.of ?_)
      refine Stop.go ?_
      obtain ⟨wL, hwL⟩ : ∃ wL, wL = (Y.alloc (.cells #[.int .i64 Wn] 3)).alloc (.cells #[.int .i64 t] 3) := ⟨_, rfl⟩
      have hsz : wL.heap.size = Y.heap.size + 2 := by rw [hwL]; simp
      have hbL : Below Y.heap.size Y wL := by rw [hwL]; exact ((Below.refl _ Y).alloc (Nat.le_refl _) _).alloc (by simp) _
      have hZ0 : Boxed wL Y.heap.size 3 (.int .i64 Wn) := by rw [hwL]; exact (Boxed.new Y 3 (.int .i64 (Wn : Int))).alloc _
      have hZ1 : Boxed wL (Y.heap.size + 1) 3 (.int .i64 (t : Int)) := by
        rw [hwL]
        have h1 := Boxed.new (Y.alloc (.cells #[.int .i64 (Wn : Int)] 3)) 3 (.int .i64 (t : Int))
        rwa [World.size_alloc] at h1
      have hF0 := hZ1.cell
      have hF1 := hZ0.cell
      rw [← hwL]
      have hbXL := chain hbY hbL
      have HBXL := hid hbXL
      have HSZ := hid hsz
      have hXY := hbY.size
      have HXY := hid hXY
      clear hwL hq0 hq1 hZ0 hZ1 hbXL hbY
      have ht1k : t ≤ 1000 := by have := HN1.out; omega
      gi_wp2
      obtain ⟨T, hT⟩ : ∃ T : (Nat → Prop) → Nat → Prop, T = fun Sr q => S q ∨ q = Y.heap.size ∨ q = Y.heap.size + 1 ∨ q = wL.heap.size ∨ q = wL.heap.size + 1 ∨ Sr q := ⟨_, rfl⟩
      refine range_s (gf := 222) (lb := #[.pointer (some ⟨Y.heap.size + 1, 0, none⟩), .pointer (some ⟨Y.heap.size, 0, none⟩)]) (xs := comb Wn t 0) (fp := fun k => k = Y.heap.size + 1 ∨ k = Y.heap.size) (V := SetV) rfl (enters_of Tryz.func222 (by kernel_rfl) rfl)
        (iter_setsS wL Wn t (Y.heap.size + 1) Y.heap.size hW ht1k (by omega) (by omega) hF0 hF1) (Below.refl _ _) (by intro k hk; omega)
        (fun Sr pre Z => FitsI w0 fp l J W.heap.size (fitsTo M y Wn t ++ pre.filterMap (fitF M y)) (T Sr) hs Z)
        (fun Sr c pre Z => c = .ret ∧ FitsI w0 fp l Jx W.heap.size (fitsTo M y Wn t ++ pre.filterMap (fitF M y)) (T Sr) hs Z) ?hI ?hIx ?hV ?h0 (fun v a' Z => a' = { tmps := #[.func (.yield l) #[] #[], .pointer (some ⟨kb, 0, none⟩), .pointer (some ⟨qb, 0, none⟩), .pointer (some ⟨W.heap.size, 0, none⟩), .int .i64 t, v, u6, u7, u8, u9, u10, u11, u12, u13, u14, .int .i64 ((N : Int) + 1), .int .i64 t, .bool true, .int .i64 t, .agg #[.slice a n cap, .slice a2 n2 cap2], .int .i64 Wn, .int .i64 t, .func (.func 222) #[] #[.pointer (some ⟨Y.heap.size + 1, 0, none⟩), .pointer (some ⟨Y.heap.size, 0, none⟩)], v, u24, u25, u26, u27, u28, u29, u30, u31, u32, u33, u34, u35, u36, u37], defers := [] }) ?hAx ?hassign ?hbody ?hdone ?hstop
      case hI =>
        intro Sr Sr' s A B hIA h1 h2 h3 h4 hk
        refine hIA.keep HJ.out ?_ ?_ hk ?_ ?_ ?_
        · rw [hT]; rintro q (h | h | h | h | h | h) <;> simp [h, h1]
        · rw [hT]; rintro q (h | h | h | h | h | h)
          · exact .inl (.inl h)
          · exact .inl (.inr (.inl h))
          · exact .inl (.inr (.inr (.inl h)))
          · exact .inl (.inr (.inr (.inr (.inl h))))
          · exact .inl (.inr (.inr (.inr (.inr (.inl h)))))
          · rcases h2 q h with h | h
            · exact .inl (.inr (.inr (.inr (.inr (.inr h)))))
            · exact .inr h
        · rw [hT]; intro q _ hq; simp only [not_or] at hq; exact ⟨hq.2.2.2.1, hq.2.2.2.2.1, hq.2.2.2.2.2⟩
        · exact ⟨by omega, by omega, fun h => by have := h3 _ h; omega⟩
        · intro q hq
          have := HSX.out q (HX.out.m q hq).1
          exact ⟨by omega, by omega, fun h => by have := h3 _ h; omega⟩
      case hIx =>
        rintro Sr Sr' c s A B ⟨hc, hIA⟩ h1 h2 h3 h4 hk
        refine ⟨hc, hIA.keep HJx.out ?_ ?_ hk ?_ ?_ ?_⟩
        · rw [hT]; rintro q (h | h | h | h | h | h) <;> simp [h, h1]
        · rw [hT]; rintro q (h | h | h | h | h | h)
          · exact .inl (.inl h)
          · exact .inl (.inr (.inl h))
          · exact .inl (.inr (.inr (.inl h)))
          · exact .inl (.inr (.inr (.inr (.inl h))))
          · exact .inl (.inr (.inr (.inr (.inr (.inl h)))))
          · rcases h2 q h with h | h
            · exact .inl (.inr (.inr (.inr (.inr (.inr h)))))
            · exact .inr h
        · rw [hT]; intro q _ hq; simp only [not_or] at hq; exact ⟨hq.2.2.2.1, hq.2.2.2.2.1, hq.2.2.2.2.2⟩
        · exact ⟨by omega, by omega, fun h => by have := h3 _ h; omega⟩
        · intro q hq
          have := HSX.out q (HX.out.m q hq).1
          exact ⟨by omega, by omega, fun h => by have := h3 _ h; omega⟩
      case hV =>
        intro Sr x v A B hv hk
        exact hv.keep hk (fun k hk => ⟨by omega, by omega⟩)
      case h0 =>
        intro Z hk hZ
        rw [List.filterMap_nil, List.append_nil]
        refine HX.out.keep HJ.out ?_ ?_ ((Keep.of_below HBXL.out).trans hk) ?_ ?_ ?_
        · rw [hT]; intro q h; simp [h]
        · rw [hT]; rintro q (h | h | h | h | h | h)
          · exact .inl h
          · exact .inr (by omega)
          · exact .inr (by omega)
          · exact .inr (by omega)
          · exact .inr (by omega)
          · exact h.elim
        · intro q hq _; omega
        · omega
        · intro q hq
          have := HSX.out q (HX.out.m q hq).1
          omega
      case hAx =>
        intro v a' A B h _; exact h
      case hassign =>
        intro l' Sr x v Z K hZ hv hK
        gi_wp2
        exact hK _ _ (Below.refl _ _) rfl
      case hbody =>
        rintro l' Sr pre x v _ Z hpre hSr hIZ hv rfl hZ _ _
        obtain ⟨xa, xc, rfl, hxi, hxb⟩ := hv
        have hxm : x ∈ comb Wn t 0 := hpre.subset (by simp)
        have hxl : x.length = t := comb_len _ _ _ x hxm
        have hZF : ∀ q, fp q → Z.heap[q]? = w0.heap[q]? := fun q hq => (hIZ.f q hq).2
        have hZz : W.heap.size < Z.heap.size := hIZ.z
        have hzq0 : Z.cell? ⟨qb, 0, none⟩ = some (.slice a n cap) := by have hq := HQ.out Z hZF; simp [World.cell?, hq]
        have hzq1 : Z.cell? ⟨qb, 1, none⟩ = some (.slice a2 n2 cap2) := by have hq := HQ.out Z hZF; simp [World.cell?, hq]
        have hzy : Z.cell? ⟨W.heap.size, 0, none⟩ = some (.func (.yield l) #[] #[]) := hIZ.c
        obtain ⟨hRZ, hIY⟩ := HR.out Z (Nat.le_trans HB.out.size (Nat.le_of_lt hZz)) hZF
        have HFIT := hid (fit_c Z a a2 xa n cap n2 cap2 x.length xc M y x hn hn2 rfl hm hm2 (by rw [hxl]; exact ht1k) hRZ hIY hxi)
        have HIZ := hid hIZ
        have HT := hid hT
        have HSR := hid hSr
        have HPRE := hid hpre
        have hYs := hbL.size
        have HTB := hid (show ∀ q, T Sr q → q < Z.heap.size by
          rw [hT]; rintro q (h | h | h | h | h | h)
          · have := HSX.out q h; omega
          · omega
          · omega
          · omega
          · omega
          · exact (hSr q h).2)
        clear hYs
        have hqZ : qb < Z.heap.size := World.block_lt_of_cell? Z ⟨qb, 0, none⟩ hzq0
        clear hRZ hIY hIZ hT hSr hpre hxm hxl hZF hxi hxb hF0 hF1
        cases hF : fitF M y x with
        | none =>
          rw [hF] at HFIT
          have HF := hid hF
          clear hF
          gi_wp2_with (refine ⟨trivial, rfl, ?_⟩; gi_at_call 256; refine (CallsIn.inRound l' (callsIn_wide.2 HFIT.out)).mono ?_; rintro e Z2 ⟨⟨_, rfl⟩ | ⟨f, fv, hso, _⟩, hb2⟩; rotate_left; cases hso; refine Stop.of ?_)
          refine Stop.go ?_
          gi_wp2
          refine ⟨fun _ h => (by cases h), ?_⟩
          gi_wp2
          have hbF := chain hb2 ((Below.refl Z2.heap.size Z2).alloc (Nat.le_refl _) (.cells #[.slice none 0 0, .slice none 0 0] 73))
          refine ⟨hbF.size, fun q hq => hbF.block q (HTB.out q (by rw [HT.out]; exact .inr (by rcases hq with (hq | hq) | hq | hq | hq <;> simp [hq]))), ?_⟩
          show FitsI w0 fp l J W.heap.size (fitsTo M y Wn t ++ (pre ++ [x]).filterMap (fitF M y)) (T Sr) hs _
          rw [List.filterMap_append, List.filterMap_cons_none HF.out, List.filterMap_nil, List.append_nil]
          exact HIZ.out.keep HJ.out (fun _ h => h) (fun _ h => .inl h) (Keep.of_below hbF : Keep (fun _ => True) Z _) (fun _ _ _ => trivial) trivial (fun _ _ => trivial)
        | some f =>
          rw [hF] at HFIT
          have HF := hid hF
          clear hF
          gi_wp2_with (refine ⟨trivial, rfl, ?_⟩; gi_at_call 256; refine (CallsIn.inRound l' (callsIn_wide.2 HFIT.out)).mono ?_; rintro e Z2 ⟨⟨hno, _⟩ | ⟨f', fv, hso, rfl, hfv⟩, hb2⟩; cases hno; refine Stop.of ?_)
          refine Stop.go ?_
          obtain rfl : f = f' := by cases hso; rfl
          clear hso
          have HFV := hid hfv
          obtain ⟨pa, pn, pc, va, vn, vc, rfl, _, _, _, _, _, _, _, _⟩ := hfv
          have hy2 : Z2.cell? ⟨W.heap.size, 0, none⟩ = some (.func (.yield l) #[] #[]) := (hb2.cell (p := ⟨W.heap.size, 0, none⟩) hZz).trans hzy
          have hyl : W.heap.size < Z2.heap.size := Nat.lt_of_lt_of_le hZz hb2.size
          have hb3 := chain hb2 ((Below.refl Z2.heap.size Z2).alloc (Nat.le_refl _) (.cells #[.slice pa pn pc, .slice va vn vc] 73))
          have hyk := HY.out (T Sr) (fitsTo M y Wn t ++ pre.filterMap (fitF M y)) f (.agg #[.slice pa pn pc, .slice va vn vc]) (Z2.alloc (.cells #[.slice pa pn pc, .slice va vn vc] 73))
            (by rw [HN.out]; exact fitsTo_in hlt HPRE.out HF.out) (fun q hq => ⟨HIZ.out.s q hq, Nat.lt_of_lt_of_le (HTB.out q hq) hb3.size⟩) (Nat.le_trans (Nat.le_of_lt hZz) hb3.size)
            (HJ.out _ _ _ _ _ HIZ.out.j (fun _ h => h) (fun _ h => .inl h) (Keep.of_below hb3)) (HFV.out.own ((Below.refl _ _).alloc (Nat.le_refl _) _) (Nat.le_of_lt hZz) HTB.out)
          have HB3' := hid hb3
          clear hb2 hb3
          obtain ⟨fn, tmps, assign, body, hy, hR'⟩ := hyk
          gi_wp2
          refine ⟨rfl, hR'.mono ?_⟩
          clear hR' hy
          rintro e W3 ⟨⟨hs3, hk3⟩, ⟨rfl, hJ3⟩ | ⟨rfl, hJ3⟩⟩
          · gi_wp2
            refine ⟨Nat.le_trans HB3'.out.size hs3, fun q hq => ?_, ?_⟩
            · have hq' : T Sr q := by rw [HT.out]; exact .inr (by rcases hq with (hq | hq) | hq | hq | hq <;> simp [hq])
              exact (hk3 q (.inr hq')).trans (HB3'.out.block q (HTB.out q hq'))
            · show FitsI w0 fp l J W.heap.size (fitsTo M y Wn t ++ (pre ++ [x]).filterMap (fitF M y)) (T Sr) hs _
              rw [List.filterMap_append, List.filterMap_cons_some HF.out, List.filterMap_nil, ← List.append_assoc]
              exact HIZ.out.step HTB.out HB3'.out hs3 hk3 hJ3
          · gi_wp2
            refine ⟨Nat.le_trans HB3'.out.size hs3, fun q hq => ?_, rfl, ?_⟩
            · have hq' : T Sr q := by rw [HT.out]; exact .inr (by rcases hq with (hq | hq) | hq | hq | hq <;> simp [hq])
              exact (hk3 q (.inr hq')).trans (HB3'.out.block q (HTB.out q hq'))
            · show FitsI w0 fp l Jx W.heap.size (fitsTo M y Wn t ++ (pre ++ [x]).filterMap (fitF M y)) (T Sr) hs _
              rw [List.filterMap_append, List.filterMap_cons_some HF.out, List.filterMap_nil, ← List.append_assoc]
              exact HIZ.out.step HTB.out HB3'.out hs3 hk3 hJ3
      case hdone =>
        intro Sr Z hZ hSr hIZ hmk
        have HIZ := hid hIZ
        have HSR := hid hSr
        have HMK := hid hmk
        have HT := hid hT
        have hYs := hbL.size
        have HTB := hid (show ∀ q, T Sr q → q < Z.heap.size by
          rw [hT]; rintro q (h | h | h | h | h | h)
          · have := HSX.out q h; omega
          · omega
          · omega
          · omega
          · omega
          · exact (hSr q h).2)
        have HNN := hid (show wL.heap.size ∉ hs from fun h => by have := HSX.out _ (HX.out.m _ h).1; omega)
        clear hIZ hSr hmk hT hF0 hF1 hYs
        gi_wp2
        rw [HI.out, HMU.out]
        refine ⟨⟨_, _, _, _, _, _, _, _, _, _, _, _, _, _, _, _, _, _, _, _, _, _, _, _, _, _, _, _, _, _, _, _, t + 1, T Sr, wL.heap.size :: hs, hlt, ?_, HTB.out, List.nodup_cons.2 ⟨HNN.out, HND.out⟩, by first | rfl | (rw [cast1 t]; rfl)⟩, ?_⟩
        · rw [fitsTo_succ]
          refine ⟨HIZ.out.j, HIZ.out.s, HIZ.out.y, HIZ.out.c, HIZ.out.f, HIZ.out.z, fun q hq => ?_⟩
          rcases List.mem_cons.1 hq with rfl | hq
          · exact ⟨by rw [HT.out]; simp, HMK.out⟩
          · exact HIZ.out.m q hq
        · show N + 1 - (intOf (.int .i64 ((t : Int) + 1))).toNat < N + 1 - (intOf (.int .i64 (t : Int))).toNat
          simp only [intOf]; omega
      case hstop =>
        rintro Sr c pre Z hpre hSr ⟨rfl, hIZ⟩ hmk
        have HIZ := hid hIZ
        have HMK := hid hmk
        have HT := hid hT
        have HPRE := hid hpre
        have HNN := hid (show wL.heap.size ∉ hs from fun h => by have := HSX.out _ (HX.out.m _ h).1; have := hbL.size; omega)
        clear hIZ hSr hmk hT hF0 hF1 hpre
        gi_wp2
        refine marks_leave (wL.heap.size :: hs) Z (List.nodup_cons.2 ⟨HNN.out, HND.out⟩) (fun h hh => ?_) fun w' hk => ?_
        · rcases List.mem_cons.1 hh with rfl | hh
          · exact HMK.out
          · exact (HIZ.out.m h hh).2
        · refine ⟨_, results_none rfl _ _ _, ⟨_, rfl⟩, .inr ⟨T Sr, _, ?_, HJx.out _ _ _ _ _ HIZ.out.j (fun _ h => h) (fun _ h => .inl h) (hk.mono fun q hq hh => ?_)⟩⟩
          · rw [HN.out]
            exact fitsTo_in' hlt HPRE.out
          · rcases List.mem_cons.1 hh with rfl | hh
            · exact hq (by rw [HT.out]; simp)
            · exact hq (HIZ.out.m q hh).1
    · obtain rfl : t = N + 1 := by omega
      clear hX hSX hnd
      gi_wp2
      refine marks_leave hs X HND.out (fun h hh => (HX.out.m h hh).2) fun w' hk => ?_
      refine ⟨_, results_none rfl _ _ _, ⟨_, rfl⟩, .inl ⟨S, fun q hq => ⟨HX.out.s q hq, Nat.lt_of_lt_of_le (HSX.out q hq) hk.size⟩, ?_⟩⟩
      rw [HN.out]
      exact HJ.out _ _ _ _ _ HX.out.j (fun _ h => h) (fun _ h => .inl h) (hk.mono fun q hq hh => hq (HX.out.m q hh).1)
end Go.Proofs.YtlffndehhhpgjaaGreat

namespace Go.Proofs.YtlffndehhhpgjaaGreat
open Go.RowKit
set_option linter.unusedVariables false
set_option linter.unusedSimpArgs false

theorem qfits_c (w : World) (a a2 : Option Addr) (n cap n2 cap2 : Nat) (k : Int) :
    Calls Tryz.prog 234 #[.agg #[.slice a n cap, .slice a2 n2 cap2], .int .i64 k] w fun e w' =>
      e = .returned (.func (.func 254) #[] #[.pointer (some ⟨w.heap.size + 1, 0, none⟩), .pointer (some ⟨w.heap.size, 0, none⟩)]) ∧
      w' = (w.alloc (.cells #[.slice a n cap, .slice a2 n2 cap2] 216)).alloc (.cells #[.int .i64 k] 3) := by
  have hmf : ∀ (fn : Fn) (first cap : Array Value) (w : World), (Instr.makeFunc fn first cap).run Tryz.prog w = .ok (.func fn first cap) w := fun _ _ _ _ => rfl
  go_enter Tryz.func234, Tryz.ntmps234
  go_wp2
  go_ret
  exact ⟨rfl, rfl⟩

def countE (M : Mask) (y : List Int) (k : Int) : Int := if checkE M y [] = 0 then (if inB k 0 10 = true then 0 else 7) else checkE M y []

theorem counted_c (w : World) (a a2 : Option Addr) (n cap n2 cap2 : Nat) (M : Mask) (y : List Int) (k : Int) (hn : M.length = n) (hn2 : y.length = n2) (hm : n ≤ maxLen) (hm2 : n2 ≤ maxLen) (H : RowsAt w a M) (H2 : IntsAt w a2 y) :
    Calls Tryz.prog 232 #[.slice a n cap, .slice a2 n2 cap2, .int .i64 k] w fun e w' => e = .returned (.int .i64 (countE M y k)) ∧ Below w.heap.size w w' := by
  have HC := hid (check_c w a a2 none n cap n2 cap2 0 0 M y [] hn hn2 rfl hm hm2 (by decide) H H2 (fun j hj => by simp at hj))
  have HW := hid (fun X => pwithin_c k 0 10 X)
  obtain ⟨E, hE⟩ : ∃ E, E = checkE M y [] := ⟨_, rfl⟩
  obtain ⟨b, hb⟩ : ∃ b, b = inB k 0 10 := ⟨_, rfl⟩
  have hP : countE M y k = if E = 0 then (if b = true then 0 else 7) else E := by rw [hE, hb]; rfl
  rw [← hE] at HC
  rw [← hb] at HW
  rw [hP]
  clear hE hb hP hn hn2 H H2
  go_enter Tryz.func232, Tryz.ntmps232
  by_cases h0 : E = 0
  · subst h0
    cases b
    all_goals
      go_wp2_with first
        | (go_at_call 101; refine HC.out.mono ?_; rintro e w1 ⟨rfl, hb1⟩)
        | (go_at_call 88; refine (HW.out _).mono ?_; rintro e w2 ⟨rfl, rfl⟩)
      go_ret
      exact ⟨rfl, hb1⟩
  · have hne : (E != 0) = true := by simp [h0]
    rw [if_neg h0]
    clear h0
    go_wp2_with (go_at_call 101; refine HC.out.mono ?_; rintro e w1 ⟨rfl, hb1⟩)
    go_ret
    exact ⟨rfl, hb1⟩
end Go.Proofs.YtlffndehhhpgjaaGreat
