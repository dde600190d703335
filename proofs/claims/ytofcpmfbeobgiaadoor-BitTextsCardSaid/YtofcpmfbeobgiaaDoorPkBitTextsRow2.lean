/- Walks and plain laws for BitTextsRow, part 2. -/
import Derived.WalkSpells
import Derived.Maps.AppendAt
import Derived.Laws.AppendOwnNone
import Derived.BigRegion
import Derived.BigQuiet
import Derived.Maps.OwnOps
import Derived.Maps.RangeWalk
import Derived.Maps.Views
import Derived.Maps.OwnSet
import Derived.Lib.SliceRun
import Derived.Deep.AppendLies
import Derived.Test.YtofcpmfbeobgiaaDoorShelfB
import Derived.Shelf.Strings.Builder1
import Derived.Lib.ItoaLen
import Derived.Lib.AppendIntMem
import Derived.Lib.LaidTab
import Derived.Lib.AtoiAllCases
import Derived.Lib.OthersKept
import Derived.Laws.RangeAny
import Derived.Test.YtofcpmfbeobgiaaDoorPkBitTextsRow1
namespace Go.Proofs.YtofcpmfbeobgiaaDoor
open Go.RowKit
set_option linter.unusedVariables false
attribute [local go_sem] Oper.semAt_some

theorem clone_c (w : World) (a : Option Addr) (n cap : Nat) (l : List Int) (hn : l.length = n) (hm : n * 8 ≤ 140737488355328) (H : IntsAt w a l) :
    Calls Tryd.prog 49 #[.slice a n cap] w fun e w' => ∃ v, e = .returned v ∧ w'.ownsRow w.heap.size 3 1 v n (l.map (Value.int .i64)) ∧ Below w.heap.size w w' := by
  obtain ⟨i0, hi, hz0, hz1, hz2⟩ := info_parts info_int
  have heq := fun (w : World) (a : Option Addr) (n c : Nat) => Lib.run_eql_slice_nil (P := Tryd.prog) w 34 3 a n c 0 0 Tryd.underlying34
  cases a with
  | none =>
    have h0 : n = 0 := by
      rcases Nat.eq_zero_or_pos n with h | h
      · exact h
      · obtain ⟨_, _, e, _⟩ := H 0 (by omega); cases e
    subst h0
    have hl : l = [] := List.eq_nil_of_length_eq_zero hn
    subst hl
    clear hn H hm
    go_enter Tryd.func49, Tryd.ntmps49
    go_wp2
    go_ret
    exact ⟨_, rfl, World.ownsRow_nil _ _ _ _, Below.refl _ _⟩
  | some ad =>
    have HN := hid hn
    have hnews : ∀ j u, (l.map (Value.int .i64))[j]? = some u → (w.alloc (.cells #[] 3)).cell? (ad.add j) = some u := by
      intro j u hu
      rw [List.getElem?_map] at hu
      obtain ⟨x, hx, rfl⟩ := Option.map_eq_some_iff.1 hu
      obtain ⟨hjl, e⟩ := List.getElem?_eq_some_iff.1 hx
      obtain ⟨b, off, ea, hb, hc⟩ := H j hjl
      cases ea
      rw [Addr.add_lit]
      refine (((Below.refl _ w).alloc (Nat.le_refl _) (.cells #[] 3)).cell (p := ⟨b, off + j, none⟩) hb).trans ?_
      rw [hc, hx]; rfl
    have HNews := hid hnews
    clear hnews H hn
    go_enter Tryd.func49, Tryd.ntmps49
    go_wp2_with (at_builtin; refine wpList_append_own _ rfl _ _ 34 rfl w.heap.size 3 i0 (.int .i64 0) 1 8 Tryd.underlying34 hi hz0 hz1 hz2 rfl (by decide) _ 0 [] rfl (World.ownsRow_made _ _ 0 (Nat.le_refl _) (by unfold maxLen; omega) rfl) ad n cap (l.map (Value.int .i64)) rfl (by rw [List.length_map, HN.out]; omega) HNews.out (ints_oneCell _ _) (by unfold maxLen; omega) (by omega) (by simp) ?_; intro v' w1 hown' hgrow _)
    go_ret
    refine ⟨_, rfl, by simpa using hown', ((Below.refl _ w).alloc (Nat.le_refl _) _).grown hgrow (by simp) (fun k hk => by cases hk; exact Nat.le_refl _)⟩

theorem pictures_c (p t : Int) (w : World) : Calls Tryd.prog 47 #[.agg #[.int .i64 p, .int .i64 t]] w
    fun e w' => e = .returned (.func (.func 66) #[] #[.pointer (some ⟨w.heap.size, 0, none⟩)]) ∧ w' = w.alloc (.cells #[.int .i64 p, .int .i64 t] 23) := by
  have hmf : ∀ (fn : Fn) (first cap : Array Value) (w : World), (Instr.makeFunc fn first cap).run Tryd.prog w = .ok (.func fn first cap) w := fun _ _ _ _ => rfl
  go_enter Tryd.func47, Tryd.ntmps47
  go_wp2
  go_ret
  exact ⟨rfl, rfl⟩

theorem info_ints : (Tryd.prog.info? 34).map (fun i => (i.zero, i.size, i.bytes)) = some (some (.slice none 0 0), 1, 24) := by kernel_rfl

def fitting (p t : Nat) (l : List Cel) : List (List Int) := (pics (t + 1) p).filter (fitA l)

theorem ints_of_row {W : World} {it : Nat} {x : List Int} {sp : List Value} {E : TypeId} (h : W.heap[it]? = some (.cells (x.map (Value.int .i64) ++ sp).toArray E (0, 0))) : IntsAt W (some ⟨it, 0, none⟩) x := by
  intro j hj
  refine ⟨it, 0, rfl, (Array.getElem?_eq_some_iff.1 h).1, ?_⟩
  rw [Nat.zero_add]
  simp [World.cell?, h, List.getElem?_append_left, hj]

theorem pow_le {p t : Nat} (hp : p ≤ 8) (ht : t ≤ 3) : (t + 1) ^ p ≤ 65536 := by
  calc (t + 1) ^ p ≤ 4 ^ p := Nat.pow_le_pow_left (by omega) p
    _ ≤ 4 ^ 8 := Nat.pow_le_pow_right (by omega) hp
    _ = 65536 := by decide

set_option maxRecDepth 100000 in
set_option maxHeartbeats 2000000 in
theorem left_c (w : World) (p t : Nat) (hp : p ≤ 8) (ht : t ≤ 3) (a : Option Addr) (n cap : Nat) (l : List Cel) (hn : l.length = n) (hm : n ≤ maxLen) (H : CellsAt w a l) (hrow : ∀ c ∈ l, c.row.length ≤ p) :
    Calls Tryd.prog 31 #[.agg #[.int .i64 p, .int .i64 t], .slice a n cap] w fun e w' => ∃ v base, e = .returned v ∧ w.heap.size ≤ base ∧ RowsO 3 34 w' base (fun _ => True) v (fitting p t l) ∧ Below w.heap.size w w' := by
  have HN := hid hn
  have HH := hid H
  have HROW := hid hrow
  clear hn H hrow
  obtain ⟨i0, hi, hz0, hz1, hz2⟩ := info_parts info_ints
  refine callsIn_wide (n := 0) |>.1 ?_
  refine callsIn_of_wp_marks Tryd.func31 rfl trivial ?_ rfl
  simp only [Tryd.ntmps31, List.size_toArray, List.length_cons, List.length_nil, Nat.reduceAdd, Nat.reduceSub, Array.replicate_succ, Array.replicate_zero, List.push_toArray, List.append_toArray, List.nil_append, List.cons_append]
  gi_wp2_with (refine ⟨trivial, rfl, ?_⟩; gi_at_call 47; refine (callsIn_wide.2 (pictures_c _ _ _)).mono ?_; rintro e w' ⟨rfl, rfl⟩)
  obtain ⟨wL, hwL⟩ : ∃ wL, wL = (((w.alloc (.cells #[.int .i64 p, .int .i64 t] 23)).alloc (.cells #[.slice a n cap] 24)).alloc (.cells #[.slice none 0 0] 67)).alloc (.cells #[.int .i64 p, .int .i64 t] 23) := ⟨_, rfl⟩
  have hsz : wL.heap.size = w.heap.size + 4 := by rw [hwL]; simp
  have hbL : Below w.heap.size w wL := by rw [hwL]; exact (((((Below.refl _ w).alloc (Nat.le_refl _) _).alloc (by simp) _).alloc (by simp; omega) _).alloc (by simp; omega) _)
  have hB1 : Boxed wL (w.heap.size + 1) 24 (.slice a n cap) := by
    rw [hwL]
    have := (Boxed.new (w.alloc (.cells #[.int .i64 p, .int .i64 t] 23)) 24 (.slice a n cap))
    rw [World.size_alloc] at this
    exact (this.alloc _).alloc _
  have hB2 : Boxed wL (w.heap.size + 2) 67 (.slice none 0 0) := by
    rw [hwL]
    have := (Boxed.new ((w.alloc (.cells #[.int .i64 p, .int .i64 t] 23)).alloc (.cells #[.slice a n cap] 24)) 67 (.slice none 0 0))
    rw [World.size_alloc, World.size_alloc] at this
    exact this.alloc _
  have hF0 : wL.cell? ⟨w.heap.size + 3, 0, none⟩ = some (.int .i64 p) := by rw [hwL, World.cell?_alloc_at _ _ _ _ (by simp)]; rfl
  have hF1 : wL.cell? ⟨w.heap.size + 3, 1, none⟩ = some (.int .i64 t) := by rw [hwL, World.cell?_alloc_at _ _ _ _ (by simp)]; rfl
  rw [← hwL]
  clear hwL
  refine range_ints (gf := 66) (lb := #[.pointer (some ⟨w.heap.size + 3, 0, none⟩)]) (xs := pics (t + 1) p) (fp := fun k => k = w.heap.size + 3) (E := 3) rfl (enters_of Tryd.func66 (by kernel_rfl) rfl)
    (iter_pics wL p t (w.heap.size + 3) hp ht (by omega) hF0 hF1) (Below.refl _ _) (by intro k hk; omega)
    (fun it pre W => ∃ v, Boxed W (w.heap.size + 2) 67 v ∧ Boxed W (w.heap.size + 1) 24 (.slice a n cap) ∧ Below w.heap.size w W ∧ RowsO 3 34 W (w.heap.size + 6) (fun b => b ≠ w.heap.size + 2 ∧ b ≠ w.heap.size + 4 ∧ b ≠ w.heap.size + 5 ∧ b ≠ it) v (pre.filter (fitA l)))
    (fun _ _ _ => False) ?hI (fun _ _ _ _ h _ => h) ?h0
    (fun v => { tmps := #[.agg #[.int .i64 p, .int .i64 t], .slice a n cap, .pointer (some ⟨w.heap.size, 0, none⟩), .pointer (some ⟨w.heap.size + 1, 0, none⟩), .slice none 0 0, .pointer (some ⟨w.heap.size + 2, 0, none⟩), v, .agg #[.int .i64 p, .int .i64 t], .func (.func 66) #[] #[.pointer (some ⟨w.heap.size + 3, 0, none⟩)], v, undef, undef, undef, undef, undef, undef, undef, undef, undef], defers := [] }) ?assign ?body ?done ?stop
  case hI =>
    rintro it s A B hit ⟨v, h2, h1, hb, hr⟩ hk
    rw [hsz] at hit hk
    exact ⟨v, (hk.block _ h2.lt (by omega)).trans h2, (hk.block _ h1.lt (by omega)).trans h1, hk.below hb hb.size (fun k _ => by omega), hr.keep (hk.mono fun k hk => ⟨hk.2.1, hk.2.2.1, hk.2.2.2⟩)⟩
  case h0 => intro it _; exact ⟨_, hB2, hB1, hbL, RowsO.nil _ _ _ _ _⟩
  case assign =>
    intro l v W K hK
    gi_wp2
    exact hK
  case body =>
    rintro l' it pre x cap' sp W hit hpre ⟨v, hv2, hv1, hBW, hR⟩ hitW hx hDo hLo
    rw [hsz] at hit hDo hLo ⊢
    have hxm : x ∈ pics (t + 1) p := hpre.subset (by simp)
    have hxl : x.length = p := (mem_pics (by omega) hxm).1
    have hxi : IntsAt W (some ⟨it, 0, none⟩) x := ints_of_row hx
    have HF := hid (fits_c W a n cap l HN.out hm (HH.out.below hBW) (some ⟨it, 0, none⟩) x.length cap' x rfl hxi (fun c hc => by rw [hxl]; exact HROW.out c hc))
    have hc1 : W.cell? ⟨w.heap.size + 1, 0, none⟩ = some (.slice a n cap) := hv1.cell
    have hplen : (pre ++ [x]).length ≤ (t + 1) ^ p := by have := hpre.length_le; rwa [length_pics] at this
    have hpow := pow_le hp ht
    have hpl : (pre.filter (fitA l)).length ≤ pre.length := List.length_filter_le _ _
    have hfilt : (pre ++ [x]).filter (fitA l) = pre.filter (fitA l) ++ (if fitA l x then [x] else []) := by
      rw [List.filter_append]; congr 1; cases h : fitA l x <;> simp [h]
    have HFI := hid hfilt
    have HX := hid hx
    have HXL := hid hxl
    have HXI := hid hxi
    have HD := hid hDo
    have HL := hid hLo
    clear hfilt hx hxl hxi hDo hLo hpre hxm
    cases hfx : fitA l x
    · gi_wp2_with (refine ⟨trivial, rfl, ?_⟩; gi_at_call 48; refine (CallsIn.inRound l' (callsIn_wide.2 HF.out)).mono ?_; rintro e w1 ⟨rfl, hb1⟩)
      refine ⟨hb1.size, fun k hk => hb1.block k ?_, v, (hb1.block _ hv2.lt).trans hv2, (hb1.block _ hv1.lt).trans hv1, chain hBW hb1, ?_⟩
      · omega
      · rw [HFI.out, hfx]; simp; exact hR.keep (Keep.of_below hb1)
    · gi_wp2_with (refine ⟨trivial, rfl, ?_⟩; gi_at_call 48; refine (CallsIn.inRound l' (callsIn_wide.2 HF.out)).mono ?_; rintro e w1 ⟨rfl, hb1⟩)
      have hs0 : w1.drew.cell? ⟨w.heap.size + 1 + 1, 0, none⟩ = some v := by
        show w1.cell? ⟨w.heap.size + 1 + 1, 0, none⟩ = some v
        exact (hb1.cell (p := ⟨w.heap.size + 1 + 1, 0, none⟩) hv2.lt).trans hv2.cell
      refine round_region (fun j w' => decide (j < 4) = true → w'.cell? ⟨w.heap.size + 1 + 1, 0, none⟩ = some v) l' 0 (by kernel_rfl) (by kernel_rfl) (fun ⟨_, _, h⟩ => h) ?_
      refine AnyT.takeW (i := 0) (v := v) rfl (by kernel_rfl) (by kernel_rfl) (by kernel_rfl) (fun _ _ _ h => h) (by kernel_rfl) (by rfl) (by intro w' hw'; go_simp) hs0 ?_
      refine AnyT.next (i := 1) (by kernel_rfl) rfl (wpOp_of_list rfl ?_)
      go_wp2
      refine ⟨fun _ => hs0, ?_⟩
      have HCl := hid (clone_c w1.drew (some ⟨it, 0, none⟩) x.length cap' x rfl (by rw [HXL.out]; omega) (HXI.out.below (hb1.drew)))
      refine AnyT.next (i := 2) (by kernel_rfl) rfl (wpOp_of_list rfl ?_)
      go_wp2_with (go_at_call 49; refine HCl.out.mono ?_; rintro e w2 ⟨cv, rfl, hown2, hb2⟩)
      obtain ⟨ca, cc, rfl⟩ := ownsRow_slice hown2
      have hbW2 : Below W.heap.size W w2 := hb1.drew.trans (hb2.mono hb1.size)
      have hs2 : w2.cell? ⟨w.heap.size + 1 + 1, 0, none⟩ = some v := (hbW2.cell (p := ⟨w.heap.size + 1 + 1, 0, none⟩) hv2.lt).trans hv2.cell
      refine ⟨fun _ => hs2, ?_⟩
      refine AnyT.next (i := 3) (by kernel_rfl) rfl (wpOp_of_list rfl ?_)
      go_wp2
      have hv22 : Boxed w2 (w.heap.size + 2) 67 v := (hbW2.block _ hv2.lt).trans hv2
      have hR2 := hR.keep (Keep.of_below hbW2 : Keep _ W w2)
      obtain ⟨vs, ho, hg, he⟩ := hR2
      have hEl : ElemI 3 w2 (w.heap.size + 6) (fun b => b ≠ w.heap.size + 2 ∧ b ≠ w.heap.size + 4 ∧ b ≠ w.heap.size + 5 ∧ b ≠ it) (.slice ca x.length cc) x := ElemI.own hown2 (by unfold maxLen; have := HXL.out; omega) (fun b hb => by have : w1.heap.size ≤ b := hb; have := hb1.size; omega)
      have hsz2 : w.heap.size + 6 ≤ w2.heap.size := by have := hbW2.size; omega
      have HEl := hid hEl
      have HE := hid he
      have HG := hid hg
      clear hEl he hg hR hown2
      refine ⟨fun _ => by rw [World.cell?_alloc_past _ _ _ hv22.lt]; exact hs2, ?_⟩
      refine AnyT.next (i := 4) (by kernel_rfl) rfl (wpOp_of_list rfl ?_)
      have hpl' : pre.length + 1 ≤ 65536 := by simp at hplen; omega
      (refine wpList_append_own _ rfl _ _ 67 rfl (w.heap.size + 6) 34 i0 (.slice none 0 0) 1 24 Tryd.underlying67 hi hz0 hz1 hz2 rfl (by decide) v _ vs rfl (ho.alloc _) ⟨w2.heap.size, 0, none⟩ 1 1 [.slice ca x.length cc] rfl rfl (cell_one_new _ _ _) (by simp [Value.oneCell']) (by unfold maxLen; omega) (by omega) (by simp; omega) ?_; intro v' w3 hown3 hgrow3 _)
      refine And.intro (fun h => absurd h (by decide)) ?_
      obtain ⟨g', c', rfl⟩ := ownsRow_succ hown3
      have hb23 : Below w2.heap.size w2 (w2.alloc (.cells #[.slice ca x.length cc] 34)) := (Below.refl _ _).alloc (Nat.le_refl _) _
      have hvb : ∀ k, v.ownBlock = some k → w.heap.size + 6 ≤ k := fun k hk => (ho.lt k hk).1
      have hold : ∀ k, k < w2.heap.size → (k < w.heap.size + 6 ∨ k = it) → w3.heap[k]? = w2.heap[k]? := fun k hk h => by
        refine (hgrow3.block k (by simp; omega) ?_).trans (hb23.block k hk)
        intro e
        have h1 := hvb k e.symm
        have h2 := HG.out k e.symm
        omega
      have hit3 : w3.heap[it]? = W.heap[it]? := (hold it (by have := hbW2.size; omega) (Or.inr rfl)).trans (hbW2.block it hitW)
      have hS' : ∀ k, (Value.slice (some ⟨g', 0, none⟩) ((pre.filter (fitA l)).length + 1) c').ownBlock = some k → k ≠ w.heap.size + 2 ∧ k ≠ w.heap.size + 4 ∧ k ≠ w.heap.size + 5 ∧ k ≠ it := by
        intro k hk
        obtain rfl : g' = k := by simpa [Value.ownBlock] using hk
        have h1 := (hown3.lt g' rfl).1
        refine ⟨by omega, by omega, by omega, ?_⟩
        rintro rfl
        rcases hown3.2 with ⟨h, _⟩ | ⟨g, cap2, cur, h, _, hh, _⟩
        · cases h
        · cases h
          rw [hit3, HX.out] at hh
          cases hh
      have hR3 := RowsO.snoc (by decide) ho HE.out HEl.out hb23 hgrow3 hown3 hS'
      have hv23 : Boxed w3 (w.heap.size + 2) 67 v := (hold _ hv22.lt (Or.inl (by omega))).trans hv22
      have hc5 : w3.cell? ⟨w.heap.size + 2, 0, none⟩ = some v := hv23.cell
      have hf5 : w3.frozen? ⟨w.heap.size + 2, 0, none⟩ = false := hv23.frozen
      have HR3 := hid hR3
      have HOld := hid hold
      clear hR3 hold hown3 ho hvb
      refine AnyT.next (i := 5) (by kernel_rfl) rfl (wpOp_of_list rfl ?_)
      go_wp2
      refine ⟨by kernel_rfl, ?_⟩
      have hkw : Keep (fun k => k ≠ w.heap.size + 2) w3 (w3.setCell ⟨w.heap.size + 2, 0, none⟩ (.slice (some ⟨g', 0, none⟩) ((pre.filter (fitA l)).length + 1) c')) := Keep.set w3 _ 0 _
      have hsz3 : w2.heap.size < w3.heap.size := by have := hgrow3.size; simp at this; omega
      have hold : ∀ k, k < W.heap.size → k ≠ w.heap.size + 2 → (k < w.heap.size + 6 ∨ k = it) → (w3.setCell ⟨w.heap.size + 2, 0, none⟩ (.slice (some ⟨g', 0, none⟩) ((pre.filter (fitA l)).length + 1) c')).heap[k]? = W.heap[k]? := fun k hk hne h =>
        (hkw.block k (by have := hbW2.size; omega) hne).trans ((HOld.out k (by have := hbW2.size; omega) h).trans (hbW2.block k hk))
      refine ⟨?_, ?_, _, hv23.set _, ?_, ?_, ?_⟩
      · have := hkw.size; have := hbW2.size; omega
      · intro k hk
        refine hold k ?_ (by omega) (by omega)
        rcases hk with hk | hk | hk | hk
        · have := hv2.lt; omega
        · have := hBW.size; omega
        · have := hBW.size; omega
        · omega
      · exact (hold _ hv1.lt (by omega) (Or.inl (by omega))).trans hv1
      · exact hBW.trans ⟨by rw [hkw.os, hgrow3.os]; exact hbW2.os, by rw [hkw.tape, hgrow3.tape]; exact hbW2.tape, by rw [hkw.output, hgrow3.output]; exact hbW2.output, by have := hkw.size; have := hbW2.size; omega, fun k hk => hold k (by have := hBW.size; omega) (by omega) (Or.inl (by omega))⟩
      · rw [HFI.out, hfx]
        exact HR3.out.keep (hkw.mono fun k hk => hk.1)
  case done =>
    rintro it W hit ⟨v, hv2, hv1, hBW, hR⟩ hK
    rw [hsz] at hit hK ⊢
    have hc1 : W.cell? ⟨w.heap.size + 1 + 1, 0, none⟩ = some v := hv2.cell
    gi_wp2
    refine ⟨by simp, .inl ⟨_, _, rfl, run_takeDeferred hK, ?_⟩⟩
    refine ⟨_, results_tmp rfl _ _ _, v, w.heap.size + 6, rfl, by omega, ?_, ?_⟩
    · exact (hR.keep ((Keep.put W _ _).mono fun k hk => hk.2.1)).free
    · exact (Keep.put W (w.heap.size + 4) _).below hBW hBW.size (fun k hk => by omega)
  case stop => intro c pre W _ h _; exact h.elim
end Go.Proofs.YtofcpmfbeobgiaaDoor

namespace Go.Proofs.YtofcpmfbeobgiaaDoor
open Go.RowKit
set_option linter.unusedVariables false

theorem run_append_nilsrc {P : Program} {w : World} (base : Nat) (t ty e : TypeId) (i : TypeInfo) (size c : Nat) (ht : P.underlying t = some (.slice e)) (hi : P.info? e = some i)
    (v : Value) (n : Nat) (xs : List Value) (hown : w.ownsRow base e size v n xs) : (Builtin.append_ #[t, t] ty #[v, .slice none 0 c]).run P w = .ok v w := by
  rcases hown.2 with ⟨rfl, rfl⟩ | ⟨g, cap, cur, rfl, _, _, hnc, _⟩
  · simp [Builtin.append_, run_underlying ht, sizeOf, typeInfo, hi, Builtin.lenOf, Builtin.firstCells]
  · simp [Builtin.append_, run_underlying ht, sizeOf, typeInfo, hi, Builtin.lenOf, Builtin.firstCells, hnc, storeCells]

theorem wpList_app {P : Program} (w : World) {ops : Array Oper} {rest : List Oper} {o : Oper} {a : Act} {Q : Exit → Act → World → Prop} (hgd : o.guard = none) (s x : Operand) (t : TypeId)
    (ho : o.op = .call { callee := .builtin .append, args := #[s, x], argTypes := #[t, t] })
    (base : Nat) (e : TypeId) (z : Value) (size bytes : Nat) (ht : P.underlying t = some (.slice e)) (hinfo : (P.info? e).map (fun i => (i.zero, i.size, i.bytes)) = some (some z, size, bytes))
    (hzs : z.cells.size = size) (hsz : 0 < size)
    (v : Value) (n : Nat) (xs : List Value) (hs : a.eval s = v) (hown : w.ownsRow base e size v n xs)
    (ao : Option Addr) (m c : Nat) (news : List Value) (hx : a.eval x = .slice ao m c) (hl : news.length = m * size) (hnone : ao = none → m = 0)
    (hnews : ∀ ad, ao = some ad → ∀ j u, news[j]? = some u → w.cell? (ad.add j) = some u) (h1 : ∀ u ∈ news, u.oneCell' = true)
    (h63 : n + m ≤ maxLen) (hbytes : (n + m) * bytes ≤ 140737488355328) (hbase : base ≤ w.heap.size)
    (h : ∀ a' c' w', w'.ownsRow base e size (.slice a' (n + m) c') (n + m) (xs ++ news) → w.grownBy w' v.ownBlock → wpList P ops Q rest (a.put o.dst (.slice a' (n + m) c')) w') : wpList P ops Q (o :: rest) a w := by
  obtain ⟨i, hi, hz, h2, h3⟩ := info_parts hinfo
  cases ao with
  | some ad =>
    refine wpList_append_own w hgd s x t ho base e i z size bytes ht hi hz h2 h3 hzs hsz v n xs hs hown ad m c news hx hl (hnews ad rfl) h1 h63 hbytes hbase ?_
    intro v' w' ho' hg _
    obtain ⟨a', c', rfl⟩ := ownsRow_slice ho'
    exact h a' c' w' ho' hg
  | none =>
    obtain rfl := hnone rfl
    have hnil : news = [] := List.eq_nil_of_length_eq_zero (by simpa using hl)
    subst hnil
    refine wpList_plain hgd fun K hK => ?_
    have hrun := run_append_nilsrc (P := P) (w := w) base t o.type e i size c ht hi v n xs hown
    obtain ⟨a', c', rfl⟩ := ownsRow_slice hown
    unfold Oper.wp
    simp [execOp, ho, resolve, invoke, builtin, hs, hx, hrun, Result.andThen]
    exact hK _ _ (h a' c' w (by simpa using hown) (World.grownBy.refl _ _))

theorem one_news (w : World) (x : Value) (t : TypeId) : ∀ ad, (some ⟨w.heap.size, 0, none⟩ : Option Addr) = some ad → ∀ j u, [x][j]? = some u → (w.alloc (.cells #[x] t)).cell? (ad.add j) = some u := by
  intro ad e j u hu
  cases e
  match j, hu with
  | 0, hu =>
    simp at hu; subst hu
    rw [Addr.add_lit, World.cell?_alloc_at _ _ _ _ rfl]; rfl
theorem le_alloc (w : World) (o : Obj) : w.heap.size ≤ (w.alloc o).heap.size := by simp
theorem no_none {α : Type} {a : α} {p : Prop} : some a = none → p := fun h => by cases h
theorem ElemI.own' {E : TypeId} {W : World} {b0 base : Nat} {S : Nat → Prop} {v : Value} {l : List Int} {n : Nat} {xs : List Value} (h : W.ownsRow b0 E 1 v n xs) (hx : xs = l.map (Value.int .i64)) (hn : l.length = n) (hm : n ≤ maxLen) (hS : ∀ b, b0 ≤ b → S b) : ElemI E W base S v l := by
  subst hx; subst hn; exact ElemI.own h hm hS
theorem cells_set {w : World} {b : Nat} {c : Array Value} {E : TypeId} {f : Nat × Nat} (h : w.heap[b]? = some (.cells c E f)) (j : Nat) (v : Value) :
    (w.setCell ⟨b, j, none⟩ v).heap[b]? = some (.cells (c.setIfInBounds j v) E f) := by
  obtain ⟨hlt, hk⟩ := Array.getElem?_eq_some_iff.1 h
  show (w.heap.modify b _)[b]? = _
  rw [Array.getElem?_eq_getElem (by rw [Array.size_modify]; exact hlt), Array.getElem_modify_self, hk]
  rfl
theorem below_set {B : Nat} {a w : World} (h : Below B a w) {b : Nat} (hb : B ≤ b) (o : Nat) (v : Value) : Below B a (w.setCell ⟨b, o, none⟩ v) := h.setCell (p := ⟨b, o, none⟩) hb v
end Go.Proofs.YtofcpmfbeobgiaaDoor

namespace Go.Proofs.YtofcpmfbeobgiaaDoor
open Go.RowKit
set_option linter.unusedVariables false

def rowE (p t : Int) (row : List Int) : Int := if okField p t && okRow p row then 0 else 1
end Go.Proofs.YtofcpmfbeobgiaaDoor

namespace Go.Proofs.YtofcpmfbeobgiaaDoor
open Go.RowKit
set_option linter.unusedVariables false

theorem okRow_len {p : Int} {row : List Int} (h : okRow p row = true) : (row.length : Int) = p ∧ ∀ n ∈ row, -1 ≤ n ∧ n ≤ 1 := by
  unfold okRow at h
  simp [inB] at h
  exact h
def sLo (t : Int) (row : List Int) : Nat → Int
  | 0 => 0
  | k + 1 => sLo t row k - (if row[k]?.getD 0 < 0 then t else 0)
def sHi (t : Int) (row : List Int) : Nat → Int
  | 0 => 0
  | k + 1 => sHi t row k + (if 0 < row[k]?.getD 0 then t else 0)
def sightLo (p t : Int) (row : List Int) : Int := if rowE p t row = 0 then sLo t row row.length else 0
def sightHi (p t : Int) (row : List Int) : Int := if rowE p t row = 0 then sHi t row row.length else 0

theorem sLo_bd {t : Int} (h0 : 0 ≤ t) (h3 : t ≤ 3) (row : List Int) : ∀ k : Nat, -3 * (k : Int) ≤ sLo t row k ∧ sLo t row k ≤ 0
  | 0 => by simp [sLo]
  | k + 1 => by have := sLo_bd h0 h3 row k; simp only [sLo]; split <;> omega
theorem sHi_bd {t : Int} (h0 : 0 ≤ t) (h3 : t ≤ 3) (row : List Int) : ∀ k : Nat, 0 ≤ sHi t row k ∧ sHi t row k ≤ 3 * (k : Int)
  | 0 => by simp [sHi]
  | k + 1 => by have := sHi_bd h0 h3 row k; simp only [sHi]; split <;> omega

theorem lo_step {x t L : Int} (hx : -1 ≤ x ∧ x ≤ 1) (ht : 0 ≤ t ∧ t ≤ 3) (hL : -30 ≤ L ∧ L ≤ 0) : wrap64 (L + wrap64 ((if 0 < x then 0 else x) * t)) = L - (if x < 0 then t else 0) := by
  have : x = -1 ∨ x = 0 ∨ x = 1 := by omega
  rcases this with rfl | rfl | rfl <;> simp <;> unfold wrap64 <;> omega
theorem hi_step {x t L : Int} (hx : -1 ≤ x ∧ x ≤ 1) (ht : 0 ≤ t ∧ t ≤ 3) (hL : 0 ≤ L ∧ L ≤ 30) : wrap64 (L + wrap64 ((if x < 0 then 0 else x) * t)) = L + (if 0 < x then t else 0) := by
  have : x = -1 ∨ x = 0 ∨ x = 1 := by omega
  rcases this with rfl | rfl | rfl <;> simp <;> unfold wrap64 <;> omega

set_option maxHeartbeats 1000000 in
theorem sight_c (w : World) (p t : Int) (a : Option Addr) (n cap : Nat) (row : List Int) (hn : row.length = n) (hm : n ≤ maxLen) (H : IntsAt w a row) :
    Calls Tryd.prog 13 #[.agg #[.int .i64 p, .int .i64 t], .slice a n cap] w fun e w' => e = .returned (.tuple #[.agg #[.int .i64 (sightLo p t row), .int .i64 (sightHi p t row)], .int .i64 (rowE p t row)]) ∧ Below w.heap.size w w' := by
  have hb0 : Below w.heap.size w ((w.alloc (.cells #[.int .i64 p, .int .i64 t] 23)).alloc (.cells #[.int .i64 0, .int .i64 0] 40)) := ((Below.refl _ _).alloc (Nat.le_refl _) _).alloc (by simp) _
  have HV := hid (fun (W : World) (hb : Below w.heap.size w W) => validRow_c W p a n cap row hn hm (H.below hb))
  have HN := hid hn
  have HH := hid H
  clear hn H
  unfold maxLen at hm
  cases hf : okField p t <;> cases hr : okRow p row
  case false.false | false.true =>
    go_enter Tryd.func13, Tryd.ntmps13
    go_wp2_with (first | (go_at_call 27; refine (validField_c _ _ _).mono ?_; rintro e w1 ⟨rfl, hb1⟩; obtain ⟨hc1, hf1⟩ := bcell hb1))
    have hz1 : w.heap.size + 1 < w1.heap.size := by have := hb1.size; simp at this; omega
    refine bodyPost_ret (v := .tuple #[.agg #[.int .i64 0, .int .i64 0], .int .i64 1]) ?_ rfl ⟨by simp [sightLo, sightHi, rowE, hf, hr], ?_⟩
    · simp [results, Tryd.results13, go_sem, hc1, hz1]
    · exact below_set (below_set (chain hb0 hb1) (by omega) _ _) (by omega) _ _
  case true.false =>
    go_enter Tryd.func13, Tryd.ntmps13
    go_wp2_with (first | (go_at_call 27; refine (validField_c _ _ _).mono ?_; rintro e w1 ⟨rfl, hb1⟩; obtain ⟨hc1, hf1⟩ := bcell hb1) | (go_at_call 32; refine (HV.out _ (chain hb0 hb1)).mono ?_; rintro e w2 ⟨rfl, hb2⟩; obtain ⟨hc2, hf2⟩ := bcell hb2; have hz2 : w.heap.size + 1 < w1.heap.size := by have := hb1.size; simp at this; omega))
    have hz3 : w1.heap.size ≤ w2.heap.size := hb2.size
    have hz4 : w.heap.size + 1 < w2.heap.size := by omega
    refine bodyPost_ret (v := .tuple #[.agg #[.int .i64 0, .int .i64 0], .int .i64 1]) ?_ rfl ⟨by simp [sightLo, sightHi, rowE, hf, hr], ?_⟩
    · simp [results, Tryd.results13, go_sem, hc2, hc1, hz2]
    · exact below_set (below_set (chain (chain hb0 hb1) hb2) (by omega) _ _) (by omega) _ _
  case true.true =>
    go_enter Tryd.func13, Tryd.ntmps13
    go_wp2_with (first | (go_at_call 27; refine (validField_c _ _ _).mono ?_; rintro e w1 ⟨rfl, hb1⟩; obtain ⟨hc1, hf1⟩ := bcell hb1) | (go_at_call 32; refine (HV.out _ (chain hb0 hb1)).mono ?_; rintro e w2 ⟨rfl, hb2⟩; obtain ⟨hc2, hf2⟩ := bcell hb2; have hz2 : w.heap.size + 1 < w1.heap.size := by have := hb1.size; simp at this; omega))
    have hz1 : w.heap.size + 1 < w1.heap.size := by have := hb1.size; simp at this; omega
    have hz2 : w1.heap.size ≤ w2.heap.size := hb2.size
    have ht2 : w2.cell? ⟨w.heap.size, 1, none⟩ = some (.int .i64 t) := by
      rw [hc2 _ _ (by omega), hc1 _ _ (by simp; omega), World.cell?_alloc_past _ _ _ (by simp), World.cell?_alloc_at _ _ _ _ rfl]; rfl
    have hbw2 : Below w.heap.size w w2 := chain (chain hb0 hb1) hb2
    have hq2 : w2.heap[w.heap.size + 1]? = some (.cells #[.int .i64 0, .int .i64 0] 40 (0, 0)) := by
      refine (hb2.block _ (by omega)).trans ((hb1.block _ (by simp)).trans ?_)
      have := World.alloc_heap_new (w.alloc (.cells #[.int .i64 p, .int .i64 t] 23)) (.cells #[.int .i64 0, .int .i64 0] 40)
      rwa [World.size_alloc] at this
    have HQ2 := hid hq2
    clear hq2
    clear hc1 hf1 hc2 hf2
    obtain ⟨wb, hwb⟩ : ∃ wb, wb = w2 := ⟨_, rfl⟩
    have ht3 : 0 ≤ t ∧ t ≤ 3 := by unfold okField inB at hf; simp at hf; omega
    have hrl := okRow_len hr
    have hp8 : n ≤ 8 := by have h1 := hrl.1; have h2 := HN.out; unfold okField inB at hf; simp at hf; omega
    have HRL := hid hrl
    clear hrl
    go_loopw [22] (fun i wr => ∃ k : Nat, k ≤ n ∧ i = .int .i64 k ∧ Below w2.heap.size w2 wr ∧ wr.heap[w2.heap.size]? = some (.cells #[.int .i64 (sLo t row k), .int .i64 (sHi t row k)] 40 (0, 0))) (fun i _ => n - (intOf i).toNat)
    case atStart => exact ⟨0, Nat.zero_le _, rfl, (Below.refl _ _).alloc (Nat.le_refl _) _, World.alloc_heap_new _ _⟩
    case round =>
      obtain ⟨k, hk, rfl, hb3, hs⟩ := hrel
      have h0 : wr.cell? ⟨w2.heap.size, 0, none⟩ = some (.int .i64 (sLo t row k)) := by simp [World.cell?, hs]
      have h1 : wr.cell? ⟨w2.heap.size, 1, none⟩ = some (.int .i64 (sHi t row k)) := by simp [World.cell?, hs]
      have hfz : ∀ o, wr.frozen? ⟨w2.heap.size, o, none⟩ = false := by intro o; simp [World.frozen?, hs]
      have ht4 : wr.cell? ⟨w.heap.size, 1, none⟩ = some (.int .i64 t) := (hb3.cell (p := ⟨w.heap.size, 1, none⟩) (show w.heap.size < w2.heap.size by omega)).trans ht2
      have HS := hid hs
      clear hs ht2
      by_cases hlt : k < n
      · have HKL := hid (show k < row.length by rw [HN.out]; exact hlt)
        obtain ⟨b, off, rfl, hbs, hc⟩ := (HH.out.below (chain hbw2 hb3)) k HKL.out
        have hl := sLo_bd ht3.1 ht3.2 row k
        have hh := sHi_bd ht3.1 ht3.2 row k
        have hn1 : -1 ≤ row[k]?.getD 0 ∧ row[k]?.getD 0 ≤ 1 := by
          rw [List.getElem?_eq_getElem HKL.out]; exact HRL.out.2 _ (List.getElem_mem HKL.out)
        have e1 := hid (lo_step (L := sLo t row k) hn1 ht3 (by omega))
        have e2 := hid (hi_step (L := sHi t row k) hn1 ht3 (by omega))
        go_wp2
        go_region
        go_wp2
        refine ⟨⟨k + 1, by omega, by go_num, ?_, ?_⟩, by simp [intOf]; omega⟩
        · repeat (first | exact hb3 | refine below_set ?_ (Nat.le_refl _) _ _ | refine Below.drew ?_)
        · refine (cells_set (cells_set HS.out 0 _) 1 _).trans ?_
          first
            | (simp [sLo, sHi, e1.out, e2.out]; done)
            | (have m1 : min (row[k]?.getD 0) 0 = if 0 < row[k]?.getD 0 then 0 else row[k]?.getD 0 := by split <;> omega
               have m2 : max (row[k]?.getD 0) 0 = if row[k]?.getD 0 < 0 then 0 else row[k]?.getD 0 := by split <;> omega
               simp [sLo, sHi, m1, m2, e1.out, e2.out])
      · obtain rfl : k = n := by omega
        have hq3 : wr.heap[w.heap.size + 1]? = some (.cells #[.int .i64 0, .int .i64 0] 40 (0, 0)) := (hb3.block _ (by omega)).trans HQ2.out
        have g0 : wr.cell? ⟨w.heap.size + 1, 0, none⟩ = some (.int .i64 0) := by simp [World.cell?, hq3]
        have g1 : wr.cell? ⟨w.heap.size + 1, 1, none⟩ = some (.int .i64 0) := by simp [World.cell?, hq3]
        have gf : ∀ o, wr.frozen? ⟨w.heap.size + 1, o, none⟩ = false := by intro o; simp [World.frozen?, hq3]
        have hbE : Below w.heap.size w ((wr.setCell ⟨w.heap.size + 1, 0, none⟩ (.int .i64 (sLo t row k))).setCell ⟨w.heap.size + 1, 1, none⟩ (.int .i64 (sHi t row k))) := below_set (below_set (chain hbw2 hb3) (by omega) _ _) (by omega) _ _
        have HBE := hid hbE
        have HH2 := hid (cells_set (cells_set hq3 0 (.int .i64 (sLo t row k))) 1 (.int .i64 (sHi t row k)))
        clear hq3 hbE
        go_wp2
        have r0 : ((wr.setCell ⟨w.heap.size + 1, 0, none⟩ (.int .i64 (sLo t row k))).setCell ⟨w.heap.size + 1, 1, none⟩ (.int .i64 (sHi t row k))).cell? ⟨w.heap.size + 1, 0, none⟩ = some (.int .i64 (sLo t row k)) := by simp only [World.cell?, HH2.out]; simp
        have r1 : ((wr.setCell ⟨w.heap.size + 1, 0, none⟩ (.int .i64 (sLo t row k))).setCell ⟨w.heap.size + 1, 1, none⟩ (.int .i64 (sHi t row k))).cell? ⟨w.heap.size + 1, 1, none⟩ = some (.int .i64 (sHi t row k)) := by simp only [World.cell?, HH2.out]; simp
        refine bodyPost_ret (v := .tuple #[.agg #[.int .i64 (sLo t row k), .int .i64 (sHi t row k)], .int .i64 0]) ?_ rfl ⟨by simp [sightLo, sightHi, rowE, hf, hr, HN.out], HBE.out⟩
        simp [results, Tryd.results13, go_sem, r0, r1]
end Go.Proofs.YtofcpmfbeobgiaaDoor

namespace Go.Proofs.YtofcpmfbeobgiaaDoor
open Go.RowKit
set_option linter.unusedVariables false

theorem okField_bd {p t : Int} (h : okField p t = true) : 1 ≤ p ∧ p ≤ 8 ∧ 0 ≤ t ∧ t ≤ 3 := by
  unfold okField inB at h; simp at h; omega

end Go.Proofs.YtofcpmfbeobgiaaDoor

namespace Go.Proofs.YtofcpmfbeobgiaaDoor
open Go.RowKit
set_option linter.unusedVariables false

theorem RowsO.one (w : World) (E T : TypeId) (base : Nat) (hb : base ≤ w.heap.size) : RowsO E T (w.alloc (.cells #[.slice none 0 0] T)) base (fun _ => True) (.slice (some ⟨w.heap.size, 0, none⟩) 1 1) [[]] := by
  refine ⟨[.slice none 0 0], ⟨rfl, .inr ⟨w.heap.size, 1, _, rfl, hb, World.alloc_heap_new _ _, Nat.le_refl _, by decide, rfl, rfl⟩⟩, fun _ _ => trivial, fun j hj => ?_⟩
  have : j = 0 := by simp at hj; omega
  subst this
  exact ⟨_, rfl, none, 0, 0, rfl, rfl, by decide, fun j hj => by simp at hj⟩

end Go.Proofs.YtofcpmfbeobgiaaDoor

namespace Go.Proofs.YtofcpmfbeobgiaaDoor
open Go.RowKit
set_option linter.unusedVariables false

def countV (p t : Int) (l : List Cel) : Int := if okCells p t l then ((fitting p.toNat t.toNat l).length : Int) else 0
def cellsE (p t : Int) (l : List Cel) : Int := if okCells p t l then 0 else 1

theorem okCells_bd {p t : Int} {l : List Cel} (h : okCells p t l = true) : okField p t = true ∧ ∀ c ∈ l, c.row.length ≤ p.toNat := by
  simp only [okCells, Bool.and_eq_true, decide_eq_true_eq, List.all_eq_true] at h
  refine ⟨h.1.1, fun c hc => ?_⟩
  have := h.2 c hc
  simp only [okCell, okRow, Bool.and_eq_true, decide_eq_true_eq] at this
  have := this.1.1.1
  omega

theorem count_c (w : World) (p t : Int) (a : Option Addr) (n cap : Nat) (l : List Cel) (hn : l.length = n) (hm : n ≤ maxLen) (H : CellsAt w a l) :
    Calls Tryd.prog 12 #[.agg #[.int .i64 p, .int .i64 t], .slice a n cap] w fun e w' => e = .returned (.tuple #[.int .i64 (countV p t l), .int .i64 (cellsE p t l)]) ∧ Below w.heap.size w w' := by
  have hb0 : Below w.heap.size w (w.alloc (.cells #[.int .i64 p, .int .i64 t] 23)) := (Below.refl _ _).alloc (Nat.le_refl _) _
  have HV := hid (fun (W : World) (hb : Below w.heap.size w W) => validCells_c W p t a n cap l hn hm (H.below hb))
  cases hf : okCells p t l
  · have e1 : countV p t l = 0 := by simp [countV, hf]
    have e2 : cellsE p t l = 1 := by simp [cellsE, hf]
    rw [e1, e2]
    clear e1 e2 hn H
    rw [hf] at HV
    go_enter Tryd.func12, Tryd.ntmps12
    go_wp2_with (go_at_call 11; refine (HV.out _ hb0).mono ?_; rintro e w1 ⟨rfl, hb1⟩; obtain ⟨hc1, hf1⟩ := bcell hb1)
    go_ret2
    exact ⟨rfl, chain hb0 hb1⟩
  · obtain ⟨hfd, hrows⟩ := okCells_bd hf
    obtain ⟨p1, p8, t0, t3⟩ := okField_bd hfd
    obtain ⟨P, rfl⟩ := Int.eq_ofNat_of_zero_le (show 0 ≤ p by omega)
    obtain ⟨T, rfl⟩ := Int.eq_ofNat_of_zero_le t0
    have e1 : countV (P : Int) (T : Int) l = ((fitting P T l).length : Int) := by simp [countV, hf]
    have e2 : cellsE (P : Int) (T : Int) l = 0 := by simp [cellsE, hf]
    rw [e1, e2]
    have HL := hid (fun (W : World) (hb : Below w.heap.size w W) => left_c W P T (by omega) (by omega) a n cap l hn hm (H.below hb) hrows)
    clear e1 e2 hn H hrows
    rw [hf] at HV
    go_enter Tryd.func12, Tryd.ntmps12
    go_wp2_with (first | (go_at_call 11; refine (HV.out _ hb0).mono ?_; rintro e w1 ⟨rfl, hb1⟩; obtain ⟨hc1, hf1⟩ := bcell hb1) | (go_at_call 31; refine (HL.out _ (chain hb0 hb1)).mono ?_; rintro e w2 ⟨v, base, rfl, hbase, hR, hb2⟩; obtain ⟨a2, c2, rfl, hl2, _, _⟩ := hR.reads; have HR := hid hR; clear hR))
    go_ret2
    exact ⟨rfl, chain hb0 (chain hb1 hb2)⟩

def fitB (l : List Cel) : Bool := l.all (fun c => decide (c.row.length ≤ 20)) && decide (l.length ≤ 35)

theorem fit_c (w : World) (a : Option Addr) (n cap : Nat) (l : List Cel) (hn : l.length = n) (hm : n ≤ maxLen) (H : CellsAt w a l) :
    Calls Tryd.prog 4 #[.slice a n cap] w fun e w' => e = .returned (.bool (fitB l)) ∧ Below w.heap.size w w' := by
  have HN := hid hn
  have HH := hid H
  clear hn H
  unfold maxLen at hm
  go_enter Tryd.func4, Tryd.ntmps4
  go_wp2
  go_loopw [7] (fun i wr => ∃ k : Nat, k ≤ n ∧ i = .int .i64 k ∧ Below w.heap.size w wr ∧ ∀ j (hj : j < l.length), j < k → l[j].row.length ≤ 20) (fun i _ => n - (intOf i).toNat)
  case atStart => exact ⟨0, Nat.zero_le _, rfl, Below.refl _ _, fun i _ h => by omega⟩
  case round =>
    obtain ⟨k, hk, rfl, hb, hno⟩ := hrel
    have HNO := hid hno
    clear hno
    by_cases hlt : k < n
    · have hkl : k < l.length := by rw [HN.out]; exact hlt
      obtain ⟨b, off, ra, rn, rc, rfl, hbs, h0, h1, h2, hrn, hrm, hri⟩ := HH.out.below hb k hkl
      have hb1 : Below wr.heap.size wr (wr.alloc (.cells #[.slice ra rn rc, .int .i64 l[k].lo, .int .i64 l[k].hi] 36)) := (Below.refl _ _).alloc (Nat.le_refl _) _
      have HRN := hid hrn
      unfold maxLen at hrm
      clear hrn hri
      by_cases h20 : rn ≤ 20
      all_goals go_wp2
      · have HR : Hid (∃ k_1 : Nat, k_1 ≤ n ∧ Value.int .i64 ((k : Int) + 1) = Value.int .i64 (k_1 : Int) ∧ Below w.heap.size w (wr.alloc (.cells #[.slice ra rn rc, .int .i64 l[k].lo, .int .i64 l[k].hi] 36)) ∧ ∀ j (hj : j < l.length), j < k_1 → l[j].row.length ≤ 20) := by
          refine ⟨k + 1, by omega, cast1 k, chain hb hb1, ?_⟩
          intro j hj hjk
          by_cases e : j = k
          · subst e; rw [HRN.out]; exact h20
          · exact HNO.out j hj (by omega)
        first | exact ⟨HR.out, meas hlt⟩ | (go_roundw; (case rel => exact HR.out); (case measure => exact meas hlt))
      · go_ret
        refine ⟨ret_bool ?_, chain hb hb1⟩
        have : l.all (fun c => decide (c.row.length ≤ 20)) = false := by
          rw [List.all_eq_false]
          exact ⟨l[k], List.getElem_mem _, by simp [HRN.out]; omega⟩
        simp [fitB, this]
    · go_wp2
      go_ret
      refine ⟨ret_bool ?_, hb⟩
      have : l.all (fun c => decide (c.row.length ≤ 20)) = true := by
        rw [List.all_eq_true]
        intro c hc
        obtain ⟨j, hj, rfl⟩ := List.mem_iff_getElem.1 hc
        have := HNO.out j hj (by have := HN.out; omega)
        simpa using this
      simp [fitB, this, HN.out]; try omega

theorem bcellN {N : Nat} {W w1 : World} (hb : Below N W w1) : (∀ b o, b < N → w1.cell? ⟨b, o, none⟩ = W.cell? ⟨b, o, none⟩) ∧ (∀ b o, b < N → w1.frozen? ⟨b, o, none⟩ = W.frozen? ⟨b, o, none⟩) :=
  ⟨fun b o h => hb.cell (p := ⟨b, o, none⟩) h, fun b o h => hb.frozen (p := ⟨b, o, none⟩) h⟩

theorem awake_cnt : countV 2 1 [⟨[1, 1], 1, 1⟩] = 2 ∧ cellsE 2 1 [⟨[1, 1], 1, 1⟩] = 0 ∧ sightLo 2 1 [1, 1] = 0 ∧ sightHi 2 1 [1, 1] = 2 ∧ rowE 2 1 [1, 1] = 0 := by decide +kernel

theorem two_ints (W : World) : IntsAt (W.alloc (.cells #[.int .i64 1, .int .i64 1] 3)) (some ⟨W.heap.size, 0, none⟩) [1, 1] := by
  have h : (W.alloc (.cells #[.int .i64 1, .int .i64 1] 3)).heap[W.heap.size]? = some (.cells (([1, 1] : List Int).map (Value.int .i64) ++ []).toArray 3 (0, 0)) := World.alloc_heap_new _ _
  exact ints_of_row h

theorem one_cells (W : World) (b1 : Nat) (h1 : IntsAt W (some ⟨b1, 0, none⟩) [1, 1]) : CellsAt (W.alloc (.cells #[.slice (some ⟨b1, 0, none⟩) 2 2, .int .i64 1, .int .i64 1] 36)) (some ⟨W.heap.size, 0, none⟩) [⟨[1, 1], 1, 1⟩] := by
  have hb : Below W.heap.size W (W.alloc (.cells #[.slice (some ⟨b1, 0, none⟩) 2 2, .int .i64 1, .int .i64 1] 36)) := (Below.refl _ _).alloc (Nat.le_refl _) _
  intro j hj
  have : j = 0 := by simp at hj; omega
  subst this
  refine ⟨W.heap.size, 0, some ⟨b1, 0, none⟩, 2, 2, rfl, by simp, ?_, ?_, ?_, rfl, by decide, h1.below hb⟩ <;> (rw [World.cell?_alloc_at _ _ _ _ rfl]; rfl)

set_option maxRecDepth 100000 in
theorem awake_c (w : World) : Calls Tryd.prog 5 #[] w fun e w' => e = .returned (.bool true) ∧ Below w.heap.size w w' := by
  obtain ⟨c1, c2, c3, c4, c5⟩ := awake_cnt
  have hb0 : Below w.heap.size w (w.alloc (.cells #[.int .i64 2, .int .i64 1] 23)) := (Below.refl _ _).alloc (Nat.le_refl _) _
  have HC0 := (count_c _ 2 1 (some ⟨((w.alloc (.cells #[.int .i64 2, .int .i64 1] 23)).alloc (.cells #[.int .i64 1, .int .i64 1] 3)).heap.size, 0, none⟩) 1 1 [⟨[1, 1], 1, 1⟩] rfl (by decide) (one_cells ((w.alloc (.cells #[.int .i64 2, .int .i64 1] 23)).alloc (.cells #[.int .i64 1, .int .i64 1] 3)) (w.alloc (.cells #[.int .i64 2, .int .i64 1] 23)).heap.size (two_ints _)))
  have HS := hid (fun W : World => sight_c (W.alloc (.cells #[.int .i64 1, .int .i64 1] 3)) 2 1 (some ⟨W.heap.size, 0, none⟩) 2 2 [1, 1] rfl (by decide) (two_ints _))
  rw [c1, c2] at HC0
  simp only [World.size_alloc] at HC0
  have HC := hid HC0
  clear HC0
  simp only [c3, c4, c5] at HS
  clear c1 c2 c3 c4 c5
  go_enter Tryd.func5, Tryd.ntmps5
  go_wp2_with (first | (go_at_call 12; refine HC.out.mono ?_; rintro e w1 ⟨rfl, hb1⟩; obtain ⟨hc1, hf1⟩ := bcellN hb1) | (go_at_call 13; refine (HS.out _).mono ?_; rintro e w2 ⟨rfl, hb3⟩; obtain ⟨hc2, hf2⟩ := bcell hb3))
  go_ret
  refine ⟨rfl, ?_⟩
  have hA := (hb0.alloc (by simp) (.cells #[.int .i64 1, .int .i64 1] 3)).alloc (by simp; omega) (.cells #[.slice (some ⟨w.heap.size + 1, 0, none⟩) 2 2, .int .i64 1, .int .i64 1] 36)
  have h1 := hA.trans (hb1.mono (by omega))
  have hs := h1.size
  have h2 := (h1.alloc hs (.cells #[.int .i64 1, .int .i64 1] 3)).trans (hb3.mono (by simp; omega))
  exact h2.alloc h2.size _
end Go.Proofs.YtofcpmfbeobgiaaDoor

namespace Go.Proofs.YtofcpmfbeobgiaaDoor
open Go.RowKit
set_option linter.unusedVariables false

open Classical in
noncomputable def lift (W X : World) : World := if Below W.heap.size W X then X else W
theorem lift_below (W X : World) : Below W.heap.size W (lift W X) := by
  unfold lift; split
  · assumption
  · exact Below.refl _ _
theorem lift_of {W X : World} (h : Below W.heap.size W X) : X = lift W X := by unfold lift; rw [if_pos h]
theorem lift_cell {W : World} {b o : Nat} {v : Value} (hb : b < W.heap.size) (h : W.cell? ⟨b, o, none⟩ = some v) : ∀ X, (lift W X).cell? ⟨b, o, none⟩ = some v := fun X => ((lift_below W X).cell (p := ⟨b, o, none⟩) hb).trans h

theorem lift_calls {P : Program} {f : FuncId} {args : Array Value} {W X : World} {v : Value} (h : Calls P f args (lift W X) fun e w' => e = .returned v ∧ Below (lift W X).heap.size (lift W X) w') :
    Calls P f args (lift W X) fun e w'' => e = .returned v ∧ ∃ Y, w'' = lift W Y :=
  h.mono fun e w' ⟨he, hb⟩ => ⟨he, w', lift_of (chain (lift_below W X) hb)⟩

theorem region_lift {P : Program} {id : Nat} {Q : Exit → Act → World → Prop} {a : Act} {w : World} {l : List Oper} (hm : P.follows .mixedOrders = true) (hB : Region.lexB .any l.toArray = true)
    (h : wpQuiet P l.toArray (fun w' => ∃ X, w' = lift w X) (fun a' => ∀ w', (∃ X, w' = lift w X) → Q .normal a' w') l a) : (Code.region id l.toArray true).wp P Q a w :=
  wp_region_quiet (C := fun w' => ∃ X, w' = lift w X) hm hB ⟨_, lift_of (⟨rfl, rfl, rfl, Nat.le_refl _, fun _ _ => rfl⟩ : Below w.heap.size w { w with drawn := w.drawn + 1 })⟩ (by simpa using h)
end Go.Proofs.YtofcpmfbeobgiaaDoor

namespace Go.Proofs.YtofcpmfbeobgiaaDoor
open Go.RowKit
set_option linter.unusedVariables false

def IntsFrom (B : Nat) (w : World) (a : Option Addr) (l : List Int) : Prop :=
  ∀ j, j < l.length → ∃ b off, a = some ⟨b, off, none⟩ ∧ B ≤ b ∧ b < w.heap.size ∧ w.cell? ⟨b, off + j, none⟩ = some (.int .i64 (l[j]?.getD 0))
theorem IntsFrom.mono {B B' : Nat} (hB : B' ≤ B) {w : World} {a : Option Addr} {l : List Int} (h : IntsFrom B w a l) : IntsFrom B' w a l := fun j hj => by
  obtain ⟨b, off, e, hB', hb, hc⟩ := h j hj
  exact ⟨b, off, e, Nat.le_trans hB hB', hb, hc⟩
theorem IntsFrom.below {B : Nat} {w w' : World} {a : Option Addr} {l : List Int} (h : IntsFrom B w a l) (hb : Below w.heap.size w w') : IntsFrom B w' a l := fun j hj => by
  obtain ⟨b, off, e, hB, hlt, hc⟩ := h j hj
  exact ⟨b, off, e, hB, Nat.lt_of_lt_of_le hlt hb.size, (hb.cell (p := ⟨b, off + j, none⟩) hlt).trans hc⟩
theorem IntsFrom.set {B : Nat} {w : World} {a : Option Addr} {l : List Int} (h : IntsFrom B w a l) {b0 : Nat} (hb0 : b0 < B) (o : Nat) (v : Value) : IntsFrom B (w.setCell ⟨b0, o, none⟩ v) a l := fun j hj => by
  obtain ⟨b, off, e, hB, hlt, hc⟩ := h j hj
  exact ⟨b, off, e, hB, by simpa using hlt, by rw [World.cell?_setCell_far _ _ _ _ (show b0 ≠ b by omega)]; exact hc⟩
theorem cell3_get {W : World} {b : Nat} {x0 x1 x2 : Value} {E : TypeId} (h : W.heap[b]? = some (.cells #[x0, x1, x2] E (0, 0))) :
    W.cell? ⟨b, 0, none⟩ = some x0 ∧ W.cell? ⟨b, 1, none⟩ = some x1 ∧ W.cell? ⟨b, 2, none⟩ = some x2 ∧ ∀ o, W.frozen? ⟨b, o, none⟩ = false := by
  refine ⟨?_, ?_, ?_, fun o => ?_⟩ <;> simp [World.cell?, World.frozen?, h]
theorem CelV.zero (w : World) : CelV w (.agg #[.slice none 0 0, .int .i64 0, .int .i64 0]) ⟨[], 0, 0⟩ := ⟨none, 0, 0, rfl, rfl, by decide, fun j hj => by simp at hj⟩

end Go.Proofs.YtofcpmfbeobgiaaDoor

namespace Go.Proofs.YtofcpmfbeobgiaaDoor
open Go.RowKit
set_option linter.unusedVariables false

def CelF (B : Nat) (w : World) (v : Value) (c : Cel) : Prop :=
  ∃ ra n cap, v = .agg #[.slice ra n cap, .int .i64 c.lo, .int .i64 c.hi] ∧ c.row.length = n ∧ n ≤ maxLen ∧ IntsFrom B w ra c.row
theorem CelF.below {B : Nat} {w w' : World} {v : Value} {c : Cel} (h : CelF B w v c) (hb : Below w.heap.size w w') : CelF B w' v c := by
  obtain ⟨ra, n, cap, e, h1, h2, h3⟩ := h
  exact ⟨ra, n, cap, e, h1, h2, h3.below hb⟩
theorem CelF.zero (B : Nat) (w : World) : CelF B w (.agg #[.slice none 0 0, .int .i64 0, .int .i64 0]) ⟨[], 0, 0⟩ := ⟨none, 0, 0, rfl, rfl, by decide, fun j hj => by simp at hj⟩

end Go.Proofs.YtofcpmfbeobgiaaDoor

namespace Go.Proofs.YtofcpmfbeobgiaaDoor
open Go.RowKit
set_option linter.unusedVariables false

theorem sameCell_c (w : World) (v1 v2 : Value) (c : Cel) (h1 : CelV w v1 c) (h2 : CelV w v2 c) :
    Calls Tryd.prog 24 #[v1, v2] w fun e w' => e = .returned (.bool true) ∧ Below w.heap.size w w' := by
  obtain ⟨ra, n, rc, rfl, hn, hm, hi⟩ := h1
  obtain ⟨rb, n', rc', rfl, hn', _, hi'⟩ := h2
  obtain rfl : n = n' := by omega
  have HLH := hid (show c.row.length = n from hn)
  obtain ⟨wf, hwf⟩ : ∃ wf, wf = (w.alloc (.cells #[.slice ra n rc, .int .i64 c.lo, .int .i64 c.hi] 36)).alloc (.cells #[.slice rb n rc', .int .i64 c.lo, .int .i64 c.hi] 36) := ⟨_, rfl⟩
  have hb0 : Below w.heap.size w wf := by rw [hwf]; exact ((Below.refl _ _).alloc (Nat.le_refl _) _).alloc (by simp) _
  have hz : wf.heap.size = w.heap.size + 2 := by rw [hwf]; simp
  have hh1 : wf.heap[w.heap.size + 1]? = some (.cells #[.slice rb n rc', .int .i64 c.lo, .int .i64 c.hi] 36 (0, 0)) := by
    rw [hwf]
    have := World.alloc_heap_new (w.alloc (.cells #[.slice ra n rc, .int .i64 c.lo, .int .i64 c.hi] 36)) (.cells #[.slice rb n rc', .int .i64 c.lo, .int .i64 c.hi] 36)
    rw [World.size_alloc] at this
    exact this
  have hh0 : wf.cell? ⟨w.heap.size, 0, none⟩ = some (.slice ra n rc) := by
    rw [hwf, World.cell?_alloc_lt _ _ _ (show w.heap.size < (w.alloc _).heap.size by simp), World.cell?_alloc_at _ _ _ _ rfl]; rfl
  have hh1' := (cell3_get hh1).1
  have HI := hid (hi.below hb0)
  have HI2 := hid (hi'.below hb0)
  have HF := hid (fun (W : World) (hb : Below wf.heap.size wf W) => show W.cell? ⟨w.heap.size, 0, none⟩ = some (.slice ra n rc) ∧ W.cell? ⟨w.heap.size + 1, 0, none⟩ = some (.slice rb n rc') from
    ⟨(hb.cell (p := ⟨w.heap.size, 0, none⟩) (show w.heap.size < wf.heap.size by omega)).trans hh0, (hb.cell (p := ⟨w.heap.size + 1, 0, none⟩) (show w.heap.size + 1 < wf.heap.size by omega)).trans hh1'⟩)
  have HB0 := hid hb0
  unfold maxLen at hm
  clear hn hn' hi hi' hh0 hh1 hh1' hz hb0
  go_enter Tryd.func24, Tryd.ntmps24
  go_wp2
  rw [← hwf]
  clear hwf
  go_loopw [30] (fun i wr => ∃ k : Nat, k ≤ n ∧ i = .int .i64 k ∧ Below wf.heap.size wf wr) (fun i _ => n - (intOf i).toNat)
  case atStart => exact ⟨0, Nat.zero_le _, rfl, Below.refl _ _⟩
  case round =>
    obtain ⟨k, hk, rfl, hb⟩ := hrel
    obtain ⟨f0, f1⟩ := HF.out _ hb
    by_cases hlt : k < n
    · have HKL := hid (show k < c.row.length by rw [HLH.out]; exact hlt)
      obtain ⟨b, off, rfl, hbs, hc⟩ := (HI.out.below hb) k HKL.out
      obtain ⟨b', off', rfl, hbs', hc'⟩ := (HI2.out.below hb) k HKL.out
      go_wp2
      go_quiet (fail)
      go_wp2
      exact ⟨⟨k + 1, by omega, by go_num, below_drewN hb _⟩, meas hlt⟩
    · go_wp2
      go_ret
      exact ⟨rfl, chain HB0.out hb⟩

end Go.Proofs.YtofcpmfbeobgiaaDoor

namespace Go.Proofs.YtofcpmfbeobgiaaDoor
open Go.RowKit
set_option linter.unusedVariables false

theorem own_below {W W' : World} {base : Nat} {e : TypeId} {size : Nat} {v : Value} {n : Nat} {xs : List Value} (h : W.ownsRow base e size v n xs) (hb : Below W.heap.size W W') : W'.ownsRow base e size v n xs := by
  refine ⟨h.1, ?_⟩
  rcases h.2 with hn | ⟨g, cap, cur, rfl, hg, hgg, rest⟩
  · exact .inl hn
  · exact .inr ⟨g, cap, cur, rfl, hg, (hb.block g (Array.getElem?_eq_some_iff.1 hgg).1).trans hgg, rest⟩
end Go.Proofs.YtofcpmfbeobgiaaDoor

namespace Go.Proofs.YtofcpmfbeobgiaaDoor
open Go.RowKit Go.Maps
set_option linter.unusedVariables false

def CelVals (W : World) (xs : List Value) (l : List Cel) : Prop :=
  xs.length = l.length * 3 ∧ ∀ j (hj : j < l.length), ∃ ra n cap, xs[j * 3]? = some (.slice ra n cap) ∧ xs[j * 3 + 1]? = some (.int .i64 l[j].lo) ∧ xs[j * 3 + 2]? = some (.int .i64 l[j].hi) ∧ l[j].row.length = n ∧ n ≤ maxLen ∧ IntsAt W ra l[j].row

theorem CelVals.below {W W' : World} {xs : List Value} {l : List Cel} (h : CelVals W xs l) (hb : Below W.heap.size W W') : CelVals W' xs l := by
  refine ⟨h.1, fun j hj => ?_⟩
  obtain ⟨ra, n, cap, h0, h1, h2, h3, h4, h5⟩ := h.2 j hj
  exact ⟨ra, n, cap, h0, h1, h2, h3, h4, h5.below hb⟩

theorem CelVals.nil (W : World) : CelVals W [] [] := ⟨rfl, fun j hj => by simp at hj⟩

theorem CelVals.append {W : World} {xs ys : List Value} {l m : List Cel} (h : CelVals W xs l) (k : CelVals W ys m) : CelVals W (xs ++ ys) (l ++ m) := by
  refine ⟨by rw [List.length_append, List.length_append, h.1, k.1]; omega, fun j hj => ?_⟩
  by_cases e : j < l.length
  · obtain ⟨ra, n, cap, h0, h1, h2, h3, h4, h5⟩ := h.2 j e
    have hx := h.1
    rw [List.getElem_append_left e]
    exact ⟨ra, n, cap, by rw [List.getElem?_append_left (by omega)]; exact h0, by rw [List.getElem?_append_left (by omega)]; exact h1, by rw [List.getElem?_append_left (by omega)]; exact h2, h3, h4, h5⟩
  · have hj' : j - l.length < m.length := by rw [List.length_append] at hj; omega
    obtain ⟨ra, n, cap, h0, h1, h2, h3, h4, h5⟩ := k.2 (j - l.length) hj'
    have hx := h.1
    have e0 : j * 3 - xs.length = (j - l.length) * 3 := by omega
    have e1 : j * 3 + 1 - xs.length = (j - l.length) * 3 + 1 := by omega
    have e2 : j * 3 + 2 - xs.length = (j - l.length) * 3 + 2 := by omega
    rw [List.getElem_append_right (by omega)]
    exact ⟨ra, n, cap, by rw [List.getElem?_append_right (by omega), e0]; exact h0, by rw [List.getElem?_append_right (by omega), e1]; exact h1, by rw [List.getElem?_append_right (by omega), e2]; exact h2, h3, h4, h5⟩

theorem CelVals.one {W : World} {ra : Option Addr} {n cap : Nat} {c : Cel} (h1 : c.row.length = n) (h2 : n ≤ maxLen) (h3 : IntsAt W ra c.row) : CelVals W [.slice ra n cap, .int .i64 c.lo, .int .i64 c.hi] [c] := by
  refine ⟨rfl, fun j hj => ?_⟩
  have : j = 0 := by simp at hj; omega
  subst this
  exact ⟨ra, n, cap, rfl, rfl, rfl, h1, h2, h3⟩

theorem cells_of_own {W : World} {base n c : Nat} {T : TypeId} {a : Option Addr} {xs : List Value} {l : List Cel} (h : W.ownsRow base T 3 (.slice a n c) n xs) (hv : CelVals W xs l) (hl : l.length = n) : CellsAt W a l := by
  intro j hj
  rcases h.2 with ⟨_, h0⟩ | ⟨g, cap, cur, e, hg, hh, rest⟩
  · omega
  · cases e
    have hlt := (Array.getElem?_eq_some_iff.1 hh).1
    have hc : ∀ i, i < n * 3 → W.cell? ⟨g, i, none⟩ = xs[i]? := fun i hi => World.ownsRow.cellAt (w := W) (base := base) (e := T) (size := 3) (g := g) (n := n) (cap := c) (xs := xs) h i hi
    obtain ⟨ra, rn, rc, h0, h1, h2, h3, h4, h5⟩ := hv.2 j hj
    refine ⟨g, 0, ra, rn, rc, rfl, hlt, ?_, ?_, ?_, h3, h4, h5⟩
    · rw [Nat.zero_add, hc _ (by omega)]; exact h0
    · rw [Nat.zero_add, hc _ (by omega)]; exact h1
    · rw [Nat.zero_add, hc _ (by omega)]; exact h2

theorem info_cell : (Tryd.prog.info? 36).map (fun i => (i.zero, i.size, i.bytes)) = some (some (.agg #[.slice none 0 0, .int .i64 0, .int .i64 0]), 3, 40) := by kernel_rfl

end Go.Proofs.YtofcpmfbeobgiaaDoor

namespace Go.Proofs.YtofcpmfbeobgiaaDoor
open Go.RowKit Go.Maps
set_option linter.unusedVariables false

def SepA (S : Nat → Prop) (r : Option Nat) (l : List Int) (ra : Option Addr) : Prop := l = [] ∨ ∀ ad, ra = some ad → some ad.block ≠ r ∧ S ad.block
def CelsO (T : TypeId) (S : Nat → Prop) (W : World) (base : Nat) (v : Value) (l : List Cel) : Prop :=
  ∃ xs, W.ownsRow base T 3 v l.length xs ∧ CelVals W xs l ∧ ∀ j (hj : j < l.length) ra n cap, xs[j * 3]? = some (.slice ra n cap) → SepA S v.ownBlock l[j].row ra

theorem CelsO.nil (T : TypeId) (S : Nat → Prop) (W : World) (base : Nat) : CelsO T S W base (.slice none 0 0) [] :=
  ⟨[], World.ownsRow_nil _ _ _ _, CelVals.nil W, fun j hj => by simp at hj⟩

theorem CelsO.keep {T : TypeId} {S S' : Nat → Prop} {W W' : World} {base : Nat} {v : Value} {l : List Cel} (h : CelsO T S W base v l) (hk : Keep S' W W') (h1 : ∀ k, base ≤ k → S' k) (h2 : ∀ k, S k → S' k) : CelsO T S W' base v l := by
  obtain ⟨xs, ho, hv, hs⟩ := h
  refine ⟨xs, ⟨ho.1, ?_⟩, ⟨hv.1, fun j hj => ?_⟩, hs⟩
  · rcases ho.2 with hn | ⟨g, cap, cur, rfl, hbg, hgg, rest⟩
    · exact .inl hn
    · exact .inr ⟨g, cap, cur, rfl, hbg, (hk.block g (Array.getElem?_eq_some_iff.1 hgg).1 (h1 g hbg)).trans hgg, rest⟩
  · obtain ⟨ra, n, cap, e0, e1, e2, e3, e4, e5⟩ := hv.2 j hj
    refine ⟨ra, n, cap, e0, e1, e2, e3, e4, fun i hi => ?_⟩
    obtain ⟨b, off, e, hb, hc⟩ := e5 i hi
    rcases hs j hj ra n cap e0 with h | h
    · rw [h] at hi; simp at hi
    · exact ⟨b, off, e, Nat.lt_of_lt_of_le hb hk.size, hk.cell hc (h2 _ (h _ e).2)⟩

theorem CelsO.below {T : TypeId} {S : Nat → Prop} {W W' : World} {base : Nat} {v : Value} {l : List Cel} (h : CelsO T S W base v l) (hb : Below W.heap.size W W') : CelsO T S W' base v l :=
  h.keep (S' := fun _ => True) (Keep.of_below hb) (fun _ _ => trivial) (fun _ _ => trivial)

theorem CelsO.reads {T : TypeId} {S : Nat → Prop} {W : World} {base : Nat} {v : Value} {l : List Cel} (h : CelsO T S W base v l) : ∃ a cap, v = .slice a l.length cap ∧ l.length ≤ maxLen ∧ CellsAt W a l := by
  obtain ⟨xs, ho, hv, hs⟩ := h
  obtain ⟨a, cap, rfl⟩ := ownsRow_slice ho
  rcases ho.2 with ⟨e, h0⟩ | ⟨g, cap', cur, e, hbg, hgg, hnc, hcm, rest⟩
  · exact ⟨a, cap, rfl, by omega, fun j hj => by omega⟩
  · cases e
    exact ⟨_, cap, rfl, by omega, cells_of_own ⟨ho.1, .inr ⟨g, cap, cur, rfl, hbg, hgg, hnc, hcm, rest⟩⟩ hv rfl⟩

theorem IntsAt.grownBy {S : Nat → Prop} {W1 W2 : World} {r : Option Nat} {ra : Option Addr} {l : List Int} (h : IntsAt W1 ra l) (hs : SepA S r l ra) (hg : W1.grownBy W2 r) : IntsAt W2 ra l := by
  intro j hj
  obtain ⟨b, off, e, hb, hc⟩ := h j hj
  rcases hs with rfl | hs
  · simp at hj
  · exact ⟨b, off, e, Nat.lt_of_lt_of_le hb hg.size, (World.grownBy.cell_far hg ⟨b, off + j, none⟩ hb (show some b ≠ r from (hs _ e).1)).trans hc⟩

theorem SepA.new {S : Nat → Prop} {W : World} {r : Option Nat} {ra : Option Addr} {l : List Int} (h : IntsAt W ra l) (hs : SepA S r l ra) {g : Nat} (hg : W.heap.size ≤ g) : SepA S (some g) l ra := by
  cases l with
  | nil => exact .inl rfl
  | cons x l =>
    right
    intro ad e
    refine ⟨?_, ?_⟩
    · obtain ⟨b, off, e2, hb, _⟩ := h 0 (by simp)
      rw [e] at e2
      cases e2
      intro e3
      cases e3
      exact absurd hg (Nat.not_le.2 hb)
    · rcases hs with h | h
      · cases h
      · exact (h ad e).2

theorem CelsO.snoc {T : TypeId} {S : Nat → Prop} {W1 W2 : World} {base : Nat} {v v' : Value} {l : List Cel} {xs : List Value} {c : Cel} {ra : Option Addr} {n cap : Nat}
    (ho : W1.ownsRow base T 3 v l.length xs) (hv : CelVals W1 xs l) (hs : ∀ j (hj : j < l.length) ra n cap, xs[j * 3]? = some (.slice ra n cap) → SepA S v.ownBlock l[j].row ra)
    (h1 : c.row.length = n) (h2 : n ≤ maxLen) (h3 : IntsAt W1 ra c.row) (h4 : SepA S v.ownBlock c.row ra)
    (hg : W1.grownBy W2 v.ownBlock) (ho' : W2.ownsRow base T 3 v' (l.length + 1) (xs ++ [.slice ra n cap, .int .i64 c.lo, .int .i64 c.hi])) (hl : v.ownBlock = v'.ownBlock ∨ ∃ g, v'.ownBlock = some g ∧ W1.heap.size ≤ g) :
    CelsO T S W2 base v' (l ++ [c]) := by
  have hsep : ∀ (l : List Int) (ra : Option Addr), IntsAt W1 ra l → SepA S v.ownBlock l ra → SepA S v'.ownBlock l ra := by
    intro l ra hi hs
    rcases hl with e | ⟨g, e, hg⟩
    · rw [← e]; exact hs
    · rw [e]; exact SepA.new hi hs hg
  have hv1 : CelVals W2 xs l := by
    refine ⟨hv.1, fun j hj => ?_⟩
    obtain ⟨ra, n, cap, e0, e1, e2, e3, e4, e5⟩ := hv.2 j hj
    exact ⟨ra, n, cap, e0, e1, e2, e3, e4, e5.grownBy (hs j hj ra n cap e0) hg⟩
  refine ⟨_, by simpa using ho', hv1.append (CelVals.one h1 h2 (h3.grownBy h4 hg)), fun j hj ra' n' cap' he => ?_⟩
  have hx := hv.1
  by_cases e : j < l.length
  · rw [List.getElem?_append_left (by omega)] at he
    obtain ⟨ra2, n2, cap2, e0, e1, e2, e3, e4, e5⟩ := hv.2 j e
    rw [e0] at he
    cases he
    rw [List.getElem_append_left e]
    exact hsep _ _ e5 (hs j e _ _ _ e0)
  · have : j = l.length := by simp at hj; omega
    subst this
    rw [List.getElem?_append_right (by omega), show l.length * 3 - xs.length = 0 by omega] at he
    simp at he
    obtain ⟨rfl, rfl, rfl⟩ := he
    simp only [List.getElem_append_right (Nat.le_refl _), Nat.sub_self, List.getElem_cons_zero]
    exact hsep _ _ h3 h4

end Go.Proofs.YtofcpmfbeobgiaaDoor

namespace Go.Proofs.YtofcpmfbeobgiaaDoor
open Go.RowKit Go.Shelf
set_option linter.unusedVariables false

def Tab (w : World) : Prop := Lib.TabIs Tryd.prog w "internal/strconv.uint64pow10" .u64 Lib.pow10Tab
theorem tabNamed : Tryd.prog.globalNamed "internal/strconv.uint64pow10" = some 5 := by kernel_rfl
theorem Tab.below {w w' : World} (h : Tab w) (hb : Below w.heap.size w w') : Tab w' := by
  unfold Tab Lib.TabIs World.var? at h ⊢
  rw [tabNamed] at h ⊢
  simp only [Option.bind_some] at h ⊢
  have hlt : 5 < w.heap.size := by
    rcases Nat.lt_or_ge 5 w.heap.size with h' | h'
    · exact h'
    · rw [Array.getElem?_eq_none h'] at h; cases h
  rw [hb.block 5 hlt]
  exact h
def isInt (n : Int) : Prop := -9223372036854775808 ≤ n ∧ n ≤ 9223372036854775807
theorem itoa_c (n : Int) (hn : isInt n) (w : World) (ht : Tab w) : Calls Tryd.prog 41 #[.int .i64 n] w fun e w' => e = .returned (.string ⟨(Lib.itoa n).toArray⟩) ∧ Below w.heap.size w w' :=
  (Tryd.strconv_Itoa n hn.1 hn.2 w ht).mono fun e w' ⟨h, k, os, e2⟩ => ⟨h, by rw [e2]; exact Lib.below_grow _ w (Nat.le_refl _) k os⟩
theorem infoByte : (Tryd.prog.info? 5).map (fun i => (i.zero, i.size, i.bytes)) = some (some (.int .u8 0), 1, 1) := by kernel_rfl
theorem sizeBuilder : (Tryd.prog.info? 61).map (·.size) = some 2 := by kernel_rfl
theorem liesBuilder : liesAt Tryd.prog Tryd.prog.depth 61 (2 / Tryd.prog.cellsOf 61) 0 61 1 = true := by kernel_rfl
set_option maxHeartbeats 1000000 in
set_option maxRecDepth 100000 in
theorem copyCheck_used (b : Nat) (w : World) (h0 : w.cell? ⟨b, 0, none⟩ = some (.pointer (some ⟨b, 0, none⟩))) :
    Calls Tryd.prog 45 #[.pointer (some ⟨b, 0, none⟩)] w fun e w' => e = .returned (.tuple #[]) ∧ w' = w := by
  obtain ⟨j, hj, _⟩ := Option.map_eq_some_iff.1 sizeBuilder
  go_enter Tryd.func45, Tryd.ntmps45
  go_wp2
  rw [Lib.run_neq_ptr_same w _ Tryd.underlying58 hj]
  go_wp2
  go_end0
  exact ⟨rfl, rfl⟩
set_option maxHeartbeats 1000000 in
set_option maxRecDepth 100000 in
theorem copyCheck_fresh (b : Nat) (w : World) (h0 : w.cell? ⟨b, 0, none⟩ = some (.pointer none)) (hsh : w.shape? b = some (61, 2)) (hfz : w.frozen? ⟨b, 0, none⟩ = false) :
    Calls Tryd.prog 45 #[.pointer (some ⟨b, 0, none⟩)] w fun e w' => e = .returned (.tuple #[]) ∧ w' = w.setCell ⟨b, 0, none⟩ (.pointer (some ⟨b, 0, none⟩)) := by
  obtain ⟨j, hj, hjs⟩ := Option.map_eq_some_iff.1 sizeBuilder
  go_enter Tryd.func45, Tryd.ntmps45
  go_wp2
  rw [Lib.run_to_unsafe w ⟨b, 0, none⟩ Tryd.underlying58 Tryd.underlying96 hj (by rw [hjs]; decide) hsh (Nat.zero_lt_succ 1)]
  simp only [Result.andThen]
  rw [Oper.upon_value]
  go_wp2
  rw [run_callFunc_extern Tryd.func65 (by kernel_rfl) (by kernel_rfl) (by kernel_rfl) (e := Extern.AbiNoEscape.same) (by kernel_rfl)]
  rw [Lib.run_noEscape]
  simp only [Result.andThen]
  rw [Oper.upon_value]
  go_wp2
  rw [Lib.run_from_unsafe w ⟨b, 0, none⟩ Tryd.underlying96 Tryd.underlying58 hj hsh liesBuilder]
  simp only [Result.andThen]
  rw [Oper.upon_value]
  go_wp2
  go_end0
  exact ⟨rfl, rfl⟩
theorem copyCheck_c (B b : Nat) (bs : List Value) (w : World) (h : Lib.IsBuilder 61 5 B b bs w) :
    Calls Tryd.prog 45 #[.pointer (some ⟨b, 0, none⟩)] w fun e w' => e = .returned (.tuple #[]) ∧ (Lib.BuilderAt 61 5 B b (.pointer (some ⟨b, 0, none⟩)) bs w' ∧ Below B w w') := by
  rcases h with h | h
  · refine (copyCheck_fresh b w h.cell0 h.shape h.frozen0).mono ?_
    rintro e w' ⟨rfl, rfl⟩
    exact ⟨rfl, h.used _, (Below.refl B w).setCell (p := ⟨b, 0, none⟩) h.1 _⟩
  · refine (copyCheck_used b w h.cell0).mono ?_
    rintro e w' ⟨rfl, rfl⟩
    exact ⟨rfl, h, Below.refl B _⟩
theorem cell_inT {w : World} {a : Addr} {v : Value} (h : w.cell? a = some v) : a.block < w.heap.size := by
  unfold World.cell? at h
  split at h
  · rename_i c _ _ hb
    exact (Array.getElem?_eq_some_iff.1 hb).1
  · simp at h
set_option maxHeartbeats 2000000 in
set_option maxRecDepth 100000 in
theorem writeString_c (B b : Nat) (bs : List Value) (s : ByteArray) (w : World) (h : Lib.IsBuilder 61 5 B b bs w) (hlen : bs.length + s.size ≤ 140737488355328) (hBw : B ≤ w.heap.size) :
    Calls Tryd.prog 25 #[.pointer (some ⟨b, 0, none⟩), .string s] w fun e w' => e = .returned (.tuple #[.int .i64 s.size, .nilIface]) ∧ (Lib.IsBuilder 61 5 B b (bs ++ Lib.strCells s) w' ∧ Below B w w') := by
  obtain ⟨i0, hi, hz0, hz1, hz2⟩ := info_parts infoByte
  go_enter Tryd.func25, Tryd.ntmps25
  go_wp2_with (go_at_call 45; refine (copyCheck_c B b bs _ h).mono ?_)
  rintro e w1 ⟨rfl, h1, hb1⟩
  obtain ⟨hB, v, hbk, hown, hne⟩ := h1
  have c0 : w1.cell? ⟨b, 0, none⟩ = some (.pointer (some ⟨b, 0, none⟩)) := by rw [Lib.cell_of_heap hbk]; rfl
  have c1 : w1.cell? ⟨b, 1, none⟩ = some v := by rw [Lib.cell_of_heap hbk]; rfl
  go_wp2_with (at_builtin; refine Lib.wpList_append_own_string _ rfl _ _ 59 9 rfl B 5 i0 Tryd.underlying59 Tryd.underlying9 hi hz0 hz1 hz2 _ _ _ rfl hown s rfl ?c3 ?c4 ?c5 ?_)
  case c3 => unfold maxLen; omega
  case c4 => omega
  case c5 => have := hb1.size; omega
  intro v' w2 hown' hgrow _
  have hlt : b < w1.heap.size := by
    rcases Nat.lt_or_ge b w1.heap.size with h' | h'
    · exact h'
    · simp [Array.getElem?_eq_none h'] at hbk
  have hb2 : w2.heap[b]? = some (.cells #[.pointer (some ⟨b, 0, none⟩), v] 61 (0, 0)) := by
    rw [hgrow.block b hlt (fun e => hne e.symm)]
    exact hbk
  have d0 : w2.cell? ⟨b, 0, none⟩ = some (.pointer (some ⟨b, 0, none⟩)) := by rw [Lib.cell_of_heap hb2]; rfl
  have d1 : w2.cell? ⟨b, 1, none⟩ = some v := by rw [Lib.cell_of_heap hb2]; rfl
  have f1 : w2.frozen? ⟨b, 1, none⟩ = false := Lib.frozen_of_heap hb2 1
  obtain ⟨ao, n', cap, rfl⟩ : ∃ ao n' cap, v' = .slice ao n' cap := by
    rcases hown'.2 with ⟨hv, _⟩ | ⟨g, cap, cur, hv, _⟩
    · exact ⟨_, _, _, hv⟩
    · exact ⟨_, _, _, hv⟩
  go_wp2
  go_ret2
  refine ⟨rfl, ?_, ?_⟩
  · exact .inr (Lib.BuilderAt.put (T := 61) (e := 5) hB hb2 (bs' := bs ++ Lib.strCells s) (by simpa [Lib.strCells_length] using hown') (by decide))
  · exact (hb1.grown hgrow (by have := hb1.size; omega) (fun k hk => (hown.lt k hk).1)).setCell (p := ⟨b, 1, none⟩) hB _
theorem bytes_app (l m : List UInt8) : (⟨l.toArray⟩ ++ ⟨m.toArray⟩ : ByteArray) = ⟨(l ++ m).toArray⟩ := ByteArray.mk_append_mk l m
theorem bytes_size (l : List UInt8) : (⟨l.toArray⟩ : ByteArray).size = l.length := by simp [ByteArray.size]
theorem isB_below {T e : TypeId} {B b : Nat} {bs : List Value} {w w' : World} (h : Lib.IsBuilder T e B b bs w) (hb : Below w.heap.size w w') : Lib.IsBuilder T e B b bs w' := by
  have key : ∀ p, Lib.BuilderAt T e B b p bs w → Lib.BuilderAt T e B b p bs w' := by
    rintro p ⟨hB, v, hbk, hown, hne⟩
    exact ⟨hB, v, (hb.block b (Array.getElem?_eq_some_iff.1 hbk).1).trans hbk, own_below hown hb, hne⟩
  rcases h with h | h
  · exact .inl (key _ h)
  · exact .inr (key _ h)
theorem info_str : (Tryd.prog.info? 9).map (fun i => (i.zero, i.size, i.bytes)) = some (some (.string ⟨#[]⟩), 1, 16) := by kernel_rfl
def TabX (w : World) : Prop := Tab w ∧ (∃ m, w.cell? ⟨2, 0, none⟩ = some (.int .i64 m)) ∧ (∃ ev, w.cell? ⟨0, 0, none⟩ = some ev ∧ (ev = .nilIface ∨ ∃ te pe, ev = .iface te pe)) ∧ (∃ ev, w.cell? ⟨1, 0, none⟩ = some ev ∧ (ev = .nilIface ∨ ∃ te pe, ev = .iface te pe))
theorem TabX.below {w w' : World} (h : TabX w) (hb : Below w.heap.size w w') : TabX w' := by
  obtain ⟨h1, ⟨m, h2⟩, ⟨e1, h3, h4⟩, e2, h5, h6⟩ := h
  exact ⟨h1.below hb, ⟨m, (hb.cell (cell_inT h2)).trans h2⟩, ⟨e1, (hb.cell (cell_inT h3)).trans h3, h4⟩, e2, (hb.cell (cell_inT h5)).trans h5, h6⟩
theorem atV_isInt (l : List UInt8) : isInt (atV l) := by
  unfold atV
  rcases h : Lib.atoiAll l with v | _ | _
  · exact Lib.atoiAll_bounds h
  · show isInt 0; unfold isInt; omega
  · exact Lib.atoiSat_bounds l
theorem atoi_c (w : World) (hX : TabX w) (s : ByteArray) (hs : s.size ≤ 281474976710656) :
    Calls Tryd.prog 17 #[.string s] w fun e w' => ∃ ev, e = .returned (.tuple #[.int .i64 (atV s.data.toList), ev]) ∧ Below w.heap.size w w' := by
  obtain ⟨_, _, ⟨e1, h3, h4⟩, e2, h5, h6⟩ := hX
  unfold atV
  rcases h : Lib.atoiAll s.data.toList with v | _ | _
  · refine (Tryd.strconv_Atoi_ok s (by omega) v h w).mono ?_
    rintro e w' ⟨rfl, hw⟩
    refine ⟨_, rfl, ?_⟩
    rcases hw with rfl | ⟨t, rfl⟩
    · exact Below.refl _ _
    · exact Lib.bytesWorld_below _ _ _
  · refine (Tryd.strconv_Atoi_syntax s hs h e1 w h3 h4).mono ?_
    rintro e w' ⟨N, rfl, _, _, hb⟩
    exact ⟨_, rfl, hb⟩
  · refine (Tryd.strconv_Atoi_range s hs h e2 w h5 h6).mono ?_
    rintro e w' ⟨N, rfl, _, _, hb⟩
    exact ⟨_, rfl, hb⟩
theorem split_c (w : World) (hX : TabX w) (s : ByteArray) (hs : s.size ≤ 65536) :
    Calls Tryd.prog 15 #[.string s, .string ⟨#[32]⟩] w fun e w' => ∃ L : List ByteArray, L.map (fun b => b.data.toList) = wordsF s.data.toList ∧ e = .returned (.slice (some ⟨w.heap.size, 0, none⟩) L.length L.length) ∧ w' = w.alloc (.cells (L.map Value.string).toArray 9) := by
  obtain ⟨_, ⟨m, h2⟩, _⟩ := hX
  refine (Tryd.strings_Split s ⟨#[32]⟩ m w (by omega) h2 (by decide)).mono ?_
  rintro e w' ⟨rfl, rfl⟩
  have hl := Lib.splitB_all ⟨#[32]⟩ (by decide) 0 _ s rfl
  exact ⟨_, splitB_words s, by rw [hl], rfl⟩
theorem cut_c (w : World) (hX : TabX w) (s sep : ByteArray) (hs : s.size ≤ 65536) :
    Calls Tryd.prog 21 #[.string s, .string sep] w fun e w' => e = .returned (.tuple #[.string ⟨(Lib.cut s.data.toList sep.data.toList).1.toArray⟩, .string ⟨(Lib.cut s.data.toList sep.data.toList).2.1.toArray⟩, .bool (Lib.cut s.data.toList sep.data.toList).2.2]) ∧ Below w.heap.size w w' := by
  obtain ⟨_, ⟨m, h2⟩, _⟩ := hX
  refine (Tryd.strings_Cut s sep m w (by omega) h2).mono ?_
  rintro e w' ⟨rfl, k, rfl⟩
  exact ⟨rfl, below_drewN (Below.refl _ _) _⟩
theorem words_le : ∀ s : List UInt8, (wordsF s).length ≤ s.length + 1
  | [] => by simp [wordsF]
  | b :: r => by
    have ih := words_le r
    unfold wordsF
    split
    · simp; omega
    · split
      · simp
      · rename_i h; rw [h] at ih; simp at ih ⊢; omega
theorem word_le : ∀ (s w : List UInt8), w ∈ wordsF s → w.length ≤ s.length
  | [], w, h => by simp [wordsF] at h; subst h; simp
  | b :: r, w, h => by
    unfold wordsF at h
    split at h
    · rcases List.mem_cons.1 h with h | h
      · subst h; simp
      · have := word_le r w h; simp; omega
    · split at h
      · simp at h; subst h; simp
      · rename_i v ws hw
        rcases List.mem_cons.1 h with h | h
        · subst h
          have := word_le r v (by rw [hw]; simp)
          simp; omega
        · have := word_le r w (by rw [hw]; simp [h])
          simp; omega
def strV : Value → Nat
  | .string b => b.size
  | _ => 0
theorem bytes_nil {B : ByteArray} (h : B.size = 0) : B = ⟨#[]⟩ := by
  obtain ⟨⟨l⟩⟩ := B
  simp [ByteArray.size] at h
  simp [h]
theorem cut_rest_le (s sep : List UInt8) : (Lib.cut s sep).1.length ≤ s.length ∧ (Lib.cut s sep).2.1.length ≤ s.length := by
  unfold Lib.cut
  split
  · simp only [List.length_take, List.length_drop]; omega
  · simp
end Go.Proofs.YtofcpmfbeobgiaaDoor

namespace Go.Proofs.YtofcpmfbeobgiaaDoor
open Go.RowKit Go.Shelf
set_option linter.unusedVariables false

theorem one_intB (x : Int) : ∀ u ∈ [Value.int .i64 x], u.oneCell' = true := by intro u hu; simp at hu; subst hu; rfl
def runeV (u : Nat) : Int := Lib.indexByte [45, 46, 43] ((min (u : Int) 127).toNat.toUInt8) - 1
theorem idx_bd (c : UInt8) : -1 ≤ Lib.indexByte [45, 46, 43] c ∧ Lib.indexByte [45, 46, 43] c ≤ 2 := by
  simp only [Lib.indexByte]
  repeat' split
  all_goals simp
theorem runeV_bd (u : Nat) : -2 ≤ runeV u ∧ runeV u ≤ 1 := by
  have := idx_bd ((min (u : Int) 127).toNat.toUInt8)
  unfold runeV; omega
theorem runeV_sign {n : Int} (h : -1 ≤ n ∧ n ≤ 1) : runeV (signC n).toNat = n := by
  have : n = -1 ∨ n = 0 ∨ n = 1 := by omega
  rcases this with rfl | rfl | rfl <;> decide
theorem width_ge (s : ByteArray) (pos : Nat) (h : pos < s.size) : 1 ≤ (Utf8.decode s pos).2 := by
  by_cases ha : (s[pos]'h).toNat < 128
  · rw [decode_ascii s pos h ha]; exact Nat.le_refl _
  · exact (decode_high s pos h (by omega)).2
def RowQ (s : ByteArray) (pos : Nat) (l : List Int) : Prop := ∀ r : List Int, (∀ n ∈ r, -1 ≤ n ∧ n ≤ 1) → s.data.toList = signsC r → l = r.take pos
theorem rowQ_step {s : ByteArray} {pos : Nat} {l : List Int} (h : RowQ s pos l) (hp : pos < s.size) : RowQ s (pos + (Utf8.decode s pos).2) (l ++ [runeV (Utf8.decode s pos).1]) := by
  intro r hr e
  have hl : r.length = s.size := by rw [Lib.size_eq, e]; simp [signsC]
  have hpr : pos < r.length := by omega
  have hb : s[pos]'hp = signC r[pos] := by
    have h1 : s.data.toList[pos]? = some (s[pos]'hp) := by
      rw [List.getElem?_eq_getElem (by rw [← Lib.size_eq]; exact hp)]
      rfl
    rw [e] at h1
    unfold signsC at h1
    rw [List.getElem?_map, List.getElem?_eq_getElem hpr] at h1
    exact (Option.some.inj h1).symm
  have hn := hr _ (List.getElem_mem hpr)
  have ha : (s[pos]'hp).toNat < 128 := by
    rw [hb]; unfold signC
    split
    · decide
    · split <;> decide
  rw [decode_ascii s pos hp ha, hb, runeV_sign hn, h r hr e]
  exact (List.take_succ_eq_append_getElem hpr).symm
theorem rowQ_end {s : ByteArray} {pos : Nat} {l : List Int} (h : RowQ s pos l) (hp : ¬ pos < s.size) : RowP s.data.toList l := by
  intro r hr e
  have hl : r.length = s.size := by rw [Lib.size_eq, e]; simp [signsC]
  rw [h r hr e, List.take_of_length_le (by omega)]

theorem own_keepB {W W' : World} {base : Nat} {e : TypeId} {size : Nat} {v : Value} {n : Nat} {xs : List Value} {S : Nat → Prop} (h : W.ownsRow base e size v n xs) (hk : Keep S W W') (hS : ∀ k, base ≤ k → S k) : W'.ownsRow base e size v n xs := by
  refine ⟨h.1, ?_⟩
  rcases h.2 with hn | ⟨g, cap, cur, rfl, hg, hgg, rest⟩
  · exact .inl hn
  · exact .inr ⟨g, cap, cur, rfl, hg, (hk.block g (Array.getElem?_eq_some_iff.1 hgg).1 (hS g hg)).trans hgg, rest⟩

theorem own_base {w : World} {b b' : Nat} {e : TypeId} {size : Nat} {v : Value} {n : Nat} {xs : List Value} (h : w.ownsRow b e size v n xs) (hb : b' ≤ b) : w.ownsRow b' e size v n xs := by
  refine ⟨h.1, ?_⟩
  rcases h.2 with hn | ⟨g, cap, cur, e1, hg, rest⟩
  · exact .inl hn
  · exact .inr ⟨g, cap, cur, e1, Nat.le_trans hb hg, rest⟩

set_option maxRecDepth 100000 in
set_option maxHeartbeats 4000000 in
theorem row_c (w : World) (s : ByteArray) (hs : s.size ≤ 65536) :
    Calls Tryd.prog 18 #[.string s] w fun e w' => ∃ v l, e = .returned v ∧ RowP s.data.toList l ∧ (∀ n ∈ l, isInt n) ∧ l.length ≤ s.size ∧ w'.ownsRow w.heap.size 3 1 v l.length (l.map (Value.int .i64)) ∧ Below w.heap.size w w' := by
  go_enter Tryd.func18, Tryd.ntmps18
  go_wp2
  go_loopw [3] (fun v wr => ∃ (pos : Nat) (l : List Int), wr.heap[w.heap.size]? = some (.stringIter s pos) ∧ RowQ s pos l ∧ (∀ n ∈ l, isInt n) ∧ l.length ≤ pos ∧ l.length ≤ s.size ∧ wr.ownsRow (w.heap.size + 1) 3 1 v l.length (l.map (Value.int .i64)) ∧ Below w.heap.size w wr) (fun _ wr => s.size - wr.iterPos w.heap.size)
  case atStart =>
    refine ⟨0, [], World.iter_heap w s 0, ?_, by simp, Nat.le_refl _, Nat.zero_le _, World.ownsRow_nil _ _ _ _, (Below.refl _ _).alloc (Nat.le_refl _) _⟩
    intro r _ _; simp
  case round =>
    obtain ⟨pos, l, hit, hq, hi, hl1, hl2, hown, hb⟩ := hrel
    have hsz : w.heap.size < wr.heap.size := (Array.getElem?_eq_some_iff.1 hit).1
    by_cases hp : pos < s.size
    · have hnx : ∀ ty, (Instr.next (.pointer (some ⟨w.heap.size, 0, none⟩)) true ty).run Tryd.prog wr = _ := fun ty => Lib.run_next_any_at wr w.heap.size s pos ty hit hp
      have hwd := width_ge s pos hp
      have hd1 := decode_le s pos
      have HQ := hid (rowQ_step hq hp)
      have HIB := hid (fun W => Tryd.strings_IndexByte ⟨#[45, 46, 43]⟩ (min (((Utf8.decode s pos).1 : Nat) : Int) 127) W)
      obtain ⟨R, hR⟩ : ∃ R, R = runeV (Utf8.decode s pos).1 := ⟨_, rfl⟩
      have hRb := runeV_bd (Utf8.decode s pos).1
      rw [← hR] at HQ hRb
      have hix : Lib.indexByte (⟨#[45, 46, 43]⟩ : ByteArray).data.toList (min (((Utf8.decode s pos).1 : Nat) : Int) 127).toNat.toUInt8 = R + 1 := by
        rw [hR]; unfold runeV
        show Lib.indexByte [45, 46, 43] _ = _
        omega
      rw [hix] at HIB
      have hit2 := Lib.iterAt_heap wr w.heap.size s pos (pos + (Utf8.decode s pos).2) hit
      have hbw2 := Lib.below_iterAt hb (k := w.heap.size) (Nat.le_refl _) s (pos + (Utf8.decode s pos).2)
      have hkeep : ∀ k, w.heap.size + 1 ≤ k → (wr.iterAt w.heap.size s (pos + (Utf8.decode s pos).2)).heap[k]? = wr.heap[k]? := fun k hk => by
        unfold World.iterAt
        simp only [Array.getElem?_setIfInBounds]
        rw [if_neg (by omega)]
      have hsz2 : (wr.iterAt w.heap.size s (pos + (Utf8.decode s pos).2)).heap.size = wr.heap.size := Lib.iterAt_size _ _ _ _
      obtain ⟨va, vc, rfl⟩ := ownsRow_slice hown
      obtain ⟨N, hN⟩ : ∃ N, N = l.length := ⟨_, rfl⟩
      obtain ⟨D, hD⟩ : ∃ D, D = (Utf8.decode s pos).2 := ⟨_, rfl⟩
      have hown2 := own_keepB (W' := wr.iterAt w.heap.size s (pos + (Utf8.decode s pos).2)) (S := fun k => w.heap.size + 1 ≤ k) hown ⟨rfl, rfl, rfl, Nat.le_of_eq hsz2.symm, fun k _ hk => hkeep k hk⟩ (fun k hk => hk)
      have hl1' : N ≤ pos := by rw [hN]; exact hl1
      have hl2' : N ≤ s.size := by rw [hN]; exact hl2
      clear hl1 hl2
      rw [← hN] at hown2 hown ⊢
      have HX := hid (show ∀ w5, w5 = wr.iterAt w.heap.size s (pos + (Utf8.decode s pos).2) → w5.heap[w.heap.size]? = some (.stringIter s (pos + D)) ∧ Below w.heap.size w w5 ∧ w5.heap.size = wr.heap.size ∧ w5.ownsRow (w.heap.size + 1) 3 1 (.slice va N vc) N (l.map (Value.int .i64)) from by
        rintro w5 rfl
        rw [hD]
        exact ⟨hit2, hbw2, hsz2, hown2⟩)
      have HI := hid hi
      have HN := hid hN
      clear hix hR hown hown2 hkeep hit2 hbw2 hsz2 hi hN hq
      go_wp2_with (go_at_call 34; refine (HIB.out _).mono ?_; rintro e w5 ⟨rfl, hw5⟩; have HW5 := hid hw5; clear hw5; refine Stop.of ?_)
      refine Stop.go ?_
      obtain ⟨hit5, hb5, hs5, hown5⟩ := HX.out w5 HW5.out
      clear HW5
      have HO5 := hid hown5
      have HN5 := hid (one_news w5 (.int .i64 R) 3)
      have HB5 := hid hb5
      have HT5 := hid hit5
      have M1 := hid (show N + 1 ≤ maxLen by unfold maxLen; omega)
      have M2 := hid (show (N + 1) * 8 ≤ 140737488355328 by omega)
      have M3 := hid (show w.heap.size + 1 ≤ (w5.alloc (.cells #[.int .i64 R] 3)).heap.size by have := le_alloc w5 (.cells #[.int .i64 R] 3); omega)
      have HLA := hid (hb5.alloc hb5.size (.cells #[.int .i64 R] 3))
      have HS5 := hid hs5
      clear hit5 hb5 hown5 hs5
      go_wp2_with (at_builtin; refine wpList_app _ rfl (.tmp 11) (.tmp 17) 34 rfl (w.heap.size + 1) 3 (.int .i64 0) 1 8 Tryd.underlying34 info_int rfl Nat.one_pos (.slice va N vc) N _ rfl (HO5.out.alloc _) (some ⟨w5.heap.size, 0, none⟩) 1 1 [.int .i64 R] rfl rfl no_none HN5.out (one_intB _) M1.out M2.out M3.out ?_; refine Stop.of ?_)
      refine Stop.go ?_
      intro a7 c7 w7 own7 g7
      have HO7 := hid own7
      have hb7 := HLA.out.grown g7 (Nat.le_of_succ_le M3.out) (fun q hq => Nat.le_of_succ_le (HO5.out.lt q hq).1)
      have hit7 : w7.heap[w.heap.size]? = some (.stringIter s (pos + D)) := by
        refine ((g7.block w.heap.size (Nat.lt_of_lt_of_le hsz (by rw [← HS5.out]; exact le_alloc _ _)) ?_).trans (Below.heap_alloc _ _ _ (by rw [HS5.out]; exact hsz))).trans HT5.out
        intro e
        have := (HO5.out.lt w.heap.size e.symm).1
        omega
      have HB7 := hid hb7
      have HT7 := hid hit7
      clear own7 g7 hb7 hit7
      go_wp2
      go_roundw
      case rel =>
        refine ⟨pos + D, l ++ [R], HT7.out, by rw [hD]; exact HQ.out, ?_, ?_, ?_, ?_, HB7.out⟩
        · intro n hn
          rcases List.mem_append.1 hn with h | h
          · exact HI.out n h
          · rw [List.mem_singleton] at h; subst h; unfold isInt; omega
        · rw [List.length_append, List.length_singleton, ← HN.out, hD]; omega
        · rw [List.length_append, List.length_singleton, ← HN.out]; omega
        · rw [List.length_append, List.length_singleton, ← HN.out, List.map_append]; exact HO7.out
      case measure =>
        simp only [World.iterPos, HT7.out, hit]
        omega
    · have hnx : ∀ ty, (Instr.next (.pointer (some ⟨w.heap.size, 0, none⟩)) true ty).run Tryd.prog wr = _ := fun ty => Lib.run_next_end_at wr w.heap.size s pos ty hit hp
      go_wp2
      go_ret
      refine ⟨_, l, rfl, rowQ_end hq hp, hi, hl2, own_base hown (Nat.le_succ _), hb⟩
end Go.Proofs.YtofcpmfbeobgiaaDoor

namespace Go.Proofs.YtofcpmfbeobgiaaDoor
open Go.RowKit
set_option linter.unusedVariables false

def wAll (_ : Nat) : Bool := true

theorem AnyT.takeD {P : Program} {md : Region.Mode} {ops : Array Oper} {Q : Exit → Act → World → Prop} {S : World → Prop} {i d : Nat} {oi : Oper} {v : Value} {fuel : Nat} {listed : Array Bool} {a : Act} {w : World} {Wf : Nat → Bool} (hi : ops[i]? = some oi) (hd : oi.dst = some d)
    (hs : Region.noSelect ops = true) (hf : Region.free md ops listed i = true) (hr : (Region.ready md ops listed).contains i = true)
    (hQ : ∀ c a w, Q (.panic c) (a.put (some d) v) w → Q (.panic c) a w)
    (hW : (List.range ops.size).all (fun j => waits md ops i j || Wf j) = true) (hw : Region.wanted oi (yielded ops a.tmps) = true) (hy : ∀ w, S w → (execOp a.eval oi).run P w = .ok (.value v) w) (hS : S w)
    (h : AnyT P md ops Q (fun j w => Wf j = true → S w) fuel (listed.setIfInBounds i true) (a.put (some d) v) w) : AnyT P md ops Q (fun j w => Wf j = true → S w) (fuel + 1) listed a w :=
  AnyT.takeW hi hs hf hr (by rw [hd]; exact hQ) hW hw hy hS (by rw [hd]; exact h)
end Go.Proofs.YtofcpmfbeobgiaaDoor

namespace Go.Proofs.YtofcpmfbeobgiaaDoor
open Go.RowKit
set_option linter.unusedVariables false

section
variable {P : Program} {md : Region.Mode} {ops : Array Oper} {Q : Exit → Act → World → Prop} {S : World → Prop} {T : Nat → World → Prop}

end
def w2 (x y j : Nat) : Bool := decide (j = x) || decide (j = y)
end Go.Proofs.YtofcpmfbeobgiaaDoor

namespace Go.Proofs.YtofcpmfbeobgiaaDoor
open Go.RowKit Go.Shelf
set_option linter.unusedVariables false

def preC (lo hi : Int) : List UInt8 := Lib.itoa lo ++ 32 :: (Lib.itoa hi ++ [32])
theorem lineC_pre (l : List Int) (lo hi : Int) : lineC ⟨l, lo, hi⟩ = preC lo hi ++ signsC l := by simp [lineC, preC]
theorem signs_take (l : List Int) (k : Nat) (hk : k < l.length) : signsC (l.take (k + 1)) = signsC (l.take k) ++ [signC l[k]] := by
  unfold signsC
  rw [List.take_succ_eq_append_getElem hk, List.map_append]; rfl
theorem celBox (w : World) (lo hi : Int) (a : Option Addr) (n cap : Nat) : ∃ wz, wz = w.alloc (.cells #[.slice a n cap, .int .i64 lo, .int .i64 hi] 36) ∧ Below w.heap.size w wz ∧ wz.heap.size = w.heap.size + 1 ∧ ∀ X, Below wz.heap.size wz X → X.cell? ⟨w.heap.size, 0, none⟩ = some (.slice a n cap) ∧ X.cell? ⟨w.heap.size, 1, none⟩ = some (.int .i64 lo) ∧ X.cell? ⟨w.heap.size, 2, none⟩ = some (.int .i64 hi) := by
  refine ⟨_, rfl, (Below.refl _ _).alloc (Nat.le_refl _) _, by simp, fun X hX => ?_⟩
  have c0 : (w.alloc (.cells #[.slice a n cap, .int .i64 lo, .int .i64 hi] 36)).cell? ⟨w.heap.size, 0, none⟩ = some (.slice a n cap) := by rw [World.cell?_alloc_at _ _ _ _ rfl]; rfl
  have c1 : (w.alloc (.cells #[.slice a n cap, .int .i64 lo, .int .i64 hi] 36)).cell? ⟨w.heap.size, 1, none⟩ = some (.int .i64 lo) := by rw [World.cell?_alloc_at _ _ _ _ rfl]; rfl
  have c2 : (w.alloc (.cells #[.slice a n cap, .int .i64 lo, .int .i64 hi] 36)).cell? ⟨w.heap.size, 2, none⟩ = some (.int .i64 hi) := by rw [World.cell?_alloc_at _ _ _ _ rfl]; rfl
  exact ⟨(hX.cell (p := ⟨w.heap.size, 0, none⟩) (by simp)).trans c0, (hX.cell (p := ⟨w.heap.size, 1, none⟩) (by simp)).trans c1, (hX.cell (p := ⟨w.heap.size, 2, none⟩) (by simp)).trans c2⟩
theorem enc_sign : Utf8.encode 45 = ⟨#[45]⟩ ∧ Utf8.encode 46 = ⟨#[46]⟩ ∧ Utf8.encode 43 = ⟨#[43]⟩ := by simp [Utf8.encode, Utf8.valid]

set_option maxRecDepth 100000 in
set_option maxHeartbeats 4000000 in
theorem bwritten_c (w : World) (ht : Tab w) (a : Option Addr) (n cap : Nat) (l : List Int) (lo hi : Int) (hn : l.length = n) (hm : n ≤ 8) (H : IntsAt w a l) (hr : ∀ x ∈ l, -1 ≤ x ∧ x ≤ 1) (h1 : isInt lo) (h2 : isInt hi) :
    Calls Tryd.prog 20 #[.agg #[.slice a n cap, .int .i64 lo, .int .i64 hi]] w fun e w' => e = .returned (.string ⟨(lineCL ⟨l, lo, hi⟩).toArray⟩) ∧ Below w.heap.size w w' := by
  obtain ⟨wz, hwz, hbz, hsz, hcz⟩ := celBox w lo hi a n cap
  have HWZ := hid hwz
  have HBZ := hid hbz
  have HN := hid hn
  have HH := hid (H.below hbz)
  have HR := hid hr
  have hlen1 := Lib.itoa_length_le lo h1.1 h1.2
  have hlen2 := Lib.itoa_length_le hi h2.1 h2.2
  have HC1 := hid (fun (X : World) (hb : Below wz.heap.size wz X) => itoa_c lo h1 X (ht.below (chain hbz hb)))
  have HC2 := hid (fun (X : World) (hb : Below wz.heap.size wz X) => itoa_c hi h2 X (ht.below (chain hbz hb)))
  obtain ⟨I1, hI1⟩ : ∃ I : ByteArray, I = ⟨(Lib.itoa lo).toArray⟩ := ⟨_, rfl⟩
  obtain ⟨I2, hI2⟩ : ∃ I : ByteArray, I = ⟨(Lib.itoa hi).toArray⟩ := ⟨_, rfl⟩
  have hs1 : I1.size ≤ 21 := by rw [hI1, bytes_size]; omega
  have hs2 : I2.size ≤ 21 := by rw [hI2, bytes_size]; omega
  rw [← hI1] at HC1
  rw [← hI2] at HC2
  have hsp : (⟨#[32]⟩ : ByteArray).size = 1 := rfl
  obtain ⟨J1, hJ1⟩ : ∃ J : ByteArray, J = I1 ++ ⟨#[32]⟩ := ⟨_, rfl⟩
  have hz1 : J1.size ≤ 22 := by rw [hJ1, ByteArray.size_append, hsp]; omega
  have hr1 : ∀ w, (Op.stringOp .add I1 ⟨#[32]⟩).run Tryd.prog w = .ok (.string J1) w := fun w => by rw [run_string_add_sum w _ _ (by rw [hsp]; omega), hJ1]
  obtain ⟨J2, hJ2⟩ : ∃ J : ByteArray, J = J1 ++ I2 := ⟨_, rfl⟩
  have hz2 : J2.size ≤ 43 := by rw [hJ2, ByteArray.size_append]; omega
  have hr2 : ∀ w, (Op.stringOp .add J1 I2).run Tryd.prog w = .ok (.string J2) w := fun w => by rw [run_string_add_sum w _ _ (by omega), hJ2]
  obtain ⟨J3, hJ3⟩ : ∃ J : ByteArray, J = J2 ++ ⟨#[32]⟩ := ⟨_, rfl⟩
  have hz3 : J3.size ≤ 44 := by rw [hJ3, ByteArray.size_append, hsp]; omega
  have hr3 : ∀ w, (Op.stringOp .add J2 ⟨#[32]⟩).run Tryd.prog w = .ok (.string J3) w := fun w => by rw [run_string_add_sum w _ _ (by rw [hsp]; omega), hJ3]
  have HJ3 := hid (show J3 = ⟨(preC lo hi ++ signsC (l.take 0)).toArray⟩ by
    rw [hJ3, hJ2, hJ1, hI1, hI2, show (⟨#[32]⟩ : ByteArray) = ⟨[32].toArray⟩ from rfl, bytes_app, bytes_app, bytes_app]
    simp [preC, signsC])
  have HS := hid hcz
  obtain ⟨P0, hP0⟩ : ∃ P, P = preC lo hi := ⟨_, rfl⟩
  rw [← hP0] at HJ3
  have HP0 := hid hP0
  have HSZ := hid hsz
  clear hn H ht hr hbz hcz h1 h2 hlen1 hlen2 hI1 hI2 hJ1 hJ2 hJ3 hP0 hsz
  go_enter Tryd.func20, Tryd.ntmps20
  go_wp2_with fail
  rw [← HWZ.out]
  clear hwz
  refine plain_region (fun j X => wAll j = true → X.cell? ⟨w.heap.size, 0, none⟩ = some (.slice a n cap) ∧ X.cell? ⟨w.heap.size, 1, none⟩ = some (.int .i64 lo) ∧ X.cell? ⟨w.heap.size, 2, none⟩ = some (.int .i64 hi)) (by kernel_rfl) ?_
  have hbd : Below wz.heap.size wz wz.drew := (Below.refl _ _).drew
  generalize wz.drew = wd at hbd ⊢
  refine AnyT.takeD (i := 0) (v := .pointer (some ⟨w.heap.size, 1, none⟩)) rfl rfl (by kernel_rfl) (by kernel_rfl) (by kernel_rfl) (by first | exact (fun _ _ _ h => h) | exact (fun _ _ _ h => absurd h.1 (by simp))) (by kernel_rfl) (by rfl) (by rintro w' ⟨q0, q1, q2⟩; go_simp) (HS.out _ hbd) ?_; go_frame
  refine AnyT.takeD (i := 1) (v := .int .i64 lo) rfl rfl (by kernel_rfl) (by kernel_rfl) (by kernel_rfl) (by first | exact (fun _ _ _ h => h) | exact (fun _ _ _ h => absurd h.1 (by simp))) (by kernel_rfl) (by rfl) (by rintro w' ⟨q0, q1, q2⟩; go_simp) (HS.out _ hbd) ?_; go_frame
  refine AnyT.takeD (i := 4) (v := .pointer (some ⟨w.heap.size, 2, none⟩)) rfl rfl (by kernel_rfl) (by kernel_rfl) (by kernel_rfl) (by first | exact (fun _ _ _ h => h) | exact (fun _ _ _ h => absurd h.1 (by simp))) (by kernel_rfl) (by rfl) (by rintro w' ⟨q0, q1, q2⟩; go_simp) (HS.out _ hbd) ?_; go_frame
  refine AnyT.takeD (i := 5) (v := .int .i64 hi) rfl rfl (by kernel_rfl) (by kernel_rfl) (by kernel_rfl) (by first | exact (fun _ _ _ h => h) | exact (fun _ _ _ h => absurd h.1 (by simp))) (by kernel_rfl) (by rfl) (by rintro w' ⟨q0, q1, q2⟩; go_simp) (HS.out _ hbd) ?_; go_frame
  have HBD := hid hbd
  clear hbd
  refine AnyT.next (i := 2) (by kernel_rfl) rfl (wpOp_of_list rfl ?_)
  go_wp2_with (go_at_call 41; refine (HC1.out _ HBD.out).mono ?_; rintro e w4 ⟨rfl, hb4⟩; refine Stop.of ?_)
  refine Stop.go ?_
  have HB4 := hid (chain HBD.out hb4)
  clear hb4
  go_wp2
  refine ⟨fun _ => HS.out _ HB4.out, ?_⟩
  refine AnyT.takeD (i := 3) (v := .string J1) rfl rfl (by kernel_rfl) (by kernel_rfl) (by kernel_rfl) (by first | exact (fun _ _ _ h => h) | exact (fun _ _ _ h => absurd h.1 (by simp))) (by kernel_rfl) (by rfl) (by rintro w' ⟨q0, q1, q2⟩; go_simp) (HS.out _ HB4.out) ?_; go_frame
  refine AnyT.next (i := 6) (by kernel_rfl) rfl (wpOp_of_list rfl ?_)
  go_wp2_with (go_at_call 41; refine (HC2.out _ HB4.out).mono ?_; rintro e w5 ⟨rfl, hb5⟩; refine Stop.of ?_)
  refine Stop.go ?_
  have HB5 := hid (chain HB4.out hb5)
  clear hb5
  go_wp2
  refine ⟨fun _ => HS.out _ HB5.out, ?_⟩
  refine AnyT.next (i := 7) (by kernel_rfl) rfl (wpOp_of_list rfl ?_)
  go_wp2
  refine ⟨fun _ => HS.out _ HB5.out, ?_⟩
  refine AnyT.next (i := 8) (by kernel_rfl) rfl (wpOp_of_list rfl ?_)
  go_wp2
  refine ⟨fun _ => HS.out _ HB5.out, ?_⟩
  refine AnyT.next (i := 9) (by kernel_rfl) rfl (wpOp_of_list rfl ?_)
  go_wp2
  refine ⟨fun _ => HS.out _ HB5.out, ?_⟩
  refine AnyT.done (by kernel_rfl) ?_ _
  obtain ⟨c0, c1, c2⟩ := HS.out _ HB5.out
  clear hr1 hr2 hr3
  go_wp2
  clear c0 c1 c2
  go_loopw [3, 18] (fun s i wr => ∃ (k : Nat) (S : ByteArray), k ≤ n ∧ i = .int .i64 k ∧ s = .string S ∧ S.size ≤ 44 + k ∧ Hid (S = ⟨(P0 ++ signsC (l.take k)).toArray⟩) ∧ Below wz.heap.size wz wr) (fun _ i _ => n - (intOf i).toNat)
  case atStart => exact ⟨0, _, Nat.zero_le _, rfl, rfl, hz3, hid HJ3.out, HB5.out⟩
  case round =>
    obtain ⟨k, S, hk, rfl, rfl, hS, HSS, hb⟩ := hrel
    by_cases hlt : k < n
    · have hkl : k < l.length := by rw [HN.out]; exact hlt
      obtain ⟨b, off, rfl, hbs, hc⟩ := (HH.out.below hb) k hkl
      have hx : l[k]?.getD 0 = l[k] := by rw [List.getElem?_eq_getElem hkl]; rfl
      obtain ⟨X, hX⟩ : ∃ X, X = l[k]?.getD 0 := ⟨_, rfl⟩
      rw [← hX] at hc
      have hX3 := HR.out _ (List.getElem_mem hkl)
      have htk := signs_take l k hkl
      rw [← hx, ← hX] at htk hX3
      obtain ⟨Y, hY⟩ : ∃ Y : ByteArray, Y = ⟨#[signC X]⟩ := ⟨_, rfl⟩
      have hYs : Y.size = 1 := by rw [hY]; rfl
      obtain ⟨R, hR⟩ : ∃ R : ByteArray, R = S ++ Y := ⟨_, rfl⟩
      have hRs : R.size ≤ 44 + (k + 1) := by rw [hR, ByteArray.size_append]; omega
      have hr2 : ∀ w, (Op.stringOp .add S Y).run Tryd.prog w = .ok (.string R) w := fun w => by rw [run_string_add_sum w _ _ (by omega), hR]
      have hnew : Hid (R = ⟨(P0 ++ signsC (l.take (k + 1))).toArray⟩) := hid (by
        rw [htk, hR, HSS.out, hY]
        rw [show (⟨#[signC X]⟩ : ByteArray) = ⟨[signC X].toArray⟩ from rfl, bytes_app, List.append_assoc])
      have h3 : X = -1 ∨ X = 0 ∨ X = 1 := by omega
      clear hR hx htk hkl hX3
      have HB := hid hb
      clear hb hX
      subst hY
      clear hYs
      rcases h3 with rfl | rfl | rfl
      · have hr4 : ∀ w, (Op.stringOp .add S ⟨#[45]⟩).run Tryd.prog w = .ok (.string R) w := hr2
        have e0 : Utf8.encode (((⟨#[45, 46, 43]⟩ : ByteArray)[0]'(by decide)).toNat : Nat) = ⟨#[45]⟩ := by
          have h : ((⟨#[45, 46, 43]⟩ : ByteArray)[0]'(by decide)).toNat = 45 := rfl
          rw [h]; exact enc_sign.1
        clear hr2
        go_wp2
        exact ⟨⟨k + 1, R, by omega, by go_num, rfl, hRs, hnew, HB.out⟩, by simp [intOf]; omega⟩
      · have hr4 : ∀ w, (Op.stringOp .add S ⟨#[46]⟩).run Tryd.prog w = .ok (.string R) w := hr2
        have e0 : Utf8.encode (((⟨#[45, 46, 43]⟩ : ByteArray)[1]'(by decide)).toNat : Nat) = ⟨#[46]⟩ := by
          have h : ((⟨#[45, 46, 43]⟩ : ByteArray)[1]'(by decide)).toNat = 46 := rfl
          rw [h]; exact enc_sign.2.1
        clear hr2
        go_wp2
        exact ⟨⟨k + 1, R, by omega, by go_num, rfl, hRs, hnew, HB.out⟩, by simp [intOf]; omega⟩
      · have hr4 : ∀ w, (Op.stringOp .add S ⟨#[43]⟩).run Tryd.prog w = .ok (.string R) w := hr2
        have e0 : Utf8.encode (((⟨#[45, 46, 43]⟩ : ByteArray)[2]'(by decide)).toNat : Nat) = ⟨#[43]⟩ := by
          have h : ((⟨#[45, 46, 43]⟩ : ByteArray)[2]'(by decide)).toNat = 43 := rfl
          rw [h]; exact enc_sign.2.2
        clear hr2
        go_wp2
        exact ⟨⟨k + 1, R, by omega, by go_num, rfl, hRs, hnew, HB.out⟩, by simp [intOf]; omega⟩
    · obtain rfl : k = n := by omega
      obtain ⟨R, hR⟩ : ∃ R : ByteArray, R = S ++ ⟨#[10]⟩ := ⟨_, rfl⟩
      have hr3 : ∀ w, (Op.stringOp .add S ⟨#[10]⟩).run Tryd.prog w = .ok (.string R) w := fun w => by rw [run_string_add_sum w _ _ (by rw [show (⟨#[10]⟩ : ByteArray).size = 1 from rfl]; omega), hR]
      have HRR := hid (show R = ⟨(lineCL ⟨l, lo, hi⟩).toArray⟩ by
        rw [hR, HSS.out, List.take_of_length_le (by have := HN.out; omega), show (⟨#[10]⟩ : ByteArray) = ⟨[10].toArray⟩ from rfl, bytes_app]
        unfold lineCL; rw [lineC_pre, HP0.out])
      clear hR
      go_wp2
      go_ret
      exact ⟨by rw [HRR.out]; rfl, chain HBZ.out hb⟩
end Go.Proofs.YtofcpmfbeobgiaaDoor

namespace Go.Proofs.YtofcpmfbeobgiaaDoor
open Go.RowKit Go.Shelf
set_option linter.unusedVariables false

set_option maxRecDepth 100000 in
set_option maxHeartbeats 4000000 in
theorem bline_c (w : World) (ht : Tab w) (a : Option Addr) (n cap : Nat) (l : List Int) (lo hi : Int) (hn : l.length = n) (hm : n ≤ 8) (H : IntsAt w a l) (hr : ∀ x ∈ l, -1 ≤ x ∧ x ≤ 1) (h1 : isInt lo) (h2 : isInt hi) :
    Calls Tryd.prog 23 #[.agg #[.slice a n cap, .int .i64 lo, .int .i64 hi]] w fun e w' => e = .returned (.string ⟨(lineC ⟨l, lo, hi⟩).toArray⟩) ∧ Below w.heap.size w w' := by
  obtain ⟨wz, hwz, hbz, hsz, hcz⟩ := celBox w lo hi a n cap
  have HWZ := hid hwz
  have HBZ := hid hbz
  have HN := hid hn
  have HH := hid (H.below hbz)
  have HR := hid hr
  have hlen1 := Lib.itoa_length_le lo h1.1 h1.2
  have hlen2 := Lib.itoa_length_le hi h2.1 h2.2
  have HC1 := hid (fun (X : World) (hb : Below wz.heap.size wz X) => itoa_c lo h1 X (ht.below (chain hbz hb)))
  have HC2 := hid (fun (X : World) (hb : Below wz.heap.size wz X) => itoa_c hi h2 X (ht.below (chain hbz hb)))
  obtain ⟨I1, hI1⟩ : ∃ I : ByteArray, I = ⟨(Lib.itoa lo).toArray⟩ := ⟨_, rfl⟩
  obtain ⟨I2, hI2⟩ : ∃ I : ByteArray, I = ⟨(Lib.itoa hi).toArray⟩ := ⟨_, rfl⟩
  have hs1 : I1.size ≤ 21 := by rw [hI1, bytes_size]; omega
  have hs2 : I2.size ≤ 21 := by rw [hI2, bytes_size]; omega
  rw [← hI1] at HC1
  rw [← hI2] at HC2
  have hsp : (⟨#[32]⟩ : ByteArray).size = 1 := rfl
  obtain ⟨J1, hJ1⟩ : ∃ J : ByteArray, J = I1 ++ ⟨#[32]⟩ := ⟨_, rfl⟩
  have hz1 : J1.size ≤ 22 := by rw [hJ1, ByteArray.size_append, hsp]; omega
  have hr1 : ∀ w, (Op.stringOp .add I1 ⟨#[32]⟩).run Tryd.prog w = .ok (.string J1) w := fun w => by rw [run_string_add_sum w _ _ (by rw [hsp]; omega), hJ1]
  obtain ⟨J2, hJ2⟩ : ∃ J : ByteArray, J = J1 ++ I2 := ⟨_, rfl⟩
  have hz2 : J2.size ≤ 43 := by rw [hJ2, ByteArray.size_append]; omega
  have hr2 : ∀ w, (Op.stringOp .add J1 I2).run Tryd.prog w = .ok (.string J2) w := fun w => by rw [run_string_add_sum w _ _ (by omega), hJ2]
  obtain ⟨J3, hJ3⟩ : ∃ J : ByteArray, J = J2 ++ ⟨#[32]⟩ := ⟨_, rfl⟩
  have hz3 : J3.size ≤ 44 := by rw [hJ3, ByteArray.size_append, hsp]; omega
  have hr3 : ∀ w, (Op.stringOp .add J2 ⟨#[32]⟩).run Tryd.prog w = .ok (.string J3) w := fun w => by rw [run_string_add_sum w _ _ (by rw [hsp]; omega), hJ3]
  have HJ3 := hid (show J3 = ⟨(preC lo hi ++ signsC (l.take 0)).toArray⟩ by
    rw [hJ3, hJ2, hJ1, hI1, hI2, show (⟨#[32]⟩ : ByteArray) = ⟨[32].toArray⟩ from rfl, bytes_app, bytes_app, bytes_app]
    simp [preC, signsC])
  have HS := hid hcz
  obtain ⟨P0, hP0⟩ : ∃ P, P = preC lo hi := ⟨_, rfl⟩
  rw [← hP0] at HJ3
  have HP0 := hid hP0
  have HSZ := hid hsz
  clear hn H ht hr hbz hcz h1 h2 hlen1 hlen2 hI1 hI2 hJ1 hJ2 hJ3 hP0 hsz
  go_enter Tryd.func23, Tryd.ntmps23
  go_wp2_with fail
  rw [← HWZ.out]
  clear hwz
  refine plain_region (fun j X => wAll j = true → X.cell? ⟨w.heap.size, 0, none⟩ = some (.slice a n cap) ∧ X.cell? ⟨w.heap.size, 1, none⟩ = some (.int .i64 lo) ∧ X.cell? ⟨w.heap.size, 2, none⟩ = some (.int .i64 hi)) (by kernel_rfl) ?_
  have hbd : Below wz.heap.size wz wz.drew := (Below.refl _ _).drew
  generalize wz.drew = wd at hbd ⊢
  refine AnyT.takeD (i := 0) (v := .pointer (some ⟨w.heap.size, 1, none⟩)) rfl rfl (by kernel_rfl) (by kernel_rfl) (by kernel_rfl) (by first | exact (fun _ _ _ h => h) | exact (fun _ _ _ h => absurd h.1 (by simp))) (by kernel_rfl) (by rfl) (by rintro w' ⟨q0, q1, q2⟩; go_simp) (HS.out _ hbd) ?_; go_frame
  refine AnyT.takeD (i := 1) (v := .int .i64 lo) rfl rfl (by kernel_rfl) (by kernel_rfl) (by kernel_rfl) (by first | exact (fun _ _ _ h => h) | exact (fun _ _ _ h => absurd h.1 (by simp))) (by kernel_rfl) (by rfl) (by rintro w' ⟨q0, q1, q2⟩; go_simp) (HS.out _ hbd) ?_; go_frame
  refine AnyT.takeD (i := 4) (v := .pointer (some ⟨w.heap.size, 2, none⟩)) rfl rfl (by kernel_rfl) (by kernel_rfl) (by kernel_rfl) (by first | exact (fun _ _ _ h => h) | exact (fun _ _ _ h => absurd h.1 (by simp))) (by kernel_rfl) (by rfl) (by rintro w' ⟨q0, q1, q2⟩; go_simp) (HS.out _ hbd) ?_; go_frame
  refine AnyT.takeD (i := 5) (v := .int .i64 hi) rfl rfl (by kernel_rfl) (by kernel_rfl) (by kernel_rfl) (by first | exact (fun _ _ _ h => h) | exact (fun _ _ _ h => absurd h.1 (by simp))) (by kernel_rfl) (by rfl) (by rintro w' ⟨q0, q1, q2⟩; go_simp) (HS.out _ hbd) ?_; go_frame
  have HBD := hid hbd
  clear hbd
  refine AnyT.next (i := 2) (by kernel_rfl) rfl (wpOp_of_list rfl ?_)
  go_wp2_with (go_at_call 41; refine (HC1.out _ HBD.out).mono ?_; rintro e w4 ⟨rfl, hb4⟩; refine Stop.of ?_)
  refine Stop.go ?_
  have HB4 := hid (chain HBD.out hb4)
  clear hb4
  go_wp2
  refine ⟨fun _ => HS.out _ HB4.out, ?_⟩
  refine AnyT.takeD (i := 3) (v := .string J1) rfl rfl (by kernel_rfl) (by kernel_rfl) (by kernel_rfl) (by first | exact (fun _ _ _ h => h) | exact (fun _ _ _ h => absurd h.1 (by simp))) (by kernel_rfl) (by rfl) (by rintro w' ⟨q0, q1, q2⟩; go_simp) (HS.out _ HB4.out) ?_; go_frame
  refine AnyT.next (i := 6) (by kernel_rfl) rfl (wpOp_of_list rfl ?_)
  go_wp2_with (go_at_call 41; refine (HC2.out _ HB4.out).mono ?_; rintro e w5 ⟨rfl, hb5⟩; refine Stop.of ?_)
  refine Stop.go ?_
  have HB5 := hid (chain HB4.out hb5)
  clear hb5
  go_wp2
  refine ⟨fun _ => HS.out _ HB5.out, ?_⟩
  refine AnyT.next (i := 7) (by kernel_rfl) rfl (wpOp_of_list rfl ?_)
  go_wp2
  refine ⟨fun _ => HS.out _ HB5.out, ?_⟩
  refine AnyT.next (i := 8) (by kernel_rfl) rfl (wpOp_of_list rfl ?_)
  go_wp2
  refine ⟨fun _ => HS.out _ HB5.out, ?_⟩
  refine AnyT.next (i := 9) (by kernel_rfl) rfl (wpOp_of_list rfl ?_)
  go_wp2
  refine ⟨fun _ => HS.out _ HB5.out, ?_⟩
  refine AnyT.done (by kernel_rfl) ?_ _
  obtain ⟨c0, c1, c2⟩ := HS.out _ HB5.out
  clear hr1 hr2 hr3
  go_wp2
  clear c0 c1 c2
  go_loopw [3, 18] (fun s i wr => ∃ (k : Nat) (S : ByteArray), k ≤ n ∧ i = .int .i64 k ∧ s = .string S ∧ S.size ≤ 44 + k ∧ Hid (S = ⟨(P0 ++ signsC (l.take k)).toArray⟩) ∧ Below wz.heap.size wz wr) (fun _ i _ => n - (intOf i).toNat)
  case atStart => exact ⟨0, _, Nat.zero_le _, rfl, rfl, hz3, hid HJ3.out, HB5.out⟩
  case round =>
    obtain ⟨k, S, hk, rfl, rfl, hS, HSS, hb⟩ := hrel
    by_cases hlt : k < n
    · have hkl : k < l.length := by rw [HN.out]; exact hlt
      obtain ⟨b, off, rfl, hbs, hc⟩ := (HH.out.below hb) k hkl
      have hx : l[k]?.getD 0 = l[k] := by rw [List.getElem?_eq_getElem hkl]; rfl
      obtain ⟨X, hX⟩ : ∃ X, X = l[k]?.getD 0 := ⟨_, rfl⟩
      rw [← hX] at hc
      have hX3 := HR.out _ (List.getElem_mem hkl)
      have htk := signs_take l k hkl
      rw [← hx, ← hX] at htk hX3
      obtain ⟨Y, hY⟩ : ∃ Y : ByteArray, Y = ⟨#[signC X]⟩ := ⟨_, rfl⟩
      have hYs : Y.size = 1 := by rw [hY]; rfl
      obtain ⟨R, hR⟩ : ∃ R : ByteArray, R = S ++ Y := ⟨_, rfl⟩
      have hRs : R.size ≤ 44 + (k + 1) := by rw [hR, ByteArray.size_append]; omega
      have hr2 : ∀ w, (Op.stringOp .add S Y).run Tryd.prog w = .ok (.string R) w := fun w => by rw [run_string_add_sum w _ _ (by omega), hR]
      have hnew : Hid (R = ⟨(P0 ++ signsC (l.take (k + 1))).toArray⟩) := hid (by
        rw [htk, hR, HSS.out, hY]
        rw [show (⟨#[signC X]⟩ : ByteArray) = ⟨[signC X].toArray⟩ from rfl, bytes_app, List.append_assoc])
      have h3 : X = -1 ∨ X = 0 ∨ X = 1 := by omega
      clear hR hx htk hkl hX3
      have HB := hid hb
      clear hb hX
      subst hY
      clear hYs
      rcases h3 with rfl | rfl | rfl
      · have hr4 : ∀ w, (Op.stringOp .add S ⟨#[45]⟩).run Tryd.prog w = .ok (.string R) w := hr2
        have e0 : Utf8.encode (((⟨#[45, 46, 43]⟩ : ByteArray)[0]'(by decide)).toNat : Nat) = ⟨#[45]⟩ := by
          have h : ((⟨#[45, 46, 43]⟩ : ByteArray)[0]'(by decide)).toNat = 45 := rfl
          rw [h]; exact enc_sign.1
        clear hr2
        go_wp2
        exact ⟨⟨k + 1, R, by omega, by go_num, rfl, hRs, hnew, HB.out⟩, by simp [intOf]; omega⟩
      · have hr4 : ∀ w, (Op.stringOp .add S ⟨#[46]⟩).run Tryd.prog w = .ok (.string R) w := hr2
        have e0 : Utf8.encode (((⟨#[45, 46, 43]⟩ : ByteArray)[1]'(by decide)).toNat : Nat) = ⟨#[46]⟩ := by
          have h : ((⟨#[45, 46, 43]⟩ : ByteArray)[1]'(by decide)).toNat = 46 := rfl
          rw [h]; exact enc_sign.2.1
        clear hr2
        go_wp2
        exact ⟨⟨k + 1, R, by omega, by go_num, rfl, hRs, hnew, HB.out⟩, by simp [intOf]; omega⟩
      · have hr4 : ∀ w, (Op.stringOp .add S ⟨#[43]⟩).run Tryd.prog w = .ok (.string R) w := hr2
        have e0 : Utf8.encode (((⟨#[45, 46, 43]⟩ : ByteArray)[2]'(by decide)).toNat : Nat) = ⟨#[43]⟩ := by
          have h : ((⟨#[45, 46, 43]⟩ : ByteArray)[2]'(by decide)).toNat = 43 := rfl
          rw [h]; exact enc_sign.2.2
        clear hr2
        go_wp2
        exact ⟨⟨k + 1, R, by omega, by go_num, rfl, hRs, hnew, HB.out⟩, by simp [intOf]; omega⟩
    · obtain rfl : k = n := by omega
      have HRR := hid (show S = ⟨(lineC ⟨l, lo, hi⟩).toArray⟩ by
        rw [HSS.out, List.take_of_length_le (by have := HN.out; omega), lineC_pre, HP0.out])
      go_wp2
      go_ret
      exact ⟨by rw [HRR.out]; rfl, chain HBZ.out hb⟩
end Go.Proofs.YtofcpmfbeobgiaaDoor

namespace Go.Proofs.YtofcpmfbeobgiaaDoor
open Go.RowKit
set_option linter.unusedVariables false
attribute [local go_sem] Oper.semAt_some

theorem AnyT.takeDN {P : Program} {md : Region.Mode} {ops : Array Oper} {Q : Exit → Act → World → Prop} {S : World → Prop} {i d : Nat} {oi : Oper} {fuel : Nat} {listed : Array Bool} {a : Act} {w : World} {Wf : Nat → Bool} (hi : ops[i]? = some oi) (hd : oi.dst = some d)
    (hs : Region.noSelect ops = true) (hf : Region.free md ops listed i = true) (hr : (Region.ready md ops listed).contains i = true)
    (hQ : ∀ c a w, Q (.panic c) (a.put (some d) undef) w → Q (.panic c) a w)
    (hW : (List.range ops.size).all (fun j => waits md ops i j || Wf j) = true) (hw : Region.wanted oi (yielded ops a.tmps) = false) (hS : S w)
    (h : AnyT P md ops Q (fun j w => Wf j = true → S w) fuel (listed.setIfInBounds i true) (a.put (some d) undef) w) : AnyT P md ops Q (fun j w => Wf j = true → S w) (fuel + 1) listed a w :=
  AnyT.take (v := undef) hi hs hf hr (by rw [hd]; exact hQ) (fun j hj w hT => hT (by
    by_cases e : j < ops.size
    · have := List.all_eq_true.1 hW j (List.mem_range.2 e)
      rw [hj] at this; simpa using this
    · unfold waits at hj; rw [Array.getElem?_eq_none (by omega)] at hj; cases hj)) (fun w hS _ => hS) (.inr ⟨hw, rfl⟩) hS (by rw [hd]; exact h)

end Go.Proofs.YtofcpmfbeobgiaaDoor
