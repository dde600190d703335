/- The list of the pictures that fit, as package bit makes it. -/
import Derived.Test.YtdcflpfaaeijoaaBitE
import Derived.Test.YtdcflpfaaeijoaaLists
import Derived.Test.YtdcflpfaaeijoaaHeld
import Derived.WalkSpells
import Derived.Maps.AppendAt
namespace Go.Proofs.Ytdcflpfaaeijoaa
open Go.RowKit
set_option linter.unusedVariables false
attribute [local go_sem] Oper.semAt_some

theorem clone_c (w : World) (a : Option Addr) (n cap : Nat) (l : List Int) (hn : l.length = n) (hm : n * 8 ≤ 140737488355328) (H : IntsAt w a l) :
    Calls Try.prog 73 #[.slice a n cap] w fun e w' => ∃ v, e = .returned v ∧ w'.ownsRow w.heap.size 3 1 v n (l.map (Value.int .i64)) ∧ Below w.heap.size w w' := by
  obtain ⟨i0, hi, hz0, hz1, hz2⟩ := info_parts info_int
  have heq := fun (w : World) (a : Option Addr) (n c : Nat) => Lib.run_eql_slice_nil (P := Try.prog) w 25 3 a n c 0 0 Try.underlying25
  cases a with
  | none =>
    have h0 : n = 0 := by
      rcases Nat.eq_zero_or_pos n with h | h
      · exact h
      · obtain ⟨_, _, e, _⟩ := H 0 (by omega); cases e
    subst h0
    have hl : l = [] := List.eq_nil_of_length_eq_zero hn
    subst hl
    clear hn H hm
    go_enter Try.func73, Try.ntmps73
    go_wp2
    go_ret
    exact ⟨_, rfl, World.ownsRow_nil _ _ _ _, Below.refl _ _⟩
  | some ad =>
    have HN := hid hn
    have hnews : ∀ j u, (l.map (Value.int .i64))[j]? = some u → (w.alloc (.cells #[] 3)).cell? (ad.add j) = some u := by
      intro j u hu
      rw [List.getElem?_map] at hu
      obtain ⟨x, hx, rfl⟩ := Option.map_eq_some_iff.1 hu
      obtain ⟨hjl, e⟩ := List.getElem?_eq_some_iff.1 hx
      obtain ⟨b, off, ea, hb, hc⟩ := H j hjl
      cases ea
      rw [Addr.add_lit]
      refine (((Below.refl _ w).alloc (Nat.le_refl _) (.cells #[] 3)).cell (p := ⟨b, off + j, none⟩) hb).trans ?_
      rw [hc, hx]; rfl
    have HNews := hid hnews
    clear hnews H hn
    go_enter Try.func73, Try.ntmps73
    go_wp2_with (at_builtin; refine wpList_append_own _ rfl _ _ 25 rfl w.heap.size 3 i0 (.int .i64 0) 1 8 Try.underlying25 hi hz0 hz1 hz2 rfl (by decide) _ 0 [] rfl (World.ownsRow_made _ _ 0 (Nat.le_refl _) (by unfold maxLen; omega) rfl) ad n cap (l.map (Value.int .i64)) rfl (by rw [List.length_map, HN.out]; omega) HNews.out (ints_oneCell _ _) (by unfold maxLen; omega) (by omega) (by simp) ?_; intro v' w1 hown' hgrow _)
    go_ret
    refine ⟨_, rfl, by simpa using hown', ((Below.refl _ w).alloc (Nat.le_refl _) _).grown hgrow (by simp) (fun k hk => by cases hk; exact Nat.le_refl _)⟩

theorem pictures_c (p t : Int) (w : World) : Calls Try.prog 79 #[.agg #[.int .i64 p, .int .i64 t]] w
    fun e w' => e = .returned (.func (.func 99) #[] #[.pointer (some ⟨w.heap.size, 0, none⟩)]) ∧ w' = w.alloc (.cells #[.int .i64 p, .int .i64 t] 23) := by
  have hmf : ∀ (fn : Fn) (first cap : Array Value) (w : World), (Instr.makeFunc fn first cap).run Try.prog w = .ok (.func fn first cap) w := fun _ _ _ _ => rfl
  go_enter Try.func79, Try.ntmps79
  go_wp2
  go_ret
  exact ⟨rfl, rfl⟩

theorem info_ints : (Try.prog.info? 25).map (fun i => (i.zero, i.size, i.bytes)) = some (some (.slice none 0 0), 1, 24) := by kernel_rfl

/-- the pictures of a field that fit cells, in their order -/
def fitting (p t : Nat) (l : List Cel) : List (List Int) := (pics (t + 1) p).filter (fitA l)

theorem ints_of_row {W : World} {it : Nat} {x : List Int} {sp : List Value} {E : TypeId} (h : W.heap[it]? = some (.cells (x.map (Value.int .i64) ++ sp).toArray E (0, 0))) : IntsAt W (some ⟨it, 0, none⟩) x := by
  intro j hj
  refine ⟨it, 0, rfl, (Array.getElem?_eq_some_iff.1 h).1, ?_⟩
  rw [Nat.zero_add]
  simp [World.cell?, h, List.getElem?_append_left, hj]

theorem pow_le {p t : Nat} (hp : p ≤ 8) (ht : t ≤ 3) : (t + 1) ^ p ≤ 65536 := by
  calc (t + 1) ^ p ≤ 4 ^ p := Nat.pow_le_pow_left (by omega) p
    _ ≤ 4 ^ 8 := Nat.pow_le_pow_right (by omega) hp
    _ = 65536 := by decide

set_option maxRecDepth 100000 in
set_option maxHeartbeats 2000000 in
theorem left_c (w : World) (p t : Nat) (hp : p ≤ 8) (ht : t ≤ 3) (a : Option Addr) (n cap : Nat) (l : List Cel) (hn : l.length = n) (hm : n ≤ maxLen) (H : CellsAt w a l) (hrow : ∀ c ∈ l, c.row.length ≤ p) :
    Calls Try.prog 65 #[.agg #[.int .i64 p, .int .i64 t], .slice a n cap] w fun e w' => ∃ v base, e = .returned v ∧ w.heap.size ≤ base ∧ RowsO 3 25 w' base (fun _ => True) v (fitting p t l) ∧ Below w.heap.size w w' := by
  have HN := hid hn
  have HH := hid H
  have HROW := hid hrow
  clear hn H hrow
  obtain ⟨i0, hi, hz0, hz1, hz2⟩ := info_parts info_ints
  refine callsIn_wide (n := 0) |>.1 ?_
  refine callsIn_of_wp_marks Try.func65 rfl trivial ?_ rfl
  simp only [Try.ntmps65, List.size_toArray, List.length_cons, List.length_nil, Nat.reduceAdd, Nat.reduceSub, Array.replicate_succ, Array.replicate_zero, List.push_toArray, List.append_toArray, List.nil_append, List.cons_append]
  gi_wp2_with (refine ⟨trivial, rfl, ?_⟩; gi_at_call 79; refine (callsIn_wide.2 (pictures_c _ _ _)).mono ?_; rintro e w' ⟨rfl, rfl⟩)
  obtain ⟨wL, hwL⟩ : ∃ wL, wL = (((w.alloc (.cells #[.int .i64 p, .int .i64 t] 23)).alloc (.cells #[.slice a n cap] 24)).alloc (.cells #[.slice none 0 0] 57)).alloc (.cells #[.int .i64 p, .int .i64 t] 23) := ⟨_, rfl⟩
  have hsz : wL.heap.size = w.heap.size + 4 := by rw [hwL]; simp
  have hbL : Below w.heap.size w wL := by rw [hwL]; exact (((((Below.refl _ w).alloc (Nat.le_refl _) _).alloc (by simp) _).alloc (by simp; omega) _).alloc (by simp; omega) _)
  have hB1 : Boxed wL (w.heap.size + 1) 24 (.slice a n cap) := by
    rw [hwL]
    have := (Boxed.new (w.alloc (.cells #[.int .i64 p, .int .i64 t] 23)) 24 (.slice a n cap))
    rw [World.size_alloc] at this
    exact (this.alloc _).alloc _
  have hB2 : Boxed wL (w.heap.size + 2) 57 (.slice none 0 0) := by
    rw [hwL]
    have := (Boxed.new ((w.alloc (.cells #[.int .i64 p, .int .i64 t] 23)).alloc (.cells #[.slice a n cap] 24)) 57 (.slice none 0 0))
    rw [World.size_alloc, World.size_alloc] at this
    exact this.alloc _
  have hF0 : wL.cell? ⟨w.heap.size + 3, 0, none⟩ = some (.int .i64 p) := by rw [hwL, World.cell?_alloc_at _ _ _ _ (by simp)]; rfl
  have hF1 : wL.cell? ⟨w.heap.size + 3, 1, none⟩ = some (.int .i64 t) := by rw [hwL, World.cell?_alloc_at _ _ _ _ (by simp)]; rfl
  rw [← hwL]
  clear hwL
  refine range_ints (gf := 99) (lb := #[.pointer (some ⟨w.heap.size + 3, 0, none⟩)]) (xs := pics (t + 1) p) (fp := fun k => k = w.heap.size + 3) (E := 3) rfl (enters_of Try.func99 (by kernel_rfl) rfl)
    (iter_pics wL p t (w.heap.size + 3) hp ht (by omega) hF0 hF1) (Below.refl _ _) (by intro k hk; omega)
    (fun it pre W => ∃ v, Boxed W (w.heap.size + 2) 57 v ∧ Boxed W (w.heap.size + 1) 24 (.slice a n cap) ∧ Below w.heap.size w W ∧ RowsO 3 25 W (w.heap.size + 6) (fun b => b ≠ w.heap.size + 2 ∧ b ≠ w.heap.size + 4 ∧ b ≠ w.heap.size + 5 ∧ b ≠ it) v (pre.filter (fitA l)))
    (fun _ _ _ => False) ?hI (fun _ _ _ _ h _ => h) ?h0
    (fun v => { tmps := #[.agg #[.int .i64 p, .int .i64 t], .slice a n cap, .pointer (some ⟨w.heap.size, 0, none⟩), .pointer (some ⟨w.heap.size + 1, 0, none⟩), .slice none 0 0, .pointer (some ⟨w.heap.size + 2, 0, none⟩), v, .agg #[.int .i64 p, .int .i64 t], .func (.func 99) #[] #[.pointer (some ⟨w.heap.size + 3, 0, none⟩)], v, undef, undef, undef, undef, undef, undef, undef, undef, undef], defers := [] }) ?assign ?body ?done ?stop
  case hI =>
    rintro it s A B hit ⟨v, h2, h1, hb, hr⟩ hk
    rw [hsz] at hit hk
    exact ⟨v, (hk.block _ h2.lt (by omega)).trans h2, (hk.block _ h1.lt (by omega)).trans h1, hk.below hb hb.size (fun k _ => by omega), hr.keep (hk.mono fun k hk => ⟨hk.2.1, hk.2.2.1, hk.2.2.2⟩)⟩
  case h0 => intro it _; exact ⟨_, hB2, hB1, hbL, RowsO.nil _ _ _ _ _⟩
  case assign =>
    intro l v W K hK
    gi_wp2
    exact hK
  case body =>
    rintro l' it pre x cap' sp W hit hpre ⟨v, hv2, hv1, hBW, hR⟩ hitW hx hDo hLo
    rw [hsz] at hit hDo hLo ⊢
    have hxm : x ∈ pics (t + 1) p := hpre.subset (by simp)
    have hxl : x.length = p := (mem_pics (by omega) hxm).1
    have hxi : IntsAt W (some ⟨it, 0, none⟩) x := ints_of_row hx
    have HF := hid (fits_c W a n cap l HN.out hm (HH.out.below hBW) (some ⟨it, 0, none⟩) x.length cap' x rfl hxi (fun c hc => by rw [hxl]; exact HROW.out c hc))
    have hc1 : W.cell? ⟨w.heap.size + 1, 0, none⟩ = some (.slice a n cap) := hv1.cell
    have hplen : (pre ++ [x]).length ≤ (t + 1) ^ p := by have := hpre.length_le; rwa [length_pics] at this
    have hpow := pow_le hp ht
    have hpl : (pre.filter (fitA l)).length ≤ pre.length := List.length_filter_le _ _
    have hfilt : (pre ++ [x]).filter (fitA l) = pre.filter (fitA l) ++ (if fitA l x then [x] else []) := by
      rw [List.filter_append]; congr 1; cases h : fitA l x <;> simp [h]
    have HFI := hid hfilt
    have HX := hid hx
    have HXL := hid hxl
    have HXI := hid hxi
    have HD := hid hDo
    have HL := hid hLo
    clear hfilt hx hxl hxi hDo hLo hpre hxm
    cases hfx : fitA l x
    · gi_wp2_with (refine ⟨trivial, rfl, ?_⟩; gi_at_call 77; refine (CallsIn.inRound l' (callsIn_wide.2 HF.out)).mono ?_; rintro e w1 ⟨rfl, hb1⟩)
      refine ⟨hb1.size, fun k hk => hb1.block k ?_, v, (hb1.block _ hv2.lt).trans hv2, (hb1.block _ hv1.lt).trans hv1, chain hBW hb1, ?_⟩
      · omega
      · rw [HFI.out, hfx]; simp; exact hR.keep (Keep.of_below hb1)
    · gi_wp2_with (refine ⟨trivial, rfl, ?_⟩; gi_at_call 77; refine (CallsIn.inRound l' (callsIn_wide.2 HF.out)).mono ?_; rintro e w1 ⟨rfl, hb1⟩)
      have hs0 : w1.drew.cell? ⟨w.heap.size + 1 + 1, 0, none⟩ = some v := by
        show w1.cell? ⟨w.heap.size + 1 + 1, 0, none⟩ = some v
        exact (hb1.cell (p := ⟨w.heap.size + 1 + 1, 0, none⟩) hv2.lt).trans hv2.cell
      refine round_region (fun j w' => decide (j < 4) = true → w'.cell? ⟨w.heap.size + 1 + 1, 0, none⟩ = some v) l' 0 (by kernel_rfl) (by kernel_rfl) (fun ⟨_, _, h⟩ => h) ?_
      refine AnyT.takeW (i := 0) (v := v) rfl (by kernel_rfl) (by kernel_rfl) (by kernel_rfl) (fun _ _ _ h => h) (by kernel_rfl) (by rfl) (by intro w' hw'; go_simp) hs0 ?_
      refine AnyT.next (i := 1) (by kernel_rfl) rfl (wpOp_of_list rfl ?_)
      go_wp2
      refine ⟨fun _ => hs0, ?_⟩
      have HCl := hid (clone_c w1.drew (some ⟨it, 0, none⟩) x.length cap' x rfl (by rw [HXL.out]; omega) (HXI.out.below (hb1.drew)))
      refine AnyT.next (i := 2) (by kernel_rfl) rfl (wpOp_of_list rfl ?_)
      go_wp2_with (go_at_call 73; refine HCl.out.mono ?_; rintro e w2 ⟨cv, rfl, hown2, hb2⟩)
      obtain ⟨ca, cc, rfl⟩ := ownsRow_slice hown2
      have hbW2 : Below W.heap.size W w2 := hb1.drew.trans (hb2.mono hb1.size)
      have hs2 : w2.cell? ⟨w.heap.size + 1 + 1, 0, none⟩ = some v := (hbW2.cell (p := ⟨w.heap.size + 1 + 1, 0, none⟩) hv2.lt).trans hv2.cell
      refine ⟨fun _ => hs2, ?_⟩
      refine AnyT.next (i := 3) (by kernel_rfl) rfl (wpOp_of_list rfl ?_)
      go_wp2
      have hv22 : Boxed w2 (w.heap.size + 2) 57 v := (hbW2.block _ hv2.lt).trans hv2
      have hR2 := hR.keep (Keep.of_below hbW2 : Keep _ W w2)
      obtain ⟨vs, ho, hg, he⟩ := hR2
      have hEl : ElemI 3 w2 (w.heap.size + 6) (fun b => b ≠ w.heap.size + 2 ∧ b ≠ w.heap.size + 4 ∧ b ≠ w.heap.size + 5 ∧ b ≠ it) (.slice ca x.length cc) x := ElemI.own hown2 (by unfold maxLen; have := HXL.out; omega) (fun b hb => by have : w1.heap.size ≤ b := hb; have := hb1.size; omega)
      have hsz2 : w.heap.size + 6 ≤ w2.heap.size := by have := hbW2.size; omega
      have HEl := hid hEl
      have HE := hid he
      have HG := hid hg
      clear hEl he hg hR hown2
      refine ⟨fun _ => by rw [World.cell?_alloc_past _ _ _ hv22.lt]; exact hs2, ?_⟩
      refine AnyT.next (i := 4) (by kernel_rfl) rfl (wpOp_of_list rfl ?_)
      have hpl' : pre.length + 1 ≤ 65536 := by simp at hplen; omega
      (refine wpList_append_own _ rfl _ _ 57 rfl (w.heap.size + 6) 25 i0 (.slice none 0 0) 1 24 Try.underlying57 hi hz0 hz1 hz2 rfl (by decide) v _ vs rfl (ho.alloc _) ⟨w2.heap.size, 0, none⟩ 1 1 [.slice ca x.length cc] rfl rfl (cell_one_new _ _ _) (by simp [Value.oneCell']) (by unfold maxLen; omega) (by omega) (by simp; omega) ?_; intro v' w3 hown3 hgrow3 _)
      refine And.intro (fun h => absurd h (by decide)) ?_
      obtain ⟨g', c', rfl⟩ := ownsRow_succ hown3
      have hb23 : Below w2.heap.size w2 (w2.alloc (.cells #[.slice ca x.length cc] 25)) := (Below.refl _ _).alloc (Nat.le_refl _) _
      have hvb : ∀ k, v.ownBlock = some k → w.heap.size + 6 ≤ k := fun k hk => (ho.lt k hk).1
      have hold : ∀ k, k < w2.heap.size → (k < w.heap.size + 6 ∨ k = it) → w3.heap[k]? = w2.heap[k]? := fun k hk h => by
        refine (hgrow3.block k (by simp; omega) ?_).trans (hb23.block k hk)
        intro e
        have h1 := hvb k e.symm
        have h2 := HG.out k e.symm
        omega
      have hit3 : w3.heap[it]? = W.heap[it]? := (hold it (by have := hbW2.size; omega) (Or.inr rfl)).trans (hbW2.block it hitW)
      have hS' : ∀ k, (Value.slice (some ⟨g', 0, none⟩) ((pre.filter (fitA l)).length + 1) c').ownBlock = some k → k ≠ w.heap.size + 2 ∧ k ≠ w.heap.size + 4 ∧ k ≠ w.heap.size + 5 ∧ k ≠ it := by
        intro k hk
        obtain rfl : g' = k := by simpa [Value.ownBlock] using hk
        have h1 := (hown3.lt g' rfl).1
        refine ⟨by omega, by omega, by omega, ?_⟩
        rintro rfl
        rcases hown3.2 with ⟨h, _⟩ | ⟨g, cap2, cur, h, _, hh, _⟩
        · cases h
        · cases h
          rw [hit3, HX.out] at hh
          cases hh
      have hR3 := RowsO.snoc (by decide) ho HE.out HEl.out hb23 hgrow3 hown3 hS'
      have hv23 : Boxed w3 (w.heap.size + 2) 57 v := (hold _ hv22.lt (Or.inl (by omega))).trans hv22
      have hc5 : w3.cell? ⟨w.heap.size + 2, 0, none⟩ = some v := hv23.cell
      have hf5 : w3.frozen? ⟨w.heap.size + 2, 0, none⟩ = false := hv23.frozen
      have HR3 := hid hR3
      have HOld := hid hold
      clear hR3 hold hown3 ho hvb
      refine AnyT.next (i := 5) (by kernel_rfl) rfl (wpOp_of_list rfl ?_)
      go_wp2
      refine ⟨by kernel_rfl, ?_⟩
      have hkw : Keep (fun k => k ≠ w.heap.size + 2) w3 (w3.setCell ⟨w.heap.size + 2, 0, none⟩ (.slice (some ⟨g', 0, none⟩) ((pre.filter (fitA l)).length + 1) c')) := Keep.set w3 _ 0 _
      have hsz3 : w2.heap.size < w3.heap.size := by have := hgrow3.size; simp at this; omega
      have hold : ∀ k, k < W.heap.size → k ≠ w.heap.size + 2 → (k < w.heap.size + 6 ∨ k = it) → (w3.setCell ⟨w.heap.size + 2, 0, none⟩ (.slice (some ⟨g', 0, none⟩) ((pre.filter (fitA l)).length + 1) c')).heap[k]? = W.heap[k]? := fun k hk hne h =>
        (hkw.block k (by have := hbW2.size; omega) hne).trans ((HOld.out k (by have := hbW2.size; omega) h).trans (hbW2.block k hk))
      refine ⟨?_, ?_, _, hv23.set _, ?_, ?_, ?_⟩
      · have := hkw.size; have := hbW2.size; omega
      · intro k hk
        refine hold k ?_ (by omega) (by omega)
        rcases hk with hk | hk | hk | hk
        · have := hv2.lt; omega
        · have := hBW.size; omega
        · have := hBW.size; omega
        · omega
      · exact (hold _ hv1.lt (by omega) (Or.inl (by omega))).trans hv1
      · exact hBW.trans ⟨by rw [hkw.os, hgrow3.os]; exact hbW2.os, by rw [hkw.tape, hgrow3.tape]; exact hbW2.tape, by rw [hkw.output, hgrow3.output]; exact hbW2.output, by have := hkw.size; have := hbW2.size; omega, fun k hk => hold k (by have := hBW.size; omega) (by omega) (Or.inl (by omega))⟩
      · rw [HFI.out, hfx]
        exact HR3.out.keep (hkw.mono fun k hk => hk.1)
  case done =>
    rintro it W hit ⟨v, hv2, hv1, hBW, hR⟩ hK
    rw [hsz] at hit hK ⊢
    have hc1 : W.cell? ⟨w.heap.size + 1 + 1, 0, none⟩ = some v := hv2.cell
    gi_wp2
    refine ⟨by simp, .inl ⟨_, _, rfl, run_takeDeferred hK, ?_⟩⟩
    refine ⟨_, results_tmp rfl _ _ _, v, w.heap.size + 6, rfl, by omega, ?_, ?_⟩
    · exact (hR.keep ((Keep.put W _ _).mono fun k hk => hk.2.1)).free
    · exact (Keep.put W (w.heap.size + 4) _).below hBW hBW.size (fun k hk => by omega)
  case stop => intro c pre W _ h _; exact h.elim
end Go.Proofs.Ytdcflpfaaeijoaa
