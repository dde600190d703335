/- Walks: First of package bit. -/
import Derived.Test.YtdcflpfaaeijoaaBitS
namespace Go.Proofs.Ytdcflpfaaeijoaa
open Go.RowKit
set_option linter.unusedVariables false
attribute [local go_sem] Oper.semAt_some

theorem first_of_prefix {α : Type} {f : α → Bool} {s xs : List α} {x : α} {d : α} (h : s <+: xs) (hf : s.filter f = [x]) : xs.filter f ≠ [] ∧ (xs.filter f)[0]?.getD d = x := by
  obtain ⟨r, rfl⟩ := h
  rw [List.filter_append, hf]
  simp

/-- what a call that returns a list of ints and an error owes -/
def ResInts (E : Int) (V : List Int) (w : World) (e : Ending) (w' : World) : Prop :=
  ∃ ra rn rc, e = .returned (.tuple #[.slice ra rn rc, .int .i64 E]) ∧ V.length = rn ∧ rn ≤ maxLen ∧ IntsAt w' ra V ∧ Below w.heap.size w w'
theorem two_set {W : World} {b c : Nat} {S T : TypeId} {u v : Value} (h1 : Boxed W b S u) (h2 : Boxed W c T v) (hne : b ≠ c) (u' v' : Value) :
    Boxed ((W.setCell ⟨b, 0, none⟩ u').setCell ⟨c, 0, none⟩ v') b S u' ∧ Boxed ((W.setCell ⟨b, 0, none⟩ u').setCell ⟨c, 0, none⟩ v') c T v' :=
  ⟨(h1.set u').other hne _, (h2.other (Ne.symm hne) _).set v'⟩
theorem boxed_below {W W' : World} {b : Nat} {T : TypeId} {v : Value} (h : Boxed W b T v) (hb : Below W.heap.size W W') : Boxed W' b T v := (hb.block b h.lt).trans h

set_option maxRecDepth 100000 in
set_option maxHeartbeats 4000000 in
theorem first_c (w : World) (p t : Int) (a : Option Addr) (n cap : Nat) (l : List Cel) (hn : l.length = n) (hm : n ≤ maxLen) (H : CellsAt w a l) :
    Calls Try.prog 35 #[.agg #[.int .i64 p, .int .i64 t], .slice a n cap] w fun e w' => ResInts (firstE p t l) (firstV p t l) w e w' := by
  obtain ⟨wf, hwf⟩ : ∃ wf, wf = (((w.alloc (.cells #[.int .i64 p, .int .i64 t] 23)).alloc (.cells #[.slice a n cap] 24)).alloc (.cells #[.slice none 0 0] 25)).alloc (.cells #[.int .i64 0] 29) := ⟨_, rfl⟩
  have hsz : wf.heap.size = w.heap.size + 4 := by rw [hwf]; simp
  have hb0 : Below w.heap.size w wf := by rw [hwf]; exact (((((Below.refl _ w).alloc (Nat.le_refl _) _).alloc (by simp) _).alloc (by simp; omega) _).alloc (by simp; omega) _)
  have hB1 : Boxed wf (w.heap.size + 1) 24 (.slice a n cap) := by
    rw [hwf]
    have := (Boxed.new (w.alloc (.cells #[.int .i64 p, .int .i64 t] 23)) 24 (.slice a n cap))
    rw [World.size_alloc] at this
    exact (this.alloc _).alloc _
  have hB2 : Boxed wf (w.heap.size + 2) 25 (.slice none 0 0) := by
    rw [hwf]
    have := (Boxed.new ((w.alloc (.cells #[.int .i64 p, .int .i64 t] 23)).alloc (.cells #[.slice a n cap] 24)) 25 (.slice none 0 0))
    rw [World.size_alloc, World.size_alloc] at this
    exact this.alloc _
  have hB3 : Boxed wf (w.heap.size + 3) 29 (.int .i64 0) := by
    rw [hwf]
    have := (Boxed.new (((w.alloc (.cells #[.int .i64 p, .int .i64 t] 23)).alloc (.cells #[.slice a n cap] 24)).alloc (.cells #[.slice none 0 0] 25)) 29 (.int .i64 0))
    rw [World.size_alloc, World.size_alloc, World.size_alloc] at this
    exact this
  have hF0 : wf.cell? ⟨w.heap.size, 0, none⟩ = some (.int .i64 p) := by rw [hwf, World.cell?_alloc_lt _ _ _ (by simp; omega), World.cell?_alloc_lt _ _ _ (by simp; omega), World.cell?_alloc_lt _ _ _ (by simp), World.cell?_alloc_at _ _ _ _ rfl]; rfl
  have hF1 : wf.cell? ⟨w.heap.size, 1, none⟩ = some (.int .i64 t) := by rw [hwf, World.cell?_alloc_lt _ _ _ (by simp; omega), World.cell?_alloc_lt _ _ _ (by simp; omega), World.cell?_alloc_lt _ _ _ (by simp), World.cell?_alloc_at _ _ _ _ rfl]; rfl
  have HF := hid (fun (W : World) (hb : Below wf.heap.size wf W) => And.intro ((hb.cell (p := ⟨w.heap.size, 0, none⟩) (show w.heap.size < wf.heap.size by omega)).trans hF0) (And.intro ((hb.cell (p := ⟨w.heap.size, 1, none⟩) (show w.heap.size < wf.heap.size by omega)).trans hF1) (And.intro (boxed_below hB1 hb) (And.intro (boxed_below hB2 hb) (boxed_below hB3 hb)))))
  have HV := hid (fun (W : World) (hb : Below w.heap.size w W) => validCells_c W p t a n cap l hn hm (H.below hb))
  have HB0 := hid hb0
  have HSZ := hid hsz
  clear hB1 hB2 hB3 hF0 hF1 hb0 hsz
  cases hf : okCells p t l
  · have e1 : firstE p t l = 1 := by simp [firstE, hf]
    have e2 : firstV p t l = [] := by simp [firstV, hf]
    rw [e1, e2]
    clear e1 e2 hn H
    rw [hf] at HV
    go_enter Try.func35, Try.ntmps35
    go_wp2_with fail
    rw [← hwf]
    clear hwf
    refine (HV.out _ HB0.out).mono ?_
    rintro e w1 ⟨rfl, hb1⟩
    obtain ⟨f0, f1, f2, f3, f4⟩ := HF.out _ hb1
    have c3 := f3.cell
    have c3f := f3.frozen
    have c4 := f4.cell
    have c4f := f4.frozen
    have H2S := hid (two_set f3 f4 (by omega) (.slice none 0 0) (.int .i64 1))
    clear f2 f3 f4
    go_wp2
    have r0 := H2S.out.1.cell
    have r1 := H2S.out.2.cell
    refine bodyPost_ret (v := .tuple #[.slice none 0 0, .int .i64 1]) ?_ rfl ⟨none, 0, 0, rfl, rfl, by decide, fun j hj => by simp at hj, below_set (below_set (chain HB0.out hb1) (by omega) _ _) (by omega) _ _⟩
    simp [results, Try.results35, go_sem, r0, r1]
  · obtain ⟨hfd, hrows⟩ := okCells_bd hf
    obtain ⟨p1, p8, t0, t3⟩ := okField_bd hfd
    obtain ⟨P, rfl⟩ := Int.eq_ofNat_of_zero_le (show 0 ≤ p by omega)
    obtain ⟨T, rfl⟩ := Int.eq_ofNat_of_zero_le t0
    have e1 : firstE (P : Int) (T : Int) l = if (pics (T + 1) P).filter (fitA l) = [] then 8 else 0 := by simp [firstE, hf, fitting]
    have e2 : firstV (P : Int) (T : Int) l = ((pics (T + 1) P).filter (fitA l))[0]?.getD [] := by simp [firstV, hf, fitting]
    have HEV := hid (show ((pics (T + 1) P).filter (fitA l) = [] → firstE (P : Int) (T : Int) l = 8 ∧ firstV (P : Int) (T : Int) l = []) ∧ (∀ s x, s <+: pics (T + 1) P → s.filter (fitA l) = [x] → firstE (P : Int) (T : Int) l = 0 ∧ firstV (P : Int) (T : Int) l = x) from by
      refine ⟨fun h => by rw [e1, e2, h]; exact ⟨rfl, rfl⟩, fun s x hs hx => ?_⟩
      obtain ⟨h1, h2⟩ := first_of_prefix (d := []) hs hx
      rw [e1, e2, if_neg h1]
      exact ⟨rfl, h2⟩)
    obtain ⟨EE, hEE⟩ : ∃ E, E = firstE (P : Int) (T : Int) l := ⟨_, rfl⟩
    obtain ⟨VV, hVV⟩ : ∃ E, E = firstV (P : Int) (T : Int) l := ⟨_, rfl⟩
    rw [← hEE, ← hVV] at HEV ⊢
    clear hEE hVV
    rw [hf] at HV
    have HN := hid hn
    have HH := hid H
    have HROW := hid hrows
    have hP : P ≤ 8 := by omega
    have hT : T ≤ 3 := by omega
    clear e1 e2 hn H hrows
    refine callsIn_wide (n := 0) |>.1 ?_
    refine callsIn_of_wp_marks Try.func35 rfl trivial ?_ rfl
    simp only [Try.ntmps35, List.size_toArray, List.length_cons, List.length_nil, Nat.reduceAdd, Nat.reduceSub, Array.replicate_succ, Array.replicate_zero, List.push_toArray, List.append_toArray, List.nil_append, List.cons_append]
    gi_wp2_with (refine ⟨trivial, rfl, ?_⟩; gi_at_call 21; refine Stop.of ?_)
    refine Stop.go ?_
    rw [← hwf]
    clear hwf
    refine (callsIn_wide.2 (HV.out _ HB0.out)).mono ?_
    rintro e w1 ⟨rfl, hb1⟩
    obtain ⟨f0, f1, f2, f3, f4⟩ := HF.out _ hb1
    have F2 := hid f2
    have F3 := hid f3
    have F4 := hid f4
    clear f2 f3 f4
    gi_wp2_with (refine ⟨trivial, rfl, ?_⟩; gi_at_call 79; refine (callsIn_wide.2 (pictures_c _ _ _)).mono ?_; rintro e w' ⟨rfl, rfl⟩)
    obtain ⟨wL, hwL⟩ : ∃ wL, wL = w1.alloc (.cells #[.int .i64 (P : Int), .int .i64 (T : Int)] 23) := ⟨_, rfl⟩
    have hszL : wL.heap.size = w1.heap.size + 1 := by rw [hwL]; simp
    have hbL1 : Below w1.heap.size w1 wL := by rw [hwL]; exact (Below.refl _ _).alloc (Nat.le_refl _) _
    have hbL : Below w.heap.size w wL := chain (chain HB0.out hb1) hbL1
    have hG0 : wL.cell? ⟨w1.heap.size, 0, none⟩ = some (.int .i64 P) := by rw [hwL, World.cell?_alloc_at _ _ _ _ rfl]; rfl
    have hG1 : wL.cell? ⟨w1.heap.size, 1, none⟩ = some (.int .i64 T) := by rw [hwL, World.cell?_alloc_at _ _ _ _ rfl]; rfl
    rw [← hwL]
    clear hwL
    have hs1 : w.heap.size + 4 ≤ w1.heap.size := by have := hb1.size; have := HSZ.out; omega
    have hpicl : ∀ x ∈ pics (T + 1) P, x.length = P := fun x hx => (mem_pics (by omega) hx).1
    have HPL := hid hpicl
    refine range_ints (gf := 99) (lb := #[.pointer (some ⟨w1.heap.size, 0, none⟩)]) (xs := pics (T + 1) P) (fp := fun k => k = w1.heap.size) (E := 3) rfl (enters_of Try.func99 (by kernel_rfl) rfl)
      (iter_pics wL P T w1.heap.size hP hT (by omega) hG0 hG1) (Below.refl _ _) (by intro k hk; omega)
      (fun it pre W => pre.filter (fitA l) = [] ∧ Boxed W (w.heap.size + 1) 24 (.slice a n cap) ∧ Boxed W (w.heap.size + 2) 25 (.slice none 0 0) ∧ Boxed W (w.heap.size + 3) 29 (.int .i64 0) ∧ Below w.heap.size w W)
      (fun c s W => c = .ret ∧ ∃ x it cap', s.filter (fitA l) = [x] ∧ x.length ≤ maxLen ∧ wL.heap.size + 2 ≤ it ∧ Boxed W (w.heap.size + 2) 25 (.slice (some ⟨it, 0, none⟩) x.length cap') ∧ Boxed W (w.heap.size + 3) 29 (.int .i64 0) ∧ IntsAt W (some ⟨it, 0, none⟩) x ∧ Below w.heap.size w W)
      ?hI ?hIx ?h0
      (fun v => { tmps := #[.agg #[.int .i64 P, .int .i64 T], .slice a n cap, .pointer (some ⟨w.heap.size, 0, none⟩), .pointer (some ⟨w.heap.size + 1, 0, none⟩), .pointer (some ⟨w.heap.size + 2, 0, none⟩), .pointer (some ⟨w.heap.size + 3, 0, none⟩), v, .agg #[.int .i64 P, .int .i64 T], .slice a n cap, .bool true, .bool false, .agg #[.int .i64 P, .int .i64 T], .func (.func 99) #[] #[.pointer (some ⟨w1.heap.size, 0, none⟩)], v, undef, undef, undef, undef], defers := [] }) ?assign ?body ?done ?stop
    case hI =>
      rintro it s A B hit ⟨hno, h1, h2, h3, hb⟩ hk
      rw [hszL] at hit hk
      exact ⟨hno, (hk.block _ h1.lt (by omega)).trans h1, (hk.block _ h2.lt (by omega)).trans h2, (hk.block _ h3.lt (by omega)).trans h3, hk.below hb hb.size (fun k _ => by omega)⟩
    case hIx =>
      rintro c s A B ⟨rfl, x, it, cap', hfl, hxm, hit, h2, h3, hi, hb⟩ hk
      rw [hszL] at hit hk
      refine ⟨rfl, x, it, cap', hfl, hxm, by omega, (hk.block _ h2.lt (by omega)).trans h2, (hk.block _ h3.lt (by omega)).trans h3, ?_, hk.below hb hb.size (fun k _ => by omega)⟩
      intro j hj
      obtain ⟨b, off, e, hlt, hc⟩ := hi j hj
      cases e
      exact ⟨it, 0, rfl, Nat.lt_of_lt_of_le hlt hk.size, hk.cell hc (by show it ≠ _ ∧ it ≠ _; omega)⟩
    case h0 =>
      intro it _
      exact ⟨rfl, boxed_below F2.out hbL1, boxed_below F3.out hbL1, boxed_below F4.out hbL1, hbL⟩
    case assign =>
      intro l v W K hK
      gi_wp2
      exact hK
    case body =>
      rintro l' it pre x cap' sp W hit hpre ⟨hno, hv1, hv2, hv3, hBW⟩ hitW hx hDo hLo
      rw [hszL] at hit hDo hLo ⊢
      have hxm : x ∈ pics (T + 1) P := hpre.subset (by simp)
      have hxl : x.length = P := HPL.out x hxm
      have hxi : IntsAt W (some ⟨it, 0, none⟩) x := ints_of_row hx
      have HF5 := hid (fits_c W a n cap l HN.out hm (HH.out.below hBW) (some ⟨it, 0, none⟩) x.length cap' x rfl hxi (fun c hc => by rw [hxl]; have := HROW.out c hc; omega))
      have hc1 : W.cell? ⟨w.heap.size + 1, 0, none⟩ = some (.slice a n cap) := hv1.cell
      have hfilt : (pre ++ [x]).filter (fitA l) = if fitA l x then [x] else [] := by
        rw [List.filter_append, hno]; cases h : fitA l x <;> simp [h]
      have HFI := hid hfilt
      have HXL := hid hxl
      have HXI := hid hxi
      have HV1 := hid hv1
      have HV2 := hid hv2
      have HV3 := hid hv3
      have HX := hid hx
      have HW := hid (show w1.heap.size + 2 < W.heap.size from by obtain ⟨o, ho, _⟩ := hLo; exact (Array.getElem?_eq_some_iff.1 ho).1)
      clear hfilt hx hxl hxi hpre hxm hno hDo hLo
      cases hfx : fitA l x
      · gi_wp2_with (refine ⟨trivial, rfl, ?_⟩; gi_at_call 77; refine (CallsIn.inRound l' (callsIn_wide.2 HF5.out)).mono ?_; rintro e w2 ⟨rfl, hb2⟩)
        refine ⟨hb2.size, fun k hk => hb2.block k ?_, ?_, boxed_below HV1.out hb2, boxed_below HV2.out hb2, boxed_below HV3.out hb2, chain hBW hb2⟩
        · have hd := HW.out
          rcases hk with hk | hk | hk | hk <;> omega
        · rw [HFI.out, hfx]; rfl
      · gi_wp2_with (refine ⟨trivial, rfl, ?_⟩; gi_at_call 77; refine (CallsIn.inRound l' (callsIn_wide.2 HF5.out)).mono ?_; rintro e w2 ⟨rfl, hb2⟩; refine Stop.of ?_)
        refine Stop.go ?_
        have c3 := (boxed_below HV2.out hb2).cell
        have c3f := (boxed_below HV2.out hb2).frozen
        have c4 := (boxed_below HV3.out hb2).cell
        have c4f := (boxed_below HV3.out hb2).frozen
        have H2S := hid (two_set (boxed_below HV2.out hb2) (boxed_below HV3.out hb2) (by omega) (.slice (some ⟨it, 0, none⟩) x.length cap') (.int .i64 0))
        gi_wp2
        have hd := HW.out
        have hfar : ∀ k, k < W.heap.size → k ≠ w.heap.size + 2 → k ≠ w.heap.size + 3 → ((w2.setCell ⟨w.heap.size + 2, 0, none⟩ (.slice (some ⟨it, 0, none⟩) x.length cap')).setCell ⟨w.heap.size + 3, 0, none⟩ (.int .i64 0)).heap[k]? = W.heap[k]? := fun k hk h2 h3 => by
          have k1 := (Keep.set w2 (w.heap.size + 2) 0 (.slice (some ⟨it, 0, none⟩) x.length cap')).block k (Nat.lt_of_lt_of_le hk hb2.size) h2
          have k2 := (Keep.set (w2.setCell ⟨w.heap.size + 2, 0, none⟩ (.slice (some ⟨it, 0, none⟩) x.length cap')) (w.heap.size + 3) 0 (.int .i64 0)).block k (by simpa using Nat.lt_of_lt_of_le hk hb2.size) h3
          exact k2.trans (k1.trans (hb2.block k hk))
        refine ⟨?_, ?_, rfl, x, it, cap', ?_, ?_, hit, H2S.out.1, H2S.out.2, ?_, ?_⟩
        · simpa using hb2.size
        · intro k hk
          refine hfar k ?_ ?_ ?_ <;> (rcases hk with hk | hk | hk | hk <;> omega)
        · rw [HFI.out, hfx]; rfl
        · have := HXL.out; unfold maxLen; omega
        · intro j hj
          obtain ⟨b, off, e, hlt, hc⟩ := HXI.out j hj
          cases e
          refine ⟨it, 0, rfl, by simpa using Nat.lt_of_lt_of_le hlt hb2.size, ?_⟩
          have := hfar it hitW (by omega) (by omega)
          unfold World.cell? at hc ⊢
          simp only [this]
          exact hc
        · exact below_set (below_set (chain hBW hb2) (by omega) _ _) (by omega) _ _
    case done =>
      rintro it W hit ⟨hno, hv1, hv2, hv3, hBW⟩ hK
      rw [hszL] at hit hK ⊢
      have c3 := hv2.cell
      have c3f := hv2.frozen
      have c4 := hv3.cell
      have c4f := hv3.frozen
      have H2S := hid (two_set hv2 hv3 (by omega) (.slice none 0 0) (.int .i64 8))
      have hfar : ((W.setCell ⟨w.heap.size + 2, 0, none⟩ (.slice none 0 0)).setCell ⟨w.heap.size + 3, 0, none⟩ (.int .i64 8)).heap[w1.heap.size + 1]? = W.heap[w1.heap.size + 1]? := by
        have hlt := (Array.getElem?_eq_some_iff.1 hK).1
        have k1 := (Keep.set W (w.heap.size + 2) 0 (.slice none 0 0)).block (w1.heap.size + 1) hlt (by omega)
        have k2 := (Keep.set (W.setCell ⟨w.heap.size + 2, 0, none⟩ (.slice none 0 0)) (w.heap.size + 3) 0 (.int .i64 8)).block (w1.heap.size + 1) (by simpa using hlt) (by omega)
        exact k2.trans k1
      have HK := hid (hfar.trans hK)
      have HNO := hid hno
      clear hfar hno hK hv1 hv2 hv3
      gi_wp2
      refine ⟨by simp, .inl ⟨_, _, rfl, run_takeDeferred HK.out, ?_⟩⟩
      have r0 : ((((W.setCell ⟨w.heap.size + 2, 0, none⟩ (.slice none 0 0)).setCell ⟨w.heap.size + 3, 0, none⟩ (.int .i64 8)).putObj (w1.heap.size + 1) (.deferred none))).cell? ⟨w.heap.size + 2, 0, none⟩ = some (.slice none 0 0) := (Boxed.cell (show Boxed _ _ _ _ from (World.putObj_heap_other (by omega)).trans H2S.out.1))
      have r1 : ((((W.setCell ⟨w.heap.size + 2, 0, none⟩ (.slice none 0 0)).setCell ⟨w.heap.size + 3, 0, none⟩ (.int .i64 8)).putObj (w1.heap.size + 1) (.deferred none))).cell? ⟨w.heap.size + 3, 0, none⟩ = some (.int .i64 8) := (Boxed.cell (show Boxed _ _ _ _ from (World.putObj_heap_other (by omega)).trans H2S.out.2))
      obtain ⟨q1, q2⟩ := HEV.out.1 HNO.out
      refine ⟨.tuple #[.slice none 0 0, .int .i64 8], ?_, none, 0, 0, by rw [q1], by rw [q2]; rfl, by decide, by rw [q2]; exact fun j hj => by simp at hj, ?_⟩
      · simp [results, Try.results35, go_sem, r0, r1]
      · exact (Keep.put _ (w1.heap.size + 1) _).below (below_set (below_set hBW (by omega) _ _) (by omega) _ _) (by simpa using hBW.size) (fun k hk => by omega)
    case stop =>
      rintro c pre W hpre ⟨rfl, x, it, cap', hfl, hxm, hit, h2, h3, hi, hb⟩ hK
      rw [hszL] at hit hK ⊢
      have HK := hid hK
      have HI := hid hi
      obtain ⟨q1, q2⟩ := HEV.out.2 pre x hpre hfl
      have Q := hid (And.intro q1 q2)
      clear hK hi q1 q2 hfl hpre
      gi_wp2
      refine ⟨by simp, .inl ⟨_, _, rfl, run_takeDeferred HK.out, ?_⟩⟩
      have r0 : (W.putObj (w1.heap.size + 1) (.deferred none)).cell? ⟨w.heap.size + 2, 0, none⟩ = some (.slice (some ⟨it, 0, none⟩) x.length cap') := (Boxed.cell (show Boxed _ _ _ _ from (World.putObj_heap_other (by omega)).trans h2))
      have r1 : (W.putObj (w1.heap.size + 1) (.deferred none)).cell? ⟨w.heap.size + 3, 0, none⟩ = some (.int .i64 0) := (Boxed.cell (show Boxed _ _ _ _ from (World.putObj_heap_other (by omega)).trans h3))
      refine ⟨.tuple #[.slice (some ⟨it, 0, none⟩) x.length cap', .int .i64 0], ?_, _, _, cap', by rw [Q.out.1], by rw [Q.out.2], hxm, ?_, ?_⟩
      · simp [results, Try.results35, go_sem, r0, r1]
      · rw [Q.out.2]
        intro j hj
        obtain ⟨b, off, e, hlt, hc⟩ := HI.out j hj
        cases e
        exact ⟨it, 0, rfl, Nat.lt_of_lt_of_le hlt (Keep.put W (w1.heap.size + 1) _).size, (Keep.put W (w1.heap.size + 1) _).cell hc (by show it ≠ _; omega)⟩
      · exact (Keep.put _ (w1.heap.size + 1) _).below hb hb.size (fun k hk => by omega)
end Go.Proofs.Ytdcflpfaaeijoaa
