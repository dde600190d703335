/- Walks and plain laws for FaultFewestRow, part 5. -/
import Derived.Laws.EntriesVeiled
import Derived.Maps.OwnIn
import Derived.ChangeOld
import Derived.Deep.Slices
import Derived.Lib.SmallJoins
import Derived.LaidMore
import Derived.LaidHandle
import Derived.MakeChecks
import Derived.Stop.LaidErr
import Derived.Lib.LaidTab
import Derived.Test.YthaampmdponhbaaDoorPkFaultFewestRow4
namespace Go.Proofs.YthaampmdponhbaaDoor
open Go.RowKit Go.Maps
set_option linter.unusedVariables false

theorem news_below {W W' : World} {b : Nat} {news : List Value} (h : ∀ ad, (some ⟨b, 0, none⟩ : Option Addr) = some ad → ∀ j u, news[j]? = some u → W.cell? (ad.add j) = some u) (hb : Below W.heap.size W W') :
    ∀ ad, (some ⟨b, 0, none⟩ : Option Addr) = some ad → ∀ j u, news[j]? = some u → W'.cell? (ad.add j) = some u := by
  intro ad e j u hu
  have h1 := h ad e j u hu
  exact (hb.cell (p := ad.add j) (cell_in h1)).trans h1
theorem own_cap {W : World} {base : Nat} {e : TypeId} {size : Nat} {a : Option Addr} {n c : Nat} {xs : List Value} (h : W.ownsRow base e size (.slice a n c) n xs) : n ≤ c := by
  rcases h.2 with ⟨h1, h2⟩ | ⟨_, _, _, h1, _, _, h2, _⟩
  · omega
  · cases h1; exact h2
theorem ChPost.pre {fb : Nat} {T : List Nat} {o : Option (List Nat)} {w0 w w' : World} (h : ChPost fb T o w w') (hb : Below w0.heap.size w0 w) : ChPost fb T o w0 w' := by
  cases o with
  | none => exact chain hb h
  | some t => exact ⟨(Keep.of_below hb).trans h.1, h.2⟩
set_option maxRecDepth 100000 in
set_option maxHeartbeats 8000000 in
theorem choose_c (wA : World) (ht : Tab wA) (mb gb fb sb cb : Nat) (hd : wA.heap.size ≤ fb ∧ mb ≠ fb ∧ gb ≠ fb ∧ sb ≠ fb ∧ cb ≠ fb)
    (a : Option Addr) (n cap : Nat) (M : Mask) (hn : M.length = n) (H : RowsAt wA a M) (hM : okM M = true)
    (a2 : Option Addr) (n2 cap2 : Nat) (L : List (List Int)) (hn2 : L.length = n2) (hm2 : n2 ≤ 12) (H2 : RowsAt wA a2 L) (hx : ∀ x ∈ L, okShown M x = true)
    (ga : Option Addr) (N gc : Nat) (hgn : (classF M L).length = N) (HG : IntsAt wA ga (classF M L)) :
    ∀ (m f : Nat) (T : List Nat) (w : World) (al ax : Option Addr) (ln lc xc : Nat), ChW wA mb gb fb sb cb a n cap a2 n2 cap2 ga N gc w → (∀ i ∈ T, i < n2) → T.length = ln → ln + m ≤ n2 → f ≤ n2 → ln ≤ lc → ln ≤ xc → IntsAt w al (T.map fun i : Nat => (i : Int)) → RowsAt w ax (selL L T) →
    Calls Tryd.prog 64 #[.int .i64 f, .int .i64 m, .slice al ln lc, .slice ax ln xc, .pointer (some ⟨mb, 0, none⟩), .pointer (some ⟨gb, 0, none⟩), .pointer (some ⟨fb, 0, none⟩), .pointer (some ⟨sb, 0, none⟩), .pointer (some ⟨cb, 0, none⟩)] w fun e w' =>
      e = .returned (.bool (searchL n2 (clF M L) m f T).isSome) ∧ ChPost fb T (searchL n2 (clF M L) m f T) w w' := by
  intro m
  induction m with
  | zero =>
    intro f T w al ax ln lc xc hw hT hln hl2 _ hlc hxc HL HX
    exact choose0_c wA ht mb gb fb sb cb hd a n cap M hn H hM a2 n2 cap2 L hn2 hm2 hx ga N gc hgn HG f T w al ax ln lc xc hw hT hln (by omega) hlc hxc HL HX
  | succ m ih =>
    intro f T w al ax ln lc xc hw hT hln hl2 hf hlc hxc HL HX
    have HI := hid (fun (f : Nat) (T : List Nat) (W : World) (al ax : Option Addr) (ln lc xc : Nat) (h : ChW wA mb gb fb sb cb a n cap a2 n2 cap2 ga N gc W) (h1 : ∀ i ∈ T, i < n2) (h2 : T.length = ln) (h3 : ln + m ≤ n2) (h4 : f ≤ n2) (h5 : ln ≤ lc) (h6 : ln ≤ xc) (h7 : IntsAt W al (T.map fun i : Nat => (i : Int))) (h8 : RowsAt W ax (selL L T)) => ih f T W al ax ln lc xc h h1 h2 h3 h4 h5 h6 h7 h8)
    have HW := hid hw
    have HSB := hid hw.hs
    have HT := hid hT
    have HLN := hid hln
    have HLI := hid HL
    have HXR := hid HX
    have HR2 := hid H2
    have HN2 := hid hn2
    have HD := hid hd
    obtain ⟨fs, hfs⟩ : ∃ fs : Nat → Option (List Nat), fs = fun i => (searchL n2 (clF M L) m (i + 1) (T ++ [i])).map (i :: ·) := ⟨_, rfl⟩
    have hse : searchL n2 (clF M L) (m + 1) f T = (List.range' f (n2 - m - f)).findSome? fs := by rw [hfs]; rfl
    have HSE := hid hse
    have HFS := hid hfs
    obtain ⟨M1, hM1⟩ : ∃ M1 : Nat, M1 = m + 1 := ⟨_, rfl⟩
    have hM0 : ((M1 : Int) == 0) = false := by simp; omega
    have hM12 : M1 ≤ 12 := by omega
    have hl12 : ln ≤ 12 := by omega
    have HMM := hid hM1
    rw [← hM1]
    have eg := enters_of Tryd.func64 (by kernel_rfl) rfl
    have HM1 := hid (show ln + 1 ≤ maxLen by unfold maxLen; omega)
    have HM2 := hid (show (ln + 1) * 8 ≤ 140737488355328 by omega)
    have HM3 := hid (show (ln + 1) * 24 ≤ 140737488355328 by omega)
    obtain ⟨i3, hi3, hz3, hy3, hx3⟩ := info_parts info_int
    obtain ⟨i30, hi30, hz30, hy30, hx30⟩ := info_parts info_ints
    have hln1 : ln + (m + 1) ≤ n2 := hl2
    have HLM := hid hln1
    clear hw ih hT hln HL HX H2 hn2 hd hse hfs hM1 hn H hM hx hgn HG hl2 hln1 ht
    go_enter Tryd.func64, Tryd.ntmps64
    go_wp2
    go_loopw [14] (fun s14 wr => ∃ i : Nat, i ≤ n2 ∧ f ≤ i ∧ s14 = .int .i64 i ∧ Below w.heap.size w wr ∧ Hid ((List.range' i (n2 - m - i)).findSome? fs = (List.range' f (n2 - m - f)).findSome? fs)) (fun i _ => n2 - (intOf i).toNat)
    case atStart => exact ⟨f, hf, Nat.le_refl _, rfl, Below.refl _ _, hid rfl⟩
    case round =>
      obtain ⟨i, hin, hfi, rfl, hbr, HH⟩ := hrel
      have cS := (boxed_below HSB.out hbr).cell
      have q0 : IntKind.i64.wrap ((i : Int) + (M1 : Int)) = ((i + M1 : Nat) : Int) := by push_cast; exact IntWalk.i64_in _ (by omega)
      by_cases hlt : i + M1 ≤ n2
      · have hil : i < n2 := by have := HMM.out; omega
        have HWr := hid (HW.out.grow hbr)
        obtain ⟨b, off, ra, rn, rc, e2, hbs, hcx, hrn, hrm, hri⟩ := HR2.out i (by rw [HN2.out]; exact hil)
        subst e2
        have HS := hid (fun (W : World) (hk : Keep (fun k => k ≠ fb) wr W) => show W.cell? ⟨cb, 0, none⟩ = some (.func (.func 64) #[] #[.pointer (some ⟨mb, 0, none⟩), .pointer (some ⟨gb, 0, none⟩), .pointer (some ⟨fb, 0, none⟩), .pointer (some ⟨sb, 0, none⟩), .pointer (some ⟨cb, 0, none⟩)]) ∧ W.cell? ⟨sb, 0, none⟩ = some (.slice (some ⟨b, off, none⟩) n2 cap2) ∧ W.cell? ⟨b, off + i, none⟩ = some (.slice ra rn rc) from by
          obtain ⟨d0, d1, d2, d3, d4⟩ := HD.out
          refine ⟨hk.cell HWr.out.hc.cell d4, hk.cell HWr.out.hs.cell d3, hk.cell ((HWr.out.below.cell (p := ⟨b, off + i, none⟩) hbs).trans hcx) (by omega)⟩)
        have hLx : L[i]?.getD [] = L[i]'(by rw [HN2.out]; exact hil) := by rw [List.getElem?_eq_getElem]; rfl
        obtain ⟨xs, hXS, hnews, hnone⟩ := heads_of_rows (HXR.out.below hbr)
        have hsl : (selL L T).length = ln := by simp [selL, HLN.out]
        have HLL := hid (show ((T.map fun i : Nat => (i : Int)).map (Value.int .i64)).length = ln * 1 by simp [HLN.out])
        have HLX := hid (show xs.length = ln * 1 by rw [hXS.1, hsl]; omega)
        have HNL := hid (show al = none → ln = 0 ∧ ln = 0 from fun h => by have := ints_none HLI.out h; rw [List.length_map, HLN.out] at this; exact ⟨this, this⟩)
        have HNX := hid (show ax = none → ln = 0 ∧ ln = 0 from fun h => by have := hnone h; rw [hsl] at this; exact ⟨this, this⟩)
        have HOL := hid (fun (W : World) (hb : Below wr.heap.size wr W) => ints_news (HLI.out.below (chain hbr hb)))
        have HOX := hid (fun (W : World) (hb : Below wr.heap.size wr W) (ad : Addr) (e : ax = some ad) (j : Nat) (u : Value) (hu : xs[j]? = some u) => show W.cell? (ad.add j) = some u from (hb.cell (p := ad.add j) (cell_in (hnews ad e j u hu))).trans (hnews ad e j u hu))
        obtain ⟨sr, hsr⟩ : ∃ sr, sr = searchL n2 (clF M L) m (i + 1) (T ++ [i]) := ⟨_, rfl⟩
        have HSR := hid hsr
        have HRI := hid (And.intro hrn (And.intro hrm hri))
        have HXS := hid hXS
        have FIN := hid (fun (W : World) (bl bx : Nat) (la xa : Option Addr) (lc' xc' : Nat) (hb : Below wr.heap.size wr W) (ol : W.ownsRow bl 3 1 (.slice la (ln + 1) lc') (ln + 1) ((T.map fun i : Nat => (i : Int)).map (Value.int .i64) ++ [.int .i64 (i : Int)])) (ox : W.ownsRow bx 30 1 (.slice xa (ln + 1) xc') (ln + 1) (xs ++ [.slice ra rn rc])) =>
          show Calls Tryd.prog 64 #[.int .i64 ((i : Int) + 1), .int .i64 m, .slice la (ln + 1) lc', .slice xa (ln + 1) xc', .pointer (some ⟨mb, 0, none⟩), .pointer (some ⟨gb, 0, none⟩), .pointer (some ⟨fb, 0, none⟩), .pointer (some ⟨sb, 0, none⟩), .pointer (some ⟨cb, 0, none⟩)] W fun e w' => e = .returned (.bool sr.isSome) ∧ ChPost fb (T ++ [i]) sr W w' from by
            have ol2 : W.ownsRow bl 3 1 (.slice la (ln + 1) lc') (ln + 1) (((T ++ [i]).map fun i : Nat => (i : Int)).map (Value.int .i64)) := by simpa using ol
            obtain ⟨la', lc2, e, hI⟩ := ints_own ol2 (by simp [HLN.out])
            cases e
            have hvv : HeadV W (xs ++ [.slice ra rn rc]) (selL L (T ++ [i])) := by
              rw [selL_snoc, hLx]
              exact (HXS.out.below hb).append (HeadV.one HRI.out.1 HRI.out.2.1 (HRI.out.2.2.below (chain HWr.out.below hb)))
            have := HI.out (i + 1) (T ++ [i]) W la xa (ln + 1) lc' xc' (HWr.out.grow hb) (by
              intro k hk
              rcases List.mem_append.1 hk with hk | hk
              · exact HT.out k hk
              · simp at hk; omega) (by simp [HLN.out]) (by have := HLM.out; omega) (by omega) (own_cap ol2) (own_cap ox) hI (rows_of_own ox hvv (by simp [selL, HLN.out]))
            rw [← HSR.out] at this
            exact_mod_cast this)
        have HBR := hid hbr
        have HDC := hid (show decide ((i : Int) + (M1 : Int) ≤ (n2 : Int)) = true by simp; omega)
        clear hsr hrn hrm hri hXS hnews hnone hsl hLx hcx
        go_wp2
        have q4 : IntKind.i64.wrap ((M1 : Int) - 1) = (m : Int) := by rw [HMM.out, show ((m + 1 : Nat) : Int) - 1 = (m : Int) by omega]; exact IntWalk.i64_in (m : Int) (by have := HMM.out; omega)
        refine region_cut (fun fr fr' W => ∃ v45 v46 v57 v58, fr' = (((((((((((((((((((((((((((fr.put (some 33) (.func (.func 64) #[] #[.pointer (some ⟨mb, 0, none⟩), .pointer (some ⟨gb, 0, none⟩), .pointer (some ⟨fb, 0, none⟩), .pointer (some ⟨sb, 0, none⟩), .pointer (some ⟨cb, 0, none⟩)])).put (some 34) (.int .i64 i)).put (some 35) (.int .i64 ((i : Int) + 1))).put (some 36) (.int .i64 M1)).put (some 37) (.int .i64 m)).put (some 38) (.slice al ln lc)).put (some 39) (.slice al ln lc)).put (some 40) (.int .i64 ln)).put (some 41) (.slice al ln lc)).put (some 42) (.int .i64 ln)).put (some 43) (.slice al ln ln)).put (some 44) (.int .i64 i)).put (some 45) v45).put (some 46) v46).put (some 47) (.slice ax ln xc)).put (some 48) (.slice ax ln xc)).put (some 49) (.int .i64 ln)).put (some 50) (.slice ax ln xc)).put (some 51) (.int .i64 ln)).put (some 52) (.slice ax ln ln)).put (some 53) (.slice (some ⟨b, off, none⟩) n2 cap2)).put (some 54) (.int .i64 i)).put (some 55) (.pointer (some ⟨b, off + i, none⟩))).put (some 56) (.slice ra rn rc)).put (some 57) v57).put (some 58) v58).put (some 59) (.bool sr.isSome)) ∧ ChPost fb (T ++ [i]) sr wr W) ?_ ?_
        · refine plain_region (fun j' X => wAll j' = true → (X.cell? ⟨cb, 0, none⟩ = some (.func (.func 64) #[] #[.pointer (some ⟨mb, 0, none⟩), .pointer (some ⟨gb, 0, none⟩), .pointer (some ⟨fb, 0, none⟩), .pointer (some ⟨sb, 0, none⟩), .pointer (some ⟨cb, 0, none⟩)]) ∧ X.cell? ⟨sb, 0, none⟩ = some (.slice (some ⟨b, off, none⟩) n2 cap2) ∧ X.cell? ⟨b, off + i, none⟩ = some (.slice ra rn rc))) (by kernel_rfl) ?_
          have hb0 : Below wr.heap.size wr wr.drew := (Below.refl _ _).drew
          generalize wr.drew = wd at hb0 ⊢
          have q1 := IntWalk.i64_in ((i : Int) + 1) (by omega)
          refine AnyT.takeD (i := 0) (v := .func (.func 64) #[] #[.pointer (some ⟨mb, 0, none⟩), .pointer (some ⟨gb, 0, none⟩), .pointer (some ⟨fb, 0, none⟩), .pointer (some ⟨sb, 0, none⟩), .pointer (some ⟨cb, 0, none⟩)]) rfl rfl (by kernel_rfl) (by kernel_rfl) (by kernel_rfl) (by first | exact (fun _ _ _ h => h) | exact (fun _ _ _ h => absurd h.1 (by simp))) (by kernel_rfl) (by rfl) (by rintro w' ⟨q6, q7, q8⟩; go_simp) (HS.out _ (Keep.of_below hb0)) ?_; go_frame
          refine AnyT.takeD (i := 1) (v := .int .i64 i) rfl rfl (by kernel_rfl) (by kernel_rfl) (by kernel_rfl) (by first | exact (fun _ _ _ h => h) | exact (fun _ _ _ h => absurd h.1 (by simp))) (by kernel_rfl) (by rfl) (by rintro w' ⟨q6, q7, q8⟩; go_simp) (HS.out _ (Keep.of_below hb0)) ?_; go_frame
          refine AnyT.takeD (i := 2) (v := .int .i64 ((i : Int) + 1)) rfl rfl (by kernel_rfl) (by kernel_rfl) (by kernel_rfl) (by first | exact (fun _ _ _ h => h) | exact (fun _ _ _ h => absurd h.1 (by simp))) (by kernel_rfl) (by rfl) (by rintro w' ⟨q6, q7, q8⟩; go_simp) (HS.out _ (Keep.of_below hb0)) ?_; go_frame
          refine AnyT.takeD (i := 3) (v := .int .i64 M1) rfl rfl (by kernel_rfl) (by kernel_rfl) (by kernel_rfl) (by first | exact (fun _ _ _ h => h) | exact (fun _ _ _ h => absurd h.1 (by simp))) (by kernel_rfl) (by rfl) (by rintro w' ⟨q6, q7, q8⟩; go_simp) (HS.out _ (Keep.of_below hb0)) ?_; go_frame
          refine AnyT.takeD (i := 4) (v := .int .i64 m) rfl rfl (by kernel_rfl) (by kernel_rfl) (by kernel_rfl) (by first | exact (fun _ _ _ h => h) | exact (fun _ _ _ h => absurd h.1 (by simp))) (by kernel_rfl) (by rfl) (by rintro w' ⟨q6, q7, q8⟩; go_simp) (HS.out _ (Keep.of_below hb0)) ?_; go_frame
          refine AnyT.takeD (i := 5) (v := .slice al ln lc) rfl rfl (by kernel_rfl) (by kernel_rfl) (by kernel_rfl) (by first | exact (fun _ _ _ h => h) | exact (fun _ _ _ h => absurd h.1 (by simp))) (by kernel_rfl) (by rfl) (by rintro w' ⟨q6, q7, q8⟩; go_simp) (HS.out _ (Keep.of_below hb0)) ?_; go_frame
          refine AnyT.takeD (i := 6) (v := .slice al ln lc) rfl rfl (by kernel_rfl) (by kernel_rfl) (by kernel_rfl) (by first | exact (fun _ _ _ h => h) | exact (fun _ _ _ h => absurd h.1 (by simp))) (by kernel_rfl) (by rfl) (by rintro w' ⟨q6, q7, q8⟩; go_simp) (HS.out _ (Keep.of_below hb0)) ?_; go_frame
          refine AnyT.takeD (i := 7) (v := .int .i64 ln) rfl rfl (by kernel_rfl) (by kernel_rfl) (by kernel_rfl) (by first | exact (fun _ _ _ h => h) | exact (fun _ _ _ h => absurd h.1 (by simp))) (by kernel_rfl) (by rfl) (by rintro w' ⟨q6, q7, q8⟩; go_simp) (HS.out _ (Keep.of_below hb0)) ?_; go_frame
          refine AnyT.takeD (i := 8) (v := .slice al ln lc) rfl rfl (by kernel_rfl) (by kernel_rfl) (by kernel_rfl) (by first | exact (fun _ _ _ h => h) | exact (fun _ _ _ h => absurd h.1 (by simp))) (by kernel_rfl) (by rfl) (by rintro w' ⟨q6, q7, q8⟩; go_simp) (HS.out _ (Keep.of_below hb0)) ?_; go_frame
          refine AnyT.takeD (i := 9) (v := .int .i64 ln) rfl rfl (by kernel_rfl) (by kernel_rfl) (by kernel_rfl) (by first | exact (fun _ _ _ h => h) | exact (fun _ _ _ h => absurd h.1 (by simp))) (by kernel_rfl) (by rfl) (by rintro w' ⟨q6, q7, q8⟩; go_simp) (HS.out _ (Keep.of_below hb0)) ?_; go_frame
          refine AnyT.takeD (i := 10) (v := .slice al ln ln) rfl rfl (by kernel_rfl) (by kernel_rfl) (by kernel_rfl) (by first | exact (fun _ _ _ h => h) | exact (fun _ _ _ h => absurd h.1 (by simp))) (by kernel_rfl) (by rfl) (by rintro w' ⟨q6, q7, q8⟩; go_simp) (HS.out _ (Keep.of_below hb0)) ?_; go_frame
          refine AnyT.takeD (i := 11) (v := .int .i64 i) rfl rfl (by kernel_rfl) (by kernel_rfl) (by kernel_rfl) (by first | exact (fun _ _ _ h => h) | exact (fun _ _ _ h => absurd h.1 (by simp))) (by kernel_rfl) (by rfl) (by rintro w' ⟨q6, q7, q8⟩; go_simp) (HS.out _ (Keep.of_below hb0)) ?_; go_frame
          refine AnyT.takeD (i := 14) (v := .slice ax ln xc) rfl rfl (by kernel_rfl) (by kernel_rfl) (by kernel_rfl) (by first | exact (fun _ _ _ h => h) | exact (fun _ _ _ h => absurd h.1 (by simp))) (by kernel_rfl) (by rfl) (by rintro w' ⟨q6, q7, q8⟩; go_simp) (HS.out _ (Keep.of_below hb0)) ?_; go_frame
          refine AnyT.takeD (i := 15) (v := .slice ax ln xc) rfl rfl (by kernel_rfl) (by kernel_rfl) (by kernel_rfl) (by first | exact (fun _ _ _ h => h) | exact (fun _ _ _ h => absurd h.1 (by simp))) (by kernel_rfl) (by rfl) (by rintro w' ⟨q6, q7, q8⟩; go_simp) (HS.out _ (Keep.of_below hb0)) ?_; go_frame
          refine AnyT.takeD (i := 16) (v := .int .i64 ln) rfl rfl (by kernel_rfl) (by kernel_rfl) (by kernel_rfl) (by first | exact (fun _ _ _ h => h) | exact (fun _ _ _ h => absurd h.1 (by simp))) (by kernel_rfl) (by rfl) (by rintro w' ⟨q6, q7, q8⟩; go_simp) (HS.out _ (Keep.of_below hb0)) ?_; go_frame
          refine AnyT.takeD (i := 17) (v := .slice ax ln xc) rfl rfl (by kernel_rfl) (by kernel_rfl) (by kernel_rfl) (by first | exact (fun _ _ _ h => h) | exact (fun _ _ _ h => absurd h.1 (by simp))) (by kernel_rfl) (by rfl) (by rintro w' ⟨q6, q7, q8⟩; go_simp) (HS.out _ (Keep.of_below hb0)) ?_; go_frame
          refine AnyT.takeD (i := 18) (v := .int .i64 ln) rfl rfl (by kernel_rfl) (by kernel_rfl) (by kernel_rfl) (by first | exact (fun _ _ _ h => h) | exact (fun _ _ _ h => absurd h.1 (by simp))) (by kernel_rfl) (by rfl) (by rintro w' ⟨q6, q7, q8⟩; go_simp) (HS.out _ (Keep.of_below hb0)) ?_; go_frame
          refine AnyT.takeD (i := 19) (v := .slice ax ln ln) rfl rfl (by kernel_rfl) (by kernel_rfl) (by kernel_rfl) (by first | exact (fun _ _ _ h => h) | exact (fun _ _ _ h => absurd h.1 (by simp))) (by kernel_rfl) (by rfl) (by rintro w' ⟨q6, q7, q8⟩; go_simp) (HS.out _ (Keep.of_below hb0)) ?_; go_frame
          refine AnyT.takeD (i := 20) (v := .slice (some ⟨b, off, none⟩) n2 cap2) rfl rfl (by kernel_rfl) (by kernel_rfl) (by kernel_rfl) (by first | exact (fun _ _ _ h => h) | exact (fun _ _ _ h => absurd h.1 (by simp))) (by kernel_rfl) (by rfl) (by rintro w' ⟨q6, q7, q8⟩; go_simp) (HS.out _ (Keep.of_below hb0)) ?_; go_frame
          refine AnyT.takeD (i := 21) (v := .int .i64 i) rfl rfl (by kernel_rfl) (by kernel_rfl) (by kernel_rfl) (by first | exact (fun _ _ _ h => h) | exact (fun _ _ _ h => absurd h.1 (by simp))) (by kernel_rfl) (by rfl) (by rintro w' ⟨q6, q7, q8⟩; go_simp) (HS.out _ (Keep.of_below hb0)) ?_; go_frame
          refine AnyT.takeD (i := 22) (v := .pointer (some ⟨b, off + i, none⟩)) rfl rfl (by kernel_rfl) (by kernel_rfl) (by kernel_rfl) (by first | exact (fun _ _ _ h => h) | exact (fun _ _ _ h => absurd h.1 (by simp))) (by kernel_rfl) (by rfl) (by rintro w' ⟨q6, q7, q8⟩; go_simp) (HS.out _ (Keep.of_below hb0)) ?_; go_frame
          refine AnyT.takeD (i := 23) (v := .slice ra rn rc) rfl rfl (by kernel_rfl) (by kernel_rfl) (by kernel_rfl) (by first | exact (fun _ _ _ h => h) | exact (fun _ _ _ h => absurd h.1 (by simp))) (by kernel_rfl) (by rfl) (by rintro w' ⟨q6, q7, q8⟩; go_simp) (HS.out _ (Keep.of_below hb0)) ?_; go_frame
          clear q0 q1 q4
          refine AnyT.next2 (i := 12) (j := 24) (by kernel_rfl) (wpOp_of_list rfl ?_) (wpOp_of_list rfl ?_)
          · go_wp2
            have hr1 : Below wd.heap.size wd (wd.alloc (.cells #[.int .i64 (i : Int)] 3)) := (Below.refl _ _).alloc (Nat.le_refl _) _
            have hln1 := one_news wd (.int .i64 (i : Int)) 3
            obtain ⟨lnb1, eln1⟩ : ∃ q, q = wd.heap.size := ⟨_, rfl⟩
            rw [← eln1] at hln1
            rw [← eln1]
            generalize wd.alloc (.cells #[.int .i64 (i : Int)] 3) = w1 at hr1 hln1 ⊢
            clear eln1
            have hb1 := chain hb0 hr1
            refine ⟨fun _ => HS.out _ (Keep.of_below hb1), ?_⟩
            refine AnyT.next2 (i := 13) (j := 24) (by kernel_rfl) (wpOp_of_list rfl ?_) (wpOp_of_list rfl ?_)
            · refine wpList_append_grows _ rfl (.tmp 43) (.tmp 45) 30 rfl 3 i3 (.int .i64 0) 1 8 Tryd.underlying30 hi3 hz3 hy3 hx3 rfl Nat.one_pos al ln ln ((T.map fun i : Nat => (i : Int)).map (Value.int .i64)) rfl HNL.out HLL.out (HOL.out _ hb1) ⟨lnb1, 0, none⟩ 1 1 [.int .i64 (i : Int)] rfl rfl (hln1 _ rfl) (ints_oneCell .i64 [(i : Int)]) (Nat.lt_succ_self _) HM1.out HM2.out ?_
              intro v2 w2 own2 g2
              have hr2 : Below w1.heap.size w1 w2 := (Below.refl _ _).grown g2 (Nat.le_refl _) (fun k hk => by cases hk)
              obtain ⟨va2, vc2, rfl⟩ := ownsRow_slice own2
              have hln2t := news_below hln1 hr2
              have hb2 := chain hb1 hr2
              refine ⟨fun _ => HS.out _ (Keep.of_below hb2), ?_⟩
              refine AnyT.next (i := 24) (by kernel_rfl) rfl (wpOp_of_list rfl ?_)
              go_wp2
              have hr3 : Below w2.heap.size w2 (w2.alloc (.cells #[.slice ra rn rc] 30)) := (Below.refl _ _).alloc (Nat.le_refl _) _
              have hxn3 := one_news w2 (.slice ra rn rc) 30
              obtain ⟨xnb3, exn3⟩ : ∃ q, q = w2.heap.size := ⟨_, rfl⟩
              rw [← exn3] at hxn3
              rw [← exn3]
              generalize w2.alloc (.cells #[.slice ra rn rc] 30) = w3 at hr3 hxn3 ⊢
              clear exn3
              have hln3t := news_below hln2t hr3
              have hl3t := own_below own2 hr3
              have hb3 := chain hb2 hr3
              refine ⟨fun _ => HS.out _ (Keep.of_below hb3), ?_⟩
              refine AnyT.next (i := 25) (by kernel_rfl) rfl (wpOp_of_list rfl ?_)
              refine wpList_append_grows _ rfl (.tmp 52) (.tmp 57) 22 rfl 30 i30 (.slice none 0 0) 1 24 Tryd.underlying22 hi30 hz30 hy30 hx30 rfl Nat.one_pos ax ln ln xs rfl HNX.out HLX.out (HOX.out _ hb3) ⟨xnb3, 0, none⟩ 1 1 [.slice ra rn rc] rfl rfl (hxn3 _ rfl) (slice_oneCell _ _ _) (Nat.lt_succ_self _) HM1.out HM3.out ?_
              intro v4 w4 own4 g4
              have hr4 : Below w3.heap.size w3 w4 := (Below.refl _ _).grown g4 (Nat.le_refl _) (fun k hk => by cases hk)
              obtain ⟨va4, vc4, rfl⟩ := ownsRow_slice own4
              have hln4t := news_below hln3t hr4
              have hl4t := own_below hl3t hr4
              have hxn4t := news_below hxn3 hr4
              have hb4 := chain hb3 hr4
              refine ⟨fun _ => HS.out _ (Keep.of_below hb4), ?_⟩
              refine AnyT.next (i := 26) (by kernel_rfl) rfl (wpOp_of_list rfl ?_)
              go_wp2_with (refine (FIN.out _ _ _ _ _ _ _ hb4 hl4t own4).mono ?_; rintro e w9 ⟨rfl, hp9⟩)
              exact ⟨fun _ => HS.out _ ((Keep.of_below hb4).trans hp9.keep), by kernel_rfl, rfl, .slice (some ⟨lnb1, 0, none⟩) 1 1, .slice va2 (ln + 1) vc2, .slice (some ⟨xnb3, 0, none⟩) 1 1, .slice va4 (ln + 1) vc4, (by rw [HDC.out]), hp9.pre hb4⟩
            · go_wp2
              have hr2 : Below w1.heap.size w1 (w1.alloc (.cells #[.slice ra rn rc] 30)) := (Below.refl _ _).alloc (Nat.le_refl _) _
              have hxn2 := one_news w1 (.slice ra rn rc) 30
              obtain ⟨xnb2, exn2⟩ : ∃ q, q = w1.heap.size := ⟨_, rfl⟩
              rw [← exn2] at hxn2
              rw [← exn2]
              generalize w1.alloc (.cells #[.slice ra rn rc] 30) = w2 at hr2 hxn2 ⊢
              clear exn2
              have hln2t := news_below hln1 hr2
              have hb2 := chain hb1 hr2
              refine ⟨fun _ => HS.out _ (Keep.of_below hb2), ?_⟩
              refine AnyT.next (i := 13) (by kernel_rfl) rfl (wpOp_of_list rfl ?_)
              refine wpList_append_grows _ rfl (.tmp 43) (.tmp 45) 30 rfl 3 i3 (.int .i64 0) 1 8 Tryd.underlying30 hi3 hz3 hy3 hx3 rfl Nat.one_pos al ln ln ((T.map fun i : Nat => (i : Int)).map (Value.int .i64)) rfl HNL.out HLL.out (HOL.out _ hb2) ⟨lnb1, 0, none⟩ 1 1 [.int .i64 (i : Int)] rfl rfl (hln2t _ rfl) (ints_oneCell .i64 [(i : Int)]) (Nat.lt_succ_self _) HM1.out HM2.out ?_
              intro v3 w3 own3 g3
              have hr3 : Below w2.heap.size w2 w3 := (Below.refl _ _).grown g3 (Nat.le_refl _) (fun k hk => by cases hk)
              obtain ⟨va3, vc3, rfl⟩ := ownsRow_slice own3
              have hln3t := news_below hln2t hr3
              have hxn3t := news_below hxn2 hr3
              have hb3 := chain hb2 hr3
              refine ⟨fun _ => HS.out _ (Keep.of_below hb3), ?_⟩
              refine AnyT.next (i := 25) (by kernel_rfl) rfl (wpOp_of_list rfl ?_)
              refine wpList_append_grows _ rfl (.tmp 52) (.tmp 57) 22 rfl 30 i30 (.slice none 0 0) 1 24 Tryd.underlying22 hi30 hz30 hy30 hx30 rfl Nat.one_pos ax ln ln xs rfl HNX.out HLX.out (HOX.out _ hb3) ⟨xnb2, 0, none⟩ 1 1 [.slice ra rn rc] rfl rfl (hxn3t _ rfl) (slice_oneCell _ _ _) (Nat.lt_succ_self _) HM1.out HM3.out ?_
              intro v4 w4 own4 g4
              have hr4 : Below w3.heap.size w3 w4 := (Below.refl _ _).grown g4 (Nat.le_refl _) (fun k hk => by cases hk)
              obtain ⟨va4, vc4, rfl⟩ := ownsRow_slice own4
              have hln4t := news_below hln3t hr4
              have hxn4t := news_below hxn3t hr4
              have hl4t := own_below own3 hr4
              have hb4 := chain hb3 hr4
              refine ⟨fun _ => HS.out _ (Keep.of_below hb4), ?_⟩
              refine AnyT.next (i := 26) (by kernel_rfl) rfl (wpOp_of_list rfl ?_)
              go_wp2_with (refine (FIN.out _ _ _ _ _ _ _ hb4 hl4t own4).mono ?_; rintro e w9 ⟨rfl, hp9⟩)
              exact ⟨fun _ => HS.out _ ((Keep.of_below hb4).trans hp9.keep), by kernel_rfl, rfl, .slice (some ⟨lnb1, 0, none⟩) 1 1, .slice va3 (ln + 1) vc3, .slice (some ⟨xnb2, 0, none⟩) 1 1, .slice va4 (ln + 1) vc4, (by rw [HDC.out]), hp9.pre hb4⟩
          · go_wp2
            have hr1 : Below wd.heap.size wd (wd.alloc (.cells #[.slice ra rn rc] 30)) := (Below.refl _ _).alloc (Nat.le_refl _) _
            have hxn1 := one_news wd (.slice ra rn rc) 30
            obtain ⟨xnb1, exn1⟩ : ∃ q, q = wd.heap.size := ⟨_, rfl⟩
            rw [← exn1] at hxn1
            rw [← exn1]
            generalize wd.alloc (.cells #[.slice ra rn rc] 30) = w1 at hr1 hxn1 ⊢
            clear exn1
            have hb1 := chain hb0 hr1
            refine ⟨fun _ => HS.out _ (Keep.of_below hb1), ?_⟩
            refine AnyT.next (i := 12) (by kernel_rfl) rfl (wpOp_of_list rfl ?_)
            go_wp2
            have hr2 : Below w1.heap.size w1 (w1.alloc (.cells #[.int .i64 (i : Int)] 3)) := (Below.refl _ _).alloc (Nat.le_refl _) _
            have hln2 := one_news w1 (.int .i64 (i : Int)) 3
            obtain ⟨lnb2, eln2⟩ : ∃ q, q = w1.heap.size := ⟨_, rfl⟩
            rw [← eln2] at hln2
            rw [← eln2]
            generalize w1.alloc (.cells #[.int .i64 (i : Int)] 3) = w2 at hr2 hln2 ⊢
            clear eln2
            have hxn2t := news_below hxn1 hr2
            have hb2 := chain hb1 hr2
            refine ⟨fun _ => HS.out _ (Keep.of_below hb2), ?_⟩
            refine AnyT.next (i := 13) (by kernel_rfl) rfl (wpOp_of_list rfl ?_)
            refine wpList_append_grows _ rfl (.tmp 43) (.tmp 45) 30 rfl 3 i3 (.int .i64 0) 1 8 Tryd.underlying30 hi3 hz3 hy3 hx3 rfl Nat.one_pos al ln ln ((T.map fun i : Nat => (i : Int)).map (Value.int .i64)) rfl HNL.out HLL.out (HOL.out _ hb2) ⟨lnb2, 0, none⟩ 1 1 [.int .i64 (i : Int)] rfl rfl (hln2 _ rfl) (ints_oneCell .i64 [(i : Int)]) (Nat.lt_succ_self _) HM1.out HM2.out ?_
            intro v3 w3 own3 g3
            have hr3 : Below w2.heap.size w2 w3 := (Below.refl _ _).grown g3 (Nat.le_refl _) (fun k hk => by cases hk)
            obtain ⟨va3, vc3, rfl⟩ := ownsRow_slice own3
            have hxn3t := news_below hxn2t hr3
            have hln3t := news_below hln2 hr3
            have hb3 := chain hb2 hr3
            refine ⟨fun _ => HS.out _ (Keep.of_below hb3), ?_⟩
            refine AnyT.next (i := 25) (by kernel_rfl) rfl (wpOp_of_list rfl ?_)
            refine wpList_append_grows _ rfl (.tmp 52) (.tmp 57) 22 rfl 30 i30 (.slice none 0 0) 1 24 Tryd.underlying22 hi30 hz30 hy30 hx30 rfl Nat.one_pos ax ln ln xs rfl HNX.out HLX.out (HOX.out _ hb3) ⟨xnb1, 0, none⟩ 1 1 [.slice ra rn rc] rfl rfl (hxn3t _ rfl) (slice_oneCell _ _ _) (Nat.lt_succ_self _) HM1.out HM3.out ?_
            intro v4 w4 own4 g4
            have hr4 : Below w3.heap.size w3 w4 := (Below.refl _ _).grown g4 (Nat.le_refl _) (fun k hk => by cases hk)
            obtain ⟨va4, vc4, rfl⟩ := ownsRow_slice own4
            have hxn4t := news_below hxn3t hr4
            have hln4t := news_below hln3t hr4
            have hl4t := own_below own3 hr4
            have hb4 := chain hb3 hr4
            refine ⟨fun _ => HS.out _ (Keep.of_below hb4), ?_⟩
            refine AnyT.next (i := 26) (by kernel_rfl) rfl (wpOp_of_list rfl ?_)
            go_wp2_with (refine (FIN.out _ _ _ _ _ _ _ hb4 hl4t own4).mono ?_; rintro e w9 ⟨rfl, hp9⟩)
            exact ⟨fun _ => HS.out _ ((Keep.of_below hb4).trans hp9.keep), by kernel_rfl, rfl, .slice (some ⟨lnb2, 0, none⟩) 1 1, .slice va3 (ln + 1) vc3, .slice (some ⟨xnb1, 0, none⟩) 1 1, .slice va4 (ln + 1) vc4, (by rw [HDC.out]), hp9.pre hb4⟩
        · rintro fr' w7 ⟨v45, v46, v57, v58, rfl, hp7⟩
          have HP7 := hid hp7
          have hss := congrArg (fun f => f i) HFS.out
          simp only [] at hss
          rw [← HSR.out] at hss
          have hrange : List.range' i (n2 - m - i) = i :: List.range' (i + 1) (n2 - m - (i + 1)) := by
            rw [show n2 - m - i = (n2 - m - (i + 1)) + 1 by have := HMM.out; omega, List.range'_succ]
          have hfind := HH.out
          rw [hrange, List.findSome?_cons, hss] at hfind
          have HFD := hid hfind
          clear hfind hss hrange hp7 q0 q4
          go_frame
          cases hsr : sr with
          | some t0 =>
            rw [hsr] at HP7 HFD
            simp only [Option.isSome_some]
            go_wp2
            have hq : searchL n2 (clF M L) M1 f T = some (i :: t0) := by rw [HMM.out, HSE.out, ← HFD.out]; rfl
            rw [hq]
            refine bodyPost_ret (v := .bool true) (by simp [results, Tryd.results64, go_sem]) rfl ⟨rfl, ?_⟩
            have h7 := HP7.out.pre HBR.out
            obtain ⟨k1, va, vc, k2, k3⟩ := h7
            exact ⟨k1, va, vc, by simpa using k2, by simpa using k3⟩
          | none =>
            rw [hsr] at HP7 HFD
            simp only [Option.isSome_none]
            have q5 := IntWalk.i64_in ((i : Int) + 1) (by omega)
            go_wp2
            exact ⟨⟨i + 1, by omega, by omega, by go_num, chain HBR.out HP7.out, hid HFD.out⟩, by simp [intOf]; omega⟩
      · have q1 : decide (((i + M1 : Nat) : Int) ≤ (n2 : Int)) = false := by simp; omega
        go_wp2
        have hq : searchL n2 (clF M L) M1 f T = none := by
          rw [HMM.out, HSE.out, ← HH.out, show n2 - m - i = 0 by have := HMM.out; omega]; rfl
        rw [hq]
        refine bodyPost_ret (v := .bool false) (by simp [results, Tryd.results64, go_sem]) rfl ⟨rfl, ?_⟩
        exact hbr
end Go.Proofs.YthaampmdponhbaaDoor

namespace Go.Proofs.YthaampmdponhbaaDoor
open Go.RowKit Go.Maps
set_option linter.unusedVariables false

def fewL (M : Mask) (L : List (List Int)) : List Int := if listedE M L = 0 then (fewF M L).map (fun i : Nat => (i : Int)) else []
theorem fewL_len {M : Mask} {L : List (List Int)} : (fewL M L).length ≤ 12 := by
  unfold fewL
  split
  · rename_i h
    have h1 := (few_law M L).2.1
    have h2 := (picsB_iff (listedE_ok h).2).1
    rw [List.length_map]; omega
  · simp

set_option maxRecDepth 100000 in
set_option maxHeartbeats 8000000 in
theorem Fewest_c (w : World) (ht : Tab w) (a : Option Addr) (n cap : Nat) (M : Mask) (hn : M.length = n) (hm : n ≤ maxLen) (H : RowsAt w a M) (a2 : Option Addr) (n2 cap2 : Nat) (L : List (List Int)) (hn2 : L.length = n2) (hm2 : n2 ≤ maxLen) (H2 : RowsAt w a2 L) :
    Calls Tryd.prog 36 #[.slice a n cap, .slice a2 n2 cap2] w fun e w' => ∃ va vn vc, e = .returned (.tuple #[.slice va vn vc, .int .i64 (listedE M L)]) ∧ (fewL M L).length = vn ∧ vn ≤ maxLen ∧ IntsAt w' va (fewL M L) ∧ Below w.heap.size w w' := by
  obtain ⟨wf, hwf⟩ : ∃ wf, wf = (w.alloc (.cells #[.slice a n cap] 23)).alloc (.cells #[.slice a2 n2 cap2] 22) := ⟨_, rfl⟩
  have hsz : wf.heap.size = w.heap.size + 2 := by rw [hwf]; simp
  have hb0 : Below w.heap.size w wf := by rw [hwf]; exact (((Below.refl _ w).alloc (Nat.le_refl _) _).alloc (by simp) _)
  have hB0 : Boxed wf w.heap.size 23 (.slice a n cap) := by rw [hwf]; exact (Boxed.new w 23 _).alloc _
  have hB1 : Boxed wf (w.heap.size + 1) 22 (.slice a2 n2 cap2) := by
    rw [hwf]
    have := (Boxed.new (w.alloc (.cells #[.slice a n cap] 23)) 22 (.slice a2 n2 cap2))
    rwa [World.size_alloc] at this
  have HV := hid (flisted_c wf a n cap M hn hm (H.below hb0) a2 n2 cap2 L hn2 hm2 (H2.below hb0))
  have HB0 := hid hb0
  have HX0 := hid hB0
  have HX1 := hid hB1
  have HSZ := hid hsz
  have c0 := hB0.cell
  have c1 := hB1.cell
  by_cases h1 : listedE M L = 0
  · obtain ⟨h2, h3⟩ := listedE_ok h1
    obtain ⟨h4, h5⟩ := picsB_iff h3
    have HE := hid (show fewL M L = (fewF M L).map (fun i : Nat => (i : Int)) by unfold fewL; rw [if_pos h1])
    rw [h1] at HV ⊢
    have hn12 : n2 ≤ 12 := by omega
    have HA := hid (fun (W : World) (hb : Below wf.heap.size wf W) => classes_c W (ht.below (chain hb0 hb)) a n cap M hn (H.below (chain hb0 hb)) h2 a2 n2 cap2 L hn2 hn12 (H2.below (chain hb0 hb)) h5)
    have HCH := hid (fun (wA : World) (hb : Below wf.heap.size wf wA) (gb fb cb : Nat) (hd : wA.heap.size ≤ fb ∧ w.heap.size ≠ fb ∧ gb ≠ fb ∧ w.heap.size + 1 ≠ fb ∧ cb ≠ fb) (ga : Option Addr) (N gc : Nat) (hgn : (classF M L).length = N) (HG : IntsAt wA ga (classF M L)) => choose_c wA (ht.below (chain hb0 hb)) w.heap.size gb fb (w.heap.size + 1) cb hd a n cap M hn (H.below (chain hb0 hb)) h2 a2 n2 cap2 L hn2 hn12 (H2.below (chain hb0 hb)) h5 ga N gc hgn HG)
    have HN2 := hid hn2
    have HCL := hid (classF_length M L)
    clear h1 h2 h3 h4 h5 hn H hn2 H2 ht hB0 hB1 hsz hb0
    go_enter Tryd.func36, Tryd.ntmps36
    go_wp2_with fail
    rw [← hwf]
    go_wp2_with (go_at_call 42; refine HV.out.mono ?_; rintro e w1 ⟨rfl, hb1⟩; refine Stop.of ?_)
    refine Stop.go ?_
    have d0 := (boxed_below HX0.out hb1).cell
    have d1 := (boxed_below HX1.out hb1).cell
    go_wp2_with (go_at_call 43; refine (HA.out _ hb1).mono ?_; rintro e w2 ⟨v2, base2, rfl, hbase2, ho2, hb2⟩; refine Stop.of ?_)
    refine Stop.go ?_
    rw [← HCL.out] at ho2
    obtain ⟨ga, gc, rfl, hG⟩ := ints_own ho2 rfl
    obtain ⟨N, hN⟩ : ∃ N, N = (classF M L).length := ⟨_, rfl⟩
    rw [← hN]
    have hbw2 := chain hb1 hb2
    have e0 := (boxed_below HX0.out hbw2).cell
    have e1 := (boxed_below HX1.out hbw2).cell
    have HG := hid hG
    have HNN := hid hN
    have HBW2 := hid hbw2
    have fn : ∀ q0 q1 q2 q3 q4 : Nat, Value.func (.func 64) #[] #[.pointer (some ⟨q0, 0, none⟩), .pointer (some ⟨q1, 0, none⟩), .pointer (some ⟨q2, 0, none⟩), .pointer (some ⟨q3, 0, none⟩), .pointer (some ⟨q4, 0, none⟩)] = .func (.func 64) #[] (chLb q0 q1 q2 q3 q4) := fun _ _ _ _ _ => rfl
    have FNN := hid fn
    obtain ⟨w3, hw3⟩ : ∃ w3, w3 = ((w2.alloc (.cells #[.slice ga N gc] 30)).alloc (.cells #[.slice none 0 0] 30)).alloc (.cells #[.func (.func 64) #[] #[.pointer (some ⟨w.heap.size, 0, none⟩), .pointer (some ⟨w2.heap.size, 0, none⟩), .pointer (some ⟨w2.heap.size + 1, 0, none⟩), .pointer (some ⟨w.heap.size + 1, 0, none⟩), .pointer (some ⟨w2.heap.size + 1 + 1, 0, none⟩)]] 73) := ⟨_, rfl⟩
    have hz3 : w3.heap.size = w2.heap.size + 3 := by rw [hw3]; simp
    have hb3 : Below w2.heap.size w2 w3 := by rw [hw3]; exact ((((Below.refl _ w2).alloc (Nat.le_refl _) _).alloc (by simp) _).alloc (by simp; omega) _)
    have x1 : Boxed w3 w2.heap.size 30 (.slice ga N gc) := by rw [hw3]; exact ((Boxed.new w2 30 _).alloc _).alloc _
    have x2 : Boxed w3 (w2.heap.size + 1) 30 (.slice none 0 0) := by
      rw [hw3]
      have := Boxed.new (w2.alloc (.cells #[.slice ga N gc] 30)) 30 (.slice none 0 0)
      rw [World.size_alloc] at this
      exact this.alloc _
    have x3 : Boxed w3 (w2.heap.size + 1 + 1) 73 (.func (.func 64) #[] (chLb w.heap.size w2.heap.size (w2.heap.size + 1) (w.heap.size + 1) (w2.heap.size + 1 + 1))) := by
      rw [hw3]
      have := Boxed.new ((w2.alloc (.cells #[.slice ga N gc] 30)).alloc (.cells #[.slice none 0 0] 30)) 73 (.func (.func 64) #[] (chLb w.heap.size w2.heap.size (w2.heap.size + 1) (w.heap.size + 1) (w2.heap.size + 1 + 1)))
      rw [World.size_alloc, World.size_alloc] at this
      exact this
    have hbf3 := chain hbw2 hb3
    have hs2 : w.heap.size + 2 ≤ w2.heap.size := by have := hbw2.size; have := HSZ.out; omega
    have HCW := hid (show ChW w2 w.heap.size w2.heap.size (w2.heap.size + 1) (w.heap.size + 1) (w2.heap.size + 1 + 1) a n cap a2 n2 cap2 ga N gc w3 from ⟨hb3, boxed_below HX0.out hbf3, x1, boxed_below HX1.out hbf3, x3, _, x2⟩)
    have HCC := hid (HCH.out w2 hbw2 w2.heap.size (w2.heap.size + 1) (w2.heap.size + 1 + 1) ⟨by omega, by omega, by omega, by omega, by omega⟩ ga N gc hN.symm hG)
    have e3 := (boxed_below HX1.out hbf3).cell
    rw [hw3] at e3
    have HW3 := hid hw3
    have HB3 := hid hb3
    have HX2 := hid x2
    have HX3 := hid x3
    have HSS := hid hs2
    clear ho2 hG hN x1 x2 x3 hb3 hbf3 hw3 hbw2 hb1 hb2 hz3 fn c0 c1 d0 d1
    go_wp2
    rw [← HW3.out]
    clear e3 e0 e1
    have eg := enters_of Tryd.func64 (by kernel_rfl) rfl
    go_loopw [10, 24] (fun s10 s24 wr => ∃ k : Nat, k ≤ n2 + 1 ∧ s24 = .int .i64 k ∧ Below w3.heap.size w3 wr ∧ Hid (∀ j, j < k → searchL n2 (clF M L) j 0 [] = none)) (fun _ i _ => n2 + 1 - (intOf i).toNat)
    case atStart => exact ⟨0, Nat.zero_le _, rfl, Below.refl _ _, hid fun j hj => by omega⟩
    case round =>
      obtain ⟨k, hk, rfl, hbr, HH⟩ := hrel
      by_cases hlt : k < n2 + 1
      · have hcb := (boxed_below HX3.out hbr).cell
        obtain ⟨sr, hsr⟩ : ∃ sr, sr = searchL n2 (clF M L) k 0 [] := ⟨_, rfl⟩
        have HC := hid (HCC.out k 0 [] wr none none 0 0 0 (HCW.out.grow hbr) (fun i hi => by simp at hi) rfl (by omega) (by omega) (Nat.le_refl _) (Nat.le_refl _) (fun j hj => by simp at hj) (fun j hj => by simp [selL] at hj))
        rw [← hsr] at HC
        have HSR := hid hsr
        have HBR := hid hbr
        clear hsr hbr
        simp only [chLb] at hcb
        cases hq : sr with
        | some t0 =>
          rw [hq] at HC HSR
          go_wp2_with (refine HC.out.mono ?_; rintro e w5 ⟨rfl, hp5⟩; refine Stop.of ?_)
          refine Stop.go ?_
          try simp only [Option.isSome_some]
          obtain ⟨k5, va, vc, hb5, hi5⟩ := hp5
          have c5 := hb5.cell
          have hfew : fewF M L = t0 := by
            unfold fewF firstL
            rw [HN2.out, findSome_at _ hlt HH.out HSR.out.symm]; rfl
          have hlen := ((searchL_spec n2 (clF M L) k 0 []).1 t0 HSR.out.symm).1
          have HF := hid (And.intro hfew hlen)
          have HI5 := hid hi5
          have HK5 := hid k5
          clear hb5 hi5 k5 hfew hlen
          go_wp2
          go_ret2
          refine ⟨va, (_ : Nat), vc, rfl, ?_, ?_, ?_, ?_⟩
          · rw [HE.out, HF.out.1, List.length_map]
          · have := HF.out.2; unfold maxLen; simp; omega
          · rw [HE.out, HF.out.1]; simpa using HI5.out
          · have hb := chain HB0.out (chain HBW2.out (chain HB3.out HBR.out))
            exact HK5.out.below hb hb.size (fun q hq => by have := HSS.out; omega)
        | none =>
          rw [hq] at HC HSR
          go_wp2_with (refine HC.out.mono ?_; rintro e w5 ⟨rfl, hp5⟩; refine Stop.of ?_)
          refine Stop.go ?_
          try simp only [Option.isSome_none]
          have HP5 := hid hp5
          clear hp5
          go_wp2
          refine ⟨⟨k + 1, by omega, by go_num, chain HBR.out HP5.out, hid (fun j hj => ?_)⟩, by simp [intOf]; omega⟩
          by_cases e : j = k
          · subst e; exact HSR.out.symm
          · exact HH.out j (by omega)
      · exfalso
        obtain ⟨t, ht⟩ := few_some M L
        unfold firstL at ht
        rw [HN2.out, findSome_no _ (fun j hj => HH.out j (by omega))] at ht
        cases ht
  · have HE := hid (show fewL M L = [] by unfold fewL; rw [if_neg h1])
    obtain ⟨E, hE⟩ : ∃ E, E = listedE M L := ⟨_, rfl⟩
    rw [← hE] at HV ⊢ h1
    have h6 : (E != 0) = true := by simpa using h1
    clear h1 hE hn H hn2 H2 ht hB0 hB1 hsz hb0
    go_enter Tryd.func36, Tryd.ntmps36
    go_wp2_with fail
    rw [← hwf]
    go_wp2_with (go_at_call 42; refine HV.out.mono ?_; rintro e w1 ⟨rfl, hb1⟩)
    go_ret2
    refine ⟨none, 0, 0, rfl, ?_, by decide, ?_, chain HB0.out hb1⟩
    · rw [HE.out]; rfl
    · rw [HE.out]; intro j hj; simp at hj
end Go.Proofs.YthaampmdponhbaaDoor

namespace Go.Proofs.YthaampmdponhbaaDoor
open Go.RowKit Go.Maps
set_option linter.unusedVariables false

def PairsT (M : Mask) (L : List (List Int)) (i j : Nat) (ms : List Nat) : Prop :=
  ∀ m, m ∈ ms ↔ m ≠ 0 ∧ ∃ u w, ∃ (hu : u < (allF M).length), ∃ (hw : w < u), (u < i ∨ (u = i ∧ w < j)) ∧ m = pmask M L (allF M)[u] ((allF M)[w]'(by omega)) L.length
theorem PairsT.nil (M : Mask) (L : List (List Int)) : PairsT M L 0 0 [] := by
  intro m
  constructor
  · intro h; simp at h
  · rintro ⟨_, u, w, _, _, h, _⟩; omega
theorem PairsT.zero {M : Mask} {L : List (List Int)} {i j : Nat} {ms : List Nat} (h : PairsT M L i j ms) (hi : i < (allF M).length) (hj : j < i) (h0 : pmask M L (allF M)[i] ((allF M)[j]'(by omega)) L.length = 0) : PairsT M L i (j + 1) ms := by
  intro m
  rw [h m]
  refine and_congr_right fun hm => ?_
  constructor
  · rintro ⟨u, w, hu, hw, hc, e⟩
    exact ⟨u, w, hu, hw, by omega, e⟩
  · rintro ⟨u, w, hu, hw, hc, e⟩
    refine ⟨u, w, hu, hw, ?_, e⟩
    rcases hc with hc | ⟨rfl, hc⟩
    · exact .inl hc
    · rcases Nat.lt_or_ge w j with h2 | h2
      · exact .inr ⟨rfl, h2⟩
      · obtain rfl : w = j := by omega
        exact absurd (e.trans h0) hm
theorem PairsT.put {M : Mask} {L : List (List Int)} {i j : Nat} {ms : List Nat} (h : PairsT M L i j ms) (hi : i < (allF M).length) (hj : j < i) (h0 : pmask M L (allF M)[i] ((allF M)[j]'(by omega)) L.length ≠ 0) : PairsT M L i (j + 1) (ms ++ [pmask M L (allF M)[i] ((allF M)[j]'(by omega)) L.length]) := by
  intro m
  rw [List.mem_append, h m, List.mem_singleton]
  constructor
  · rintro (⟨hm, u, w, hu, hw, hc, e⟩ | rfl)
    · exact ⟨hm, u, w, hu, hw, by omega, e⟩
    · exact ⟨h0, i, j, hi, hj, by omega, rfl⟩
  · rintro ⟨hm, u, w, hu, hw, hc, e⟩
    rcases hc with hc | ⟨rfl, hc⟩
    · exact .inl ⟨hm, u, w, hu, hw, .inl hc, e⟩
    · rcases Nat.lt_or_ge w j with h2 | h2
      · exact .inl ⟨hm, u, w, hu, hw, .inr ⟨rfl, h2⟩, e⟩
      · obtain rfl : w = j := by omega
        exact .inr e
theorem PairsT.next {M : Mask} {L : List (List Int)} {i : Nat} {ms : List Nat} (h : PairsT M L i i ms) : PairsT M L (i + 1) 0 ms := by
  intro m
  rw [h m]
  refine and_congr_right fun hm => ?_
  constructor
  · rintro ⟨u, w, hu, hw, hc, e⟩
    exact ⟨u, w, hu, hw, by omega, e⟩
  · rintro ⟨u, w, hu, hw, hc, e⟩
    exact ⟨u, w, hu, hw, by omega, e⟩
theorem PairsT.done {M : Mask} {L : List (List Int)} {ms : List Nat} (h : PairsT M L (allF M).length 0 ms) : bestS ms L.length (2 ^ L.length) = some (fewF M L) := by
  refine bestS_few fun m => ?_
  rw [h m]
  refine and_congr_right fun hm => ?_
  constructor
  · rintro ⟨u, w, hu, hw, hc, e⟩
    exact ⟨u, w, hu, hw, e⟩
  · rintro ⟨u, w, hu, hw, e⟩
    exact ⟨u, w, hu, hw, .inl hu, e⟩
theorem PairsT.lt {M : Mask} {L : List (List Int)} {i j : Nat} {ms : List Nat} (h : PairsT M L i j ms) (hL : L.length ≤ 12) : ∀ m ∈ ms, m < 4096 := by
  intro m hm
  obtain ⟨_, u, w, hu, hw, _, rfl⟩ := (h m).1 hm
  exact Nat.lt_of_lt_of_le (pmask_lt M L _ _ _) (Nat.le_trans (Nat.pow_le_pow_right (by omega) hL) (by decide))

def PairW (b0 : Nat) (M : Mask) (L : List (List Int)) (i j c : Nat) (W : World) : Prop :=
  ∃ D ms k, KeysB D ms ∧ PairsT M L i j ms ∧ W.ownsMap Tryd.prog 3 (plainElem (H := Unit) Tryd.prog 4) b0 k D ∧ k ≤ c
theorem PairW.keep {b0 : Nat} {M : Mask} {L : List (List Int)} {i j c : Nat} {W W' : World} (h : PairW b0 M L i j c W) (hb : Below W.heap.size W W') : PairW b0 M L i j c W' := by
  obtain ⟨D, ms, k, h1, h2, h3, h4⟩ := h
  exact ⟨D, ms, k, h1, h2, map_below h3 hb, h4⟩
def BestW (W : World) (v : Value) : Option (List Nat) → Prop
  | none => v = .slice none 0 0
  | some b => ∃ ad cap, v = .slice ad b.length cap ∧ b.length ≤ 12 ∧ IntsAt W ad (b.map fun i : Nat => (i : Int))
theorem BestW.below {W W' : World} {v : Value} {o : Option (List Nat)} (h : BestW W v o) (hb : Below W.heap.size W W') : BestW W' v o := by
  cases o with
  | none => exact h
  | some b =>
    obtain ⟨ad, cap, e, hl, hi⟩ := h
    exact ⟨ad, cap, e, hl, hi.below hb⟩

set_option maxRecDepth 100000 in
set_option maxHeartbeats 8000000 in
theorem refFewest_c (w : World) (a : Option Addr) (nm cap : Nat) (M : Mask) (hnm : M.length = nm) (hmm0 : nm ≤ maxLen) (H : RowsAt w a M) (a2 : Option Addr) (n cap2 : Nat) (L : List (List Int)) (hn : L.length = n) (hm : n ≤ maxLen) (H2 : RowsAt w a2 L) :
    Calls Tryd.prog 37 #[.slice a nm cap, .slice a2 n cap2] w fun e w' => ∃ va vn vc, e = .returned (.tuple #[.slice va vn vc, .int .i64 (listedE M L)]) ∧ (fewL M L).length = vn ∧ vn ≤ maxLen ∧ IntsAt w' va (fewL M L) ∧ Below w.heap.size w w' := by
  have HV := hid (asked_c w a nm cap M hnm hmm0 H a2 n cap2 L hn hm H2)
  by_cases h1 : listedE M L = 0
  rotate_left
  · have HE := hid (show fewL M L = [] by unfold fewL; rw [if_neg h1])
    obtain ⟨E, hE⟩ : ∃ E, E = listedE M L := ⟨_, rfl⟩
    rw [← hE] at HV ⊢ h1
    have h6 : (E != 0) = true := by simpa using h1
    clear h1 hE hnm H hn H2
    go_enter Tryd.func37, Tryd.ntmps37
    go_wp2_with (go_at_call 48; refine HV.out.mono ?_; rintro e w1 ⟨rfl, rfl⟩)
    go_ret2
    refine ⟨none, 0, 0, rfl, ?_, by decide, ?_, Below.refl _ _⟩
    · rw [HE.out]; rfl
    · rw [HE.out]; intro j hj; simp at hj
  obtain ⟨hok, h3⟩ := listedE_ok h1
  obtain ⟨h4, hsh⟩ := picsB_iff h3
  have h12 : n ≤ 12 := by omega
  have HE := hid (show fewL M L = (fewF M L).map (fun i : Nat => (i : Int)) by unfold fewL; rw [if_pos h1])
  rw [h1] at HV ⊢
  have HAl := hid (fun (W : World) (hb : Below w.heap.size w W) => refAll_c W a nm cap M hnm (H.below hb) hok)
  have HPa := hid (fun (W : World) (hb : Below w.heap.size w W) (f g : Flt) (hf : f ∈ allF M) (hg : g ∈ allF M) (xa : Option Addr) (x : List Int) (hx : x ∈ L) (hR : RowsAt W xa [x]) => refPart_c W a nm cap M hnm (H.below hb) hok f g (all_ok hf) (all_ok hg) xa 1 1 [x] rfl (by decide) hR (fun y hy => by simp at hy; rw [hy]; exact hsh x hx))
  have hA240 := all_240 hok
  have HN := hid hn
  have HH := hid H2
  have HPD := hid (fun ms (h : PairsT M L (allF M).length 0 ms) => h.done)
  have HPL := hid (fun i j ms (h : PairsT M L i j ms) => h.lt (show L.length ≤ 12 by omega))
  have HBL := hid (show (fewF M L).length ≤ 12 by have := (few_law M L).2.1; omega)
  have hmm := @run_makeMap Tryd.prog
  clear hnm H hok h3 h4 hsh hn H2 h1
  obtain ⟨b0, hb0⟩ : ∃ b0, b0 = w.heap.size := ⟨_, rfl⟩
  have hbm : Below w.heap.size w (w.alloc (.map #[] 0)) := (Below.refl _ _).alloc (Nat.le_refl _) _
  have HAl1 := hid (HAl.out (w.alloc (.map #[] 0)) hbm)
  have hmade : (w.alloc (.map #[] 0)).ownsMap Tryd.prog 3 (plainElem (H := Unit) Tryd.prog 4) b0 0 (.map []) := by rw [hb0]; exact World.ownsMap_made _ _ _ _
  have HMade := hid hmade
  have HB0 := hid hb0
  clear hmade hb0
  go_enter Tryd.func37, Tryd.ntmps37
  go_wp2_with (first | (go_at_call 48; refine HV.out.mono ?_; rintro e w1 ⟨rfl, rfl⟩) | (go_at_call 51; refine HAl1.out.mono ?_; rintro e w1 ⟨v0, base0, rfl, hbase0, hfo, hb1⟩; refine Stop.of ?_))
  refine Stop.go ?_
  obtain ⟨va, vc, rfl, hAm, _⟩ := hfo.reads
  have hvc : (allF M).length ≤ vc := own_cap hfo
  obtain ⟨A, hA⟩ : ∃ A, A = allF M := ⟨_, rfl⟩
  rw [← hA] at hfo hA240 hvc HPa
  rw [← hA]
  obtain ⟨N, hN⟩ : ∃ N, N = A.length := ⟨_, rfl⟩
  rw [← hN] at hA240 hvc
  rw [← hN]
  have HFO := hid hfo
  have HNN := hid hN
  have HA := hid hA
  have hb01 : b0 < w1.heap.size := by have h1 := hb1.size; rw [World.size_alloc] at h1; have := HB0.out; omega
  have hbw1 : Below w.heap.size w w1 := hbm.trans (hb1.mono hbm.size)
  have HM1 := hid (show PairW b0 M L 0 0 0 w1 from ⟨.map [], [], 0, KeysB.nil, PairsT.nil M L, map_keep (S := fun _ => True) HMade.out (Keep.of_below hb1) trivial, Nat.le_refl _⟩)
  have hbase1 : b0 < base0 := by have := HB0.out; simp at hbase0; omega
  have HBW1 := hid hbw1
  rw [← HB0.out]
  clear hfo hN hA hAm hb1 hbm hbase0 HAl1 HAl hmm hbw1
  have HBR := hid (fun (W : World) (hk : Keep (fun q => q ≠ b0) w1 W) => show Below w.heap.size w W from hk.below HBW1.out HBW1.out.size (fun q hq => by have := HB0.out; omega))
  have HST := hid (fun (f g : Flt) (q : Nat) (x : List Int) (hx : L[q]?.getD [] = x) => show pmask M L f g (q + 1) = if sameR M [x] f g then pmask M L f g q else pmask M L f g q ||| 2 ^ q from by rw [pmask, hx]; simp [sameR])
  have HLB := hid (fun (f g : Flt) (q : Nat) (hq : q ≤ n) => show pmask M L f g q < 4096 from Nat.lt_of_lt_of_le (pmask_lt M L f g q) (Nat.le_trans (Nat.pow_le_pow_right (by omega) (show q ≤ 12 by omega)) (by decide)))
  go_wp2
  go_loopw [34] (fun i wr => ∃ k : Nat, k ≤ N ∧ i = .int .i64 k ∧ Hid (PairW b0 M L k 0 (k * 240) wr ∧ Keep (fun q => q ≠ b0) w1 wr)) (fun i _ => N - (intOf i).toNat)
  case atStart => exact ⟨0, Nat.zero_le _, rfl, hid ⟨by simpa using HM1.out, Keep.refl _ _⟩⟩
  case round =>
    obtain ⟨k, hk, rfl, HHR⟩ := hrel
    by_cases hlt : k < N
    · have hkA : k < A.length := by rw [← HNN.out]; exact hlt
      obtain ⟨_, _, e0, _, hat⟩ := (HFO.out.keep HHR.out.2 (fun q hq => by omega)).reads
      rw [← HNN.out] at e0
      cases e0
      obtain ⟨b, off, rfl, hbs, k0, k1, k2⟩ := hat k hkA
      have hmf := List.getElem_mem hkA
      obtain ⟨f, hf⟩ : ∃ f, f = A[k]'hkA := ⟨_, rfl⟩
      rw [← hf] at k0 k1 k2 hmf
      have HF := hid (show A[k]? = some f by rw [hf]; exact List.getElem?_eq_getElem hkA)
      have HMF := hid hmf
      obtain ⟨wo, hwo⟩ : ∃ wo, wo = wr := ⟨_, rfl⟩
      subst hwo
      obtain ⟨wf, hwf⟩ : ∃ wf, wf = wo.alloc (.cells #[.int .i64 f.kind, .int .i64 f.row, .int .i64 f.pixel] 34) := ⟨_, rfl⟩
      have hbf : Below wo.heap.size wo wf := by rw [hwf]; exact (Below.refl _ _).alloc (Nat.le_refl _) _
      have hfc : FC wf wo.heap.size f.kind f.row f.pixel := by rw [hwf]; exact FC.new _ _ _ _ _
      have hsf : wf.heap.size = wo.heap.size + 1 := by rw [hwf]; simp
      have HKF := hid (HHR.out.2.trans (Keep.of_below hbf : Keep (fun q => q ≠ b0) wo wf))
      have HPW := hid (HHR.out.1.keep hbf)
      have HFC := hid hfc
      have HSF := hid hsf
      have HWF := hid hwf
      have hw1o : w1.heap.size ≤ wo.heap.size := HHR.out.2.size
      have hk240 : k < 240 := by omega
      clear hf hmf hbf hfc hsf hwf hat hkA HHR
      obtain ⟨kind, row, pixel⟩ := f
      simp only [] at k0 k1 k2 HFC HWF
      go_wp2
      rw [← HWF.out]
      go_loopw [43] (fun v wq => ∃ j : Nat, j ≤ k ∧ v = .int .i64 j ∧ Hid (PairW b0 M L k j (k * 240 + j) wq ∧ Keep (fun q => q ≠ b0) wf wq)) (fun v _ => k - (intOf v).toNat)
      case atStart => exact ⟨0, Nat.zero_le _, rfl, hid ⟨HPW.out, Keep.refl _ _⟩⟩
      case round =>
        obtain ⟨j, hj, rfl, HHJ⟩ := hrel
        by_cases hjlt : j < k
        · have hjA : j < A.length := by rw [← HNN.out]; omega
          have hkq := HKF.out.trans HHJ.out.2
          obtain ⟨_, _, e0, _, hat⟩ := (HFO.out.keep hkq (fun q hq => by omega)).reads
          rw [← HNN.out] at e0
          cases e0
          obtain ⟨b2, off2, e2, hbs2, g0, g1, g2⟩ := hat j hjA
          cases e2
          have hmg := List.getElem_mem hjA
          obtain ⟨g, hg⟩ : ∃ g, g = A[j]'hjA := ⟨_, rfl⟩
          rw [← hg] at g0 g1 g2 hmg
          have HG := hid (show A[j]? = some g by rw [hg]; exact List.getElem?_eq_getElem hjA)
          have HMG := hid hmg
          obtain ⟨wp, hwp⟩ : ∃ wp, wp = wr := ⟨_, rfl⟩
          subst hwp
          obtain ⟨wg, hwg⟩ : ∃ wg, wg = wp.alloc (.cells #[.int .i64 g.kind, .int .i64 g.row, .int .i64 g.pixel] 34) := ⟨_, rfl⟩
          have hbg : Below wp.heap.size wp wg := by rw [hwg]; exact (Below.refl _ _).alloc (Nat.le_refl _) _
          have hgc : FC wg wp.heap.size g.kind g.row g.pixel := by rw [hwg]; exact FC.new _ _ _ _ _
          have hsg : wg.heap.size = wp.heap.size + 1 := by rw [hwg]; simp
          have hfq : FC wg wo.heap.size kind row pixel := by
            have h := HHJ.out.2
            have hz := HSF.out
            obtain ⟨f0, f1, f2⟩ := HFC.out
            have hne : wo.heap.size ≠ b0 := by omega
            exact FC.below (W := wp) ⟨h.cell f0 hne, h.cell f1 hne, h.cell f2 hne⟩ (by have := h.size; omega) hbg
          have HCells := hid (fun (W : World) (hb : Below wg.heap.size wg W) => show (W.cell? ⟨wo.heap.size, 0, none⟩ = some (.int .i64 kind) ∧ W.cell? ⟨wo.heap.size, 1, none⟩ = some (.int .i64 row) ∧ W.cell? ⟨wo.heap.size, 2, none⟩ = some (.int .i64 pixel)) ∧ W.cell? ⟨wp.heap.size, 0, none⟩ = some (.int .i64 g.kind) ∧ W.cell? ⟨wp.heap.size, 1, none⟩ = some (.int .i64 g.row) ∧ W.cell? ⟨wp.heap.size, 2, none⟩ = some (.int .i64 g.pixel) from
            ⟨hfq.below (by have := HHJ.out.2.size; have := HSF.out; omega) hb, hgc.below (by omega) hb⟩)
          have HKG := hid (hkq.trans (Keep.of_below hbg : Keep (fun q => q ≠ b0) wp wg))
          have HKJ := hid (HHJ.out.2.trans (Keep.of_below hbg : Keep (fun q => q ≠ b0) wp wg))
          have HPG := hid (HHJ.out.1.keep hbg)
          have HWG := hid hwg
          clear hg hmg hbg hgc hsg hwg hat hkq hfq HHJ
          obtain ⟨gk, gr, gp⟩ := g
          simp only [] at g0 g1 g2 HCells HWG
          go_wp2
          rw [← HWG.out]
          go_loopw [13, 49] (fun s13 s49 wq => ∃ q : Nat, q ≤ n ∧ s49 = .int .i64 q ∧ s13 = .int .i64 (pmask M L ⟨kind, row, pixel⟩ ⟨gk, gr, gp⟩ q : Nat) ∧ Below wg.heap.size wg wq) (fun _ v _ => n - (intOf v).toNat)
          case atStart => exact ⟨0, Nat.zero_le _, rfl, rfl, Below.refl _ _⟩
          case round =>
            obtain ⟨q, hq, rfl, rfl, hbq⟩ := hrel
            have hbnd := HLB.out ⟨kind, row, pixel⟩ ⟨gk, gr, gp⟩ q hq
            have hstep := HST.out ⟨kind, row, pixel⟩ ⟨gk, gr, gp⟩ q
            obtain ⟨P1, hP1⟩ : ∃ P, P = pmask M L ⟨kind, row, pixel⟩ ⟨gk, gr, gp⟩ q := ⟨_, rfl⟩
            rw [← hP1] at hbnd hstep ⊢
            have HP := hid hP1
            clear hP1
            by_cases hqlt : q < n
            · have hql : q < L.length := by rw [HN.out]; exact hqlt
              have hbw : Below w.heap.size w wr := chain (HBR.out _ HKG.out) hbq
              obtain ⟨b3, off3, xa, xn, xc, e3, hbs3, hcx, hxn, hxm, hxi⟩ := (HH.out.below hbw) q hql
              subst e3
              have hxL := List.getElem_mem hql
              obtain ⟨x, hx⟩ : ∃ x, x = L[q]'hql := ⟨_, rfl⟩
              rw [← hx] at hxn hxi hxL
              have hst := hstep x (by rw [hx, List.getElem?_eq_getElem hql]; rfl)
              obtain ⟨wx, hwx⟩ : ∃ wx, wx = wr.alloc (.cells #[.slice xa xn xc] 30) := ⟨_, rfl⟩
              have hbx : Below wr.heap.size wr wx := by rw [hwx]; exact (Below.refl _ _).alloc (Nat.le_refl _) _
              have hrx : RowsAt wx (some ⟨wr.heap.size, 0, none⟩) [x] := by rw [hwx]; exact lit_rows1 wr xa xn xc x hxn hxm hxi _
              have HC := hid (HPa.out wx (chain hbw hbx) ⟨kind, row, pixel⟩ ⟨gk, gr, gp⟩ HMF.out HMG.out (some ⟨wr.heap.size, 0, none⟩) x hxL hrx)
              obtain ⟨⟨f0, f1, f2⟩, f3, f4, f5⟩ := HCells.out wr hbq
              obtain ⟨D, hD⟩ : ∃ D, D = sameR M [x] ⟨kind, row, pixel⟩ ⟨gk, gr, gp⟩ := ⟨_, rfl⟩
              rw [← hD] at HC hst
              have HSTP := hid hst
              have HWX := hid hwx
              have HBX := hid (chain hbq hbx)
              simp only [Flt.val] at HC
              clear hD hst hwx hbx hrx hxn hxi hxL hx hstep hbw
              go_wp2_with (go_at_call 47; refine Stop.of ?_)
              refine Stop.go ?_
              rw [← HWX.out]
              refine HC.out.mono ?_
              rintro e w7 ⟨rfl, hb7⟩
              have HB7 := hid (chain HBX.out hb7)
              clear hb7 f0 f1 f2 f3 f4 f5
              cases D with
              | true =>
                go_wp2
                refine ⟨⟨q + 1, by omega, by go_num, ?_, HB7.out⟩, by simp [intOf]; omega⟩
                rw [HSTP.out]; simp
              | false =>
                have h2i : 2 ^ q < 4096 := by
                  calc 2 ^ q < 2 ^ 12 := Nat.pow_lt_pow_right (by omega) (by omega)
                    _ = 4096 := by decide
                obtain ⟨pw, hpw⟩ : ∃ pw : Nat, pw = 2 ^ q := ⟨_, rfl⟩
                obtain ⟨so, hso⟩ : ∃ so : Nat, so = P1 ||| 2 ^ q := ⟨_, rfl⟩
                have q2 : bits .or .i64 (P1 : Int) (pw : Int) = (so : Int) := by rw [hpw, hso]; exact or_i64 hbnd h2i
                have q3 : IntKind.i64.wrap ((2 : Int) ^ q) = (pw : Int) := by
                  have e : ((2 : Int) ^ q) = ((2 ^ q : Nat) : Int) := by push_cast; rfl
                  rw [e, ← hpw]
                  exact IntWalk.i64_in _ (by omega)
                have HSO := hid hso
                clear hpw hso h2i
                go_wp2
                refine ⟨⟨q + 1, by omega, by go_num, ?_, HB7.out⟩, by simp [intOf]; omega⟩
                rw [HSTP.out]; simp [HSO.out]
            · obtain rfl : q = n := by omega
              have hpg := HPG.out.keep hbq
              have hkr := HKJ.out.trans (Keep.of_below hbq : Keep (fun k => k ≠ b0) wg wr)
              have hpe : ∃ (hi : k < (allF M).length) (hj : j < k), P1 = pmask M L (allF M)[k] ((allF M)[j]'(by omega)) L.length := by
                have h1 := HF.out
                have h2 := HG.out
                rw [HA.out] at h1 h2
                obtain ⟨l1, e1⟩ := List.getElem?_eq_some_iff.1 h1
                obtain ⟨l2, e2⟩ := List.getElem?_eq_some_iff.1 h2
                exact ⟨l1, hjlt, by rw [HP.out, e1, e2, HN.out]⟩
              have HPE := hid hpe
              have HKR := hid hkr
              have HPQ := hid hpg
              clear hpg hkr hpe hstep hbq
              by_cases hp0 : P1 = 0
              · have hne : ((P1 : Int) != 0) = false := by simp [hp0]
                have HP0 := hid hp0
                clear hp0
                go_wp2
                refine ⟨⟨j + 1, by omega, by go_num, hid ⟨?_, HKR.out⟩⟩, by simp [intOf]; omega⟩
                obtain ⟨D, ms, c, p1, p2, p3, p4⟩ := HPQ.out
                obtain ⟨hi, hj2, he⟩ := HPE.out
                exact ⟨D, ms, c, p1, p2.zero hi hj2 (by rw [← he]; exact HP0.out), p3, by omega⟩
              · have hne : ((P1 : Int) != 0) = true := by simp; exact fun h => hp0 (by exact_mod_cast h)
                have HP0 := hid hp0
                clear hp0
                obtain ⟨D, ms, c, p1, p2, p3, p4⟩ := HPQ.out
                have HD := hid (And.intro p1 p2)
                have HO := hid p3
                have hwf1 : (Lit.int .i64 (P1 : Int)).wf = true := by simp [Lit.wf, IntKind.min, IntKind.max, IntKind.signed, IntKind.bits]; omega
                have HKEY := hid (show keyOf Tryd.prog 3 (.int .i64 (P1 : Int)) = some (.int .i64 (P1 : Int)) from keyOf_int_mk Tryd.underlying3 hwf1)
                have HEL := hid (plainElem_bool (H := Unit) (P := Tryd.prog) Tryd.underlying4 true)
                have HLT := hid (show c < maxLen by unfold maxLen; omega)
                clear p1 p2 p3 hwf1
                go_wp2_with (at_mapUpdate; refine wpList_mapUpdate_own _ rfl _ _ _ 75 rfl 3 4 law3 Tryd.underlying75 _ b0 _ _ rfl HO.out HLT.out _ _ _ rfl rfl HKEY.out _ [] HEL.out ?_; refine Stop.of ?_)
                refine Stop.go ?_
                intro w5 hown5 hgrow5
                have HO5 := hid hown5
                have HK5 := hid (HKR.out.trans ((Keep.grown hgrow5).mono fun q hq e => hq (by cases e; rfl)))
                clear hown5 hgrow5
                go_wp2
                refine ⟨⟨j + 1, by omega, by go_num, hid ⟨?_, HK5.out⟩⟩, by simp [intOf]; omega⟩
                obtain ⟨hi, hj2, he⟩ := HPE.out
                refine ⟨D.put (.int .i64 (P1 : Int)) (.lit (.bool true)), ms ++ [P1], c + 1, HD.out.1.put P1 _, ?_, HO5.out, by omega⟩
                rw [he]
                exact HD.out.2.put hi hj2 (by rw [← he]; exact HP0.out)
        · obtain rfl : j = k := by omega
          go_wp2
          refine ⟨⟨j + 1, by omega, by go_num, hid ⟨?_, HKF.out.trans HHJ.out.2⟩⟩, by simp [intOf]; omega⟩
          obtain ⟨D, ms, c, p1, p2, p3, p4⟩ := HHJ.out.1
          exact ⟨D, ms, c, p1, p2.next, p3, by omega⟩
    · obtain rfl : k = N := by omega
      have hkeep := HHR.out.2
      obtain ⟨D, ms, c, hD, hms, hown, hc⟩ := HHR.out.1
      have hbwr := HBR.out _ hkeep
      have hbs2 := HPD.out ms (by rw [← HA.out, ← HNN.out]; exact hms)
      rw [HN.out] at hbs2
      have HBEST2 := hid hbs2
      have HMS := hid (HPL.out _ _ _ hms)
      have HD := hid hD
      have HO := hid hown
      obtain ⟨pn, hpn2⟩ : ∃ pn : Nat, pn = 2 ^ n := ⟨_, rfl⟩
      have hpn3 : pn ≤ 4096 := by
        rw [hpn2]
        calc 2 ^ n ≤ 2 ^ 12 := Nat.pow_le_pow_right (by omega) h12
          _ = 4096 := by decide
      have q3 : IntKind.i64.wrap ((2 : Int) ^ n) = (pn : Int) := by
        have e : ((2 : Int) ^ n) = ((2 ^ n : Nat) : Int) := by push_cast; rfl
        rw [e, ← hpn2]
        exact IntWalk.i64_in _ (by omega)
      rw [← hpn2] at HBEST2
      have HPN := hid hpn2
      clear hD hown hms hpn2 hbs2
      go_wp2
      clear q3
      obtain ⟨w9, hw9⟩ : ∃ w9, w9 = wr := ⟨_, rfl⟩
      rw [← hw9] at hbwr HO ⊢
      clear hw9 hkeep HHR
      go_loopw [16, 17, 74] (fun vf v i wq => ∃ s : Nat, s ≤ pn ∧ vf = .bool (bestS ms n s).isSome ∧ i = .int .i64 s ∧ Below w9.heap.size w9 wq ∧ Hid (BestW wq v (bestS ms n s))) (fun _ _ i _ => pn - (intOf i).toNat)
      case atStart => exact ⟨0, Nat.zero_le _, rfl, rfl, Below.refl _ _, hid rfl⟩
      case round =>
        obtain ⟨s, hs, rfl, rfl, hb9, HBV⟩ := hrel
        by_cases hlt3 : s < pn
        · obtain ⟨wS, hwS⟩ : ∃ wS, wS = wr := ⟨_, rfl⟩
          rw [← hwS] at hb9 HBV ⊢
          clear hwS
          have HO2 := hid (map_below HO.out hb9)
          have hs4 : s < 4096 := by omega
          go_wp2_with (at_range; refine wpList_range_own _ rfl _ 75 rfl 3 4 law3 Tryd.underlying75 _ b0 _ _ rfl HO2.out ?_; refine Stop.of ?_)
          refine Stop.go ?_
          intro wi hrg0 hg0 hs0
          have HRG := hid hrg0
          clear hrg0
          go_wp2
          go_loopw [19] (fun s14 wq => ∃ (left : Lit → Bool) (cnt : Nat) (b : Bool), s14 = .bool b ∧ wq.ranges Tryd.prog 3 (plainElem (H := Unit) Tryd.prog 4) b0 wS.heap.size c D left cnt ∧ wS.grownBy wq (some wS.heap.size) ∧ wS.heap.size + 1 = wq.heap.size ∧
              Hid ((b = true → ∀ m ∈ ms, left (.int .i64 (m : Int)) = false → ((m &&& s) != 0) = true) ∧ (b = false → ∃ m ∈ ms, ((m &&& s) != 0) = false) ∧ ∀ x : Int, left (.int .i64 x) = true → ∃ m ∈ ms, x = (m : Int)))
            (fun _ wq => wq.rangeLeft b0 wS.heap.size)
          case atStart =>
            refine ⟨_, _, true, rfl, HRG.out, hg0.but _, hs0.symm, hid ⟨fun _ m hm h => ?_, fun h => (by cases h), HD.out.2.2⟩⟩
            rw [HD.out.2.1 m hm] at h; cases h
          case round =>
            obtain ⟨left, cnt, b, rfl, hrg, hgw, hsw, HHL⟩ := hrel
            have hbe : Below wS.heap.size wS wr := (Below.refl _ wS).grown hgw (Nat.le_refl _) (fun j hj => by cases hj; exact Nat.le_refl _)
            have HR := hid hrg
            go_wp2_with (at_next; refine next_ib _ rfl _ rfl 3 4 law3 Tryd.underlying3 b0 wS.heap.size c _ _ _ rfl hrg ?_ ?_)
            · refine Stop.go ?_
              intro hl0
              have hbaw : b = allW ms s := by
                unfold allW
                cases b with
                | true => exact (List.all_eq_true.2 fun m hm => HHL.out.1 rfl m hm (hl0 _)).symm
                | false =>
                  obtain ⟨m, hm, hq⟩ := HHL.out.2.1 rfl
                  exact (List.all_eq_false.2 ⟨m, hm, by rw [hq]; simp⟩).symm
              have HBA := hid hbaw
              clear hl0 hrg HR HHL hgw hsw HRG hbaw
              have hbE := chain hb9 hbe
              obtain ⟨wE, hwE⟩ : ∃ wE, wE = wr := ⟨_, rfl⟩
              rw [← hwE] at hbE hbe ⊢
              clear hwE
              have HBV2 := hid (HBV.out.below hbe)
              obtain ⟨kl, hkl⟩ : ∃ kl : Nat → List Int, kl = fun k => ((List.range k).filter (fun i => s.testBit i)).map (fun i : Nat => (i : Int)) := ⟨_, rfl⟩
              have hfin : kl n = (bitsN n s).map (fun i : Nat => (i : Int)) := by rw [hkl]; rfl
              have hks : ∀ k, kl (k + 1) = kl k ++ (if s.testBit k then [(k : Int)] else []) := by
                intro k
                rw [hkl]
                simp only [List.range_succ, List.filter_append, List.map_append]
                congr 1
                cases h : s.testBit k <;> simp [h]
              have hkn : ∀ k, (kl k).length ≤ k := by
                intro k
                rw [hkl]
                simp only [List.length_map]
                exact Nat.le_trans (List.length_filter_le _ _) (by simp)
              have hk0 : kl 0 = [] := by rw [hkl]; rfl
              have HKSS := hid hks
              have HKN := hid hkn
              have HK0 := hid hk0
              have HFIN := hid hfin
              clear hkl hks hkn hk0 hfin hbe
              go_wp2
              go_loopw [21, 92] (fun v i wq => ∃ k : Nat, k ≤ n ∧ i = .int .i64 k ∧ wq.ownsRow wE.heap.size 3 1 v (kl k).length ((kl k).map (Value.int .i64)) ∧ Below wE.heap.size wE wq) (fun _ i _ => n - (intOf i).toNat)
              case atStart => exact ⟨0, Nat.zero_le _, rfl, by rw [HK0.out]; exact World.ownsRow_nil _ _ _ _, Below.refl _ _⟩
              case round =>
                obtain ⟨j, hj, rfl, ho, hbj⟩ := hrel
                have HOJ := hid ho
                obtain ⟨a5, c5, rfl⟩ := ownsRow_slice ho
                clear ho
                have hkl := HKN.out j
                have hks := HKSS.out j
                obtain ⟨m, hmE⟩ : ∃ m, m = (kl j).length := ⟨_, rfl⟩
                rw [← hmE] at hkl HOJ ⊢
                have HM := hid hmE
                clear hmE
                by_cases hlt5 : j < n
                · have N1 := one_news wr (.int .i64 (j : Int)) 3
                  have N2 := Nat.le_trans hbj.size (le_alloc wr (.cells #[.int .i64 (j : Int)] 3))
                  have hla : Below wE.heap.size wE (wr.alloc (.cells #[.int .i64 (j : Int)] 3)) := hbj.alloc hbj.size _
                  have N3 := HOJ.out.alloc (.cells #[.int .i64 (j : Int)] 3)
                  have M5 := hid (show m + 1 ≤ maxLen by unfold maxLen; omega)
                  have M6 := hid (show (m + 1) * 8 ≤ 140737488355328 by omega)
                  have M7 := hid N2
                  have HN1 := hid N1
                  have HN3 := hid N3
                  have HLA := hid hla
                  have hbt := bit_test (j := j) hs4
                  clear N1 N2 N3 hla
                  cases hbk : s.testBit j
                  · rw [hbk] at hks hbt
                    simp only [Bool.false_eq_true, if_false, List.append_nil] at hks
                    have HK1 := hid hks
                    have HBK := hid hbk
                    clear hks hbk
                    go_wp2
                    refine ⟨⟨j + 1, by omega, by go_num, ?_, hbj⟩, by simp [intOf]; omega⟩
                    rw [HK1.out, ← HM.out]
                    exact HOJ.out
                  · rw [hbk] at hks hbt
                    simp only [if_true] at hks
                    have HK1 := hid hks
                    have HBK := hid hbk
                    clear hks hbk
                    go_wp2_with (at_builtin; refine wpList_app _ rfl (.tmp 100) (.tmp 102) 30 rfl wE.heap.size 3 (.int .i64 0) 1 8 Tryd.underlying30 info_int rfl Nat.one_pos (.slice a5 m c5) m ((kl j).map (Value.int .i64)) rfl HN3.out (some ⟨wr.heap.size, 0, none⟩) 1 1 [.int .i64 (j : Int)] rfl rfl no_none HN1.out (ints_oneCell .i64 [(j : Int)]) M5.out M6.out M7.out ?_; refine Stop.of ?_)
                    refine Stop.go ?_
                    intro a6 c6 w7 own7 g7
                    have hb7 := HLA.out.grown g7 M7.out (fun q hq => (HN3.out.lt q hq).1)
                    have HO7 := hid own7
                    clear own7
                    go_wp2
                    refine ⟨⟨j + 1, by omega, by go_num, ?_, hb7⟩, by simp [intOf]; omega⟩
                    have := HO7.out
                    rw [HK1.out, List.length_append, List.map_append, ← HM.out]
                    exact this
                · obtain rfl : j = n := by omega
                  have hbv := HBV2.out.below hbj
                  have hb9r := chain hbE hbj
                  have hm12 : m ≤ 12 := by omega
                  have HB9R := hid hb9r
                  have hmb : m = (bitsN j s).length := by rw [HM.out, HFIN.out, List.length_map]
                  have HMB := hid hmb
                  have hli : IntsAt wr a5 ((bitsN j s).map fun i : Nat => (i : Int)) := by
                    rw [← HFIN.out]
                    obtain ⟨_, _, e, hI⟩ := ints_own HOJ.out HM.out.symm
                    cases e
                    exact hI
                  have HLI := hid hli
                  clear hks hmb hli HBV HBV2 hb9r hbE
                  cases hbb : b with
                  | false =>
                    have haw : allW ms s = false := by rw [← HBA.out]; exact hbb
                    have HNO := hid (bestS_no ms j s haw)
                    rw [← bestS_no ms j s haw] at hbv
                    have HBV3 := hid hbv
                    clear hbv haw
                    go_wp2
                    exact ⟨⟨s + 1, by omega, by rw [HNO.out], by go_num, HB9R.out, hid HBV3.out⟩, by simp [intOf]; omega⟩
                  | true =>
                    have haw : allW ms s = true := by rw [← HBA.out]; exact hbb
                    have HNEW := hid (show ∀ W, Below wr.heap.size wr W → BestW W (.slice a5 m c5) (some (bitsN j s)) from fun W hW => ⟨a5, c5, by rw [HMB.out], by rw [← HMB.out]; exact hm12, HLI.out.below hW⟩)
                    cases hbs : bestS ms j s with
                    | none =>
                      simp only [Option.isSome_none]
                      rw [hbs] at hbv
                      have hv : _ = Value.slice none 0 0 := hbv
                      have HS1 := hid (bestS_first ms j s haw hbs)
                      clear hbv haw hbs
                      subst hv
                      go_wp2
                      exact ⟨⟨s + 1, by omega, by rw [HS1.out]; rfl, by go_num, HB9R.out, hid (by rw [HS1.out]; exact HNEW.out _ (Below.refl _ _))⟩, by simp [intOf]; omega⟩
                    | some bb0 =>
                      simp only [Option.isSome_some]
                      rw [hbs] at hbv
                      obtain ⟨ad, cp0, rfl, hl0, hi0⟩ := hbv
                      have HBF := hid (before_c wr a5 ad m c5 bb0.length cp0 (bitsN j s) bb0 HMB.out.symm rfl (by unfold maxLen; omega) (by unfold maxLen; omega) HLI.out hi0)
                      have HOLD := hid (show ∀ W, Below wr.heap.size wr W → BestW W (.slice ad bb0.length cp0) (some bb0) from fun W hW => ⟨ad, cp0, rfl, hl0, hi0.below hW⟩)
                      have HAW := hid haw
                      have HBS := hid hbs
                      clear hi0 haw hbs
                      cases hbf : befN (bitsN j s) bb0
                      · rw [hbf] at HBF
                        have HS1 := hid (bestS_old ms j s HBS.out hbf)
                        clear hbf
                        go_wp2_with (go_at_call 67; refine HBF.out.mono ?_; rintro e w8 ⟨rfl, hb8⟩)
                        exact ⟨⟨s + 1, by omega, by rw [HS1.out]; rfl, by go_num, chain HB9R.out hb8, hid (by rw [HS1.out]; exact HOLD.out _ hb8)⟩, by simp [intOf]; omega⟩
                      · rw [hbf] at HBF
                        have HS1 := hid (bestS_new ms j s HAW.out HBS.out hbf)
                        clear hbf
                        go_wp2_with (go_at_call 67; refine HBF.out.mono ?_; rintro e w8 ⟨rfl, hb8⟩)
                        exact ⟨⟨s + 1, by omega, by rw [HS1.out]; rfl, by go_num, chain HB9R.out hb8, hid (by rw [HS1.out]; exact HNEW.out _ hb8)⟩, by simp [intOf]; omega⟩
            · refine Stop.go ?_
              intro x c wn cnt1 hlx hrg1 hlt1 hg1 hs1 hen
              obtain ⟨m, hm, rfl⟩ := HHL.out.2.2 x hlx
              have hgw1 := hgw.andThen hg1 (fun j hj => by cases hj; exact Or.inr rfl)
              have hs2 : wS.heap.size + 1 = wn.heap.size := by omega
              have hand := and_i64 (HMS.out m hm) hs4
              have HR1 := hid hrg1
              have HG := hid hgw1
              have HM := hid hm
              clear hrg hrg1 hgw1 hm HRG
              have keyStep : ∀ b' : Bool, b' = (b && ((m &&& s) != 0)) → ((b' = true → ∀ m' ∈ ms, (left (.int .i64 (m' : Int)) && !(Lit.int .i64 (m' : Int)).sameKey (.int .i64 (m : Int))) = false → ((m' &&& s) != 0) = true) ∧ (b' = false → ∃ m ∈ ms, ((m &&& s) != 0) = false) ∧ ∀ x : Int, (left (.int .i64 x) && !(Lit.int .i64 x).sameKey (.int .i64 (m : Int))) = true → ∃ m ∈ ms, x = (m : Int)) := by
                intro b' hb'
                refine ⟨fun ht m' hm' hl => ?_, fun hf => ?_, fun x' hx' => ?_⟩
                · rw [ht] at hb'
                  have hb2 := (Bool.and_eq_true _ _).mp hb'.symm
                  by_cases e : m' = m
                  · subst e; exact hb2.2
                  · refine HHL.out.1 hb2.1 m' hm' ?_
                    cases h : left (.int .i64 (m' : Int))
                    · rfl
                    · rw [h] at hl
                      simp [Lit.sameKey] at hl
                      exact absurd (by exact_mod_cast hl) e
                · rw [hf] at hb'
                  cases hbb : b
                  · exact HHL.out.2.1 hbb
                  · rw [hbb] at hb'
                    exact ⟨m, HM.out, by simpa using hb'.symm⟩
                · simp at hx'
                  exact HHL.out.2.2 x' hx'.1
              have HKS := hid keyStep
              clear keyStep
              cases b with
              | false =>
                go_wp2
                refine ⟨⟨_, cnt1, false, rfl, HR1.out, HG.out, hs2, hid (HKS.out false (by simp))⟩, ?_⟩
                rw [HR1.out.left_eq, HR.out.left_eq]; exact hlt1
              | true =>
                by_cases hc : (m &&& s) = 0
                · have hcb : (((m &&& s : Nat) : Int) != 0) = false := by rw [hc]; simp
                  have HC := hid hc
                  clear hc
                  go_wp2
                  refine ⟨⟨_, cnt1, false, rfl, HR1.out, HG.out, hs2, hid (HKS.out false (by rw [HC.out]; simp))⟩, ?_⟩
                  rw [HR1.out.left_eq, HR.out.left_eq]; exact hlt1
                · have hcb : (((m &&& s : Nat) : Int) != 0) = true := by simp; exact fun h => hc (by exact_mod_cast h)
                  have HC := hid hc
                  clear hc
                  go_wp2
                  refine ⟨⟨_, cnt1, true, rfl, HR1.out, HG.out, hs2, hid (HKS.out true (by simp [HC.out]))⟩, ?_⟩
                  rw [HR1.out.left_eq, HR.out.left_eq]; exact hlt1
        · obtain rfl : s = pn := by omega
          have hbv := HBV.out
          rw [HBEST2.out] at hbv ⊢
          obtain ⟨ad, cp0, rfl, hl0, hi0⟩ := hbv
          have HI0 := hid hi0
          clear hi0
          go_wp2
          go_ret2
          refine ⟨ad, _, cp0, rfl, ?_, ?_, ?_, chain hbwr hb9⟩
          · rw [HE.out, List.length_map]
          · unfold maxLen; omega
          · rw [HE.out]; exact HI0.out
end Go.Proofs.YthaampmdponhbaaDoor

namespace Go.Proofs.YthaampmdponhbaaDoor
open Go.RowKit
set_option linter.unusedVariables false

def someP (L : List (List Int)) (t : List Nat) (skip : Int) : Nat → List (List Int)
  | 0 => []
  | k + 1 => if (k : Int) = skip then someP L t skip k else someP L t skip k ++ [L[t[k]?.getD 0]?.getD []]
theorem someP_neg (L : List (List Int)) (t : List Nat) {skip : Int} (h : skip < 0) : ∀ k, k ≤ t.length → someP L t skip k = selL L (t.take k)
  | 0, _ => rfl
  | k + 1, hk => by
    have hl : k < t.length := by omega
    rw [someP, if_neg (by omega), someP_neg L t h k (by omega), List.take_succ_eq_append_getElem hl, selL_snoc, List.getElem?_eq_getElem hl]; rfl
theorem someP_pos (L : List (List Int)) (t : List Nat) (j : Nat) : ∀ k, k ≤ t.length → someP L t (j : Int) k = selL L ((t.take k).eraseIdx j)
  | 0, _ => by simp [someP, selL]
  | k + 1, hk => by
    have hl : k < t.length := by omega
    have hlen : (t.take k).length = k := by rw [List.length_take]; omega
    rw [someP, List.take_succ_eq_append_getElem hl]
    by_cases e : k = j
    · subst e
      rw [if_pos rfl, someP_pos L t k k (by omega), List.eraseIdx_append_of_length_le (by omega), hlen, Nat.sub_self]
      simp only [List.eraseIdx_zero, List.tail_cons, List.append_nil]
      rw [List.eraseIdx_of_length_le (by omega)]
    · rw [if_neg (by omega), someP_pos L t j k (by omega)]
      rcases Nat.lt_or_ge j k with h | h
      · rw [List.eraseIdx_append_of_lt_length (by omega), selL_snoc, List.getElem?_eq_getElem hl]; rfl
      · rw [List.eraseIdx_of_length_le (l := t.take k) (by omega), List.eraseIdx_of_length_le (by simp; omega), selL_snoc, List.getElem?_eq_getElem hl]; rfl
theorem someP_len (L : List (List Int)) (t : List Nat) (skip : Int) : ∀ k, (someP L t skip k).length ≤ k
  | 0 => Nat.le_refl _
  | k + 1 => by
    have := someP_len L t skip k
    unfold someP; split
    · omega
    · rw [List.length_append]; simp; omega
theorem someP_mem {L : List (List Int)} {t : List Nat} {skip : Int} (ht : ∀ i ∈ t, i < L.length) : ∀ k, k ≤ t.length → ∀ x ∈ someP L t skip k, x ∈ L
  | 0, _, x, hx => by simp [someP] at hx
  | k + 1, hk, x, hx => by
    have hl : k < t.length := by omega
    unfold someP at hx
    split at hx
    · exact someP_mem ht k (by omega) x hx
    · rcases List.mem_append.1 hx with hx | hx
      · exact someP_mem ht k (by omega) x hx
      · have hi := ht t[k] (List.getElem_mem hl)
        rw [List.getElem?_eq_getElem hl] at hx
        simp only [Option.getD_some, List.mem_singleton] at hx
        rw [List.getElem?_eq_getElem hi] at hx
        rw [hx]
        exact List.getElem_mem hi
theorem few_skip {M : Mask} {L : List (List Int)} {skip : Int} (h1 : -1 ≤ skip) (h2 : skip < ((fewF M L).length : Int)) : classF M (someP L (fewF M L) skip (fewF M L).length) = classF M L ↔ skip < 0 := by
  obtain ⟨q1, q2, q3, q4⟩ := few_law M L
  rcases Int.lt_or_le skip 0 with h | h
  · rw [someP_neg L _ h _ (Nat.le_refl _), List.take_length]
    exact ⟨fun _ => h, fun _ => q3⟩
  · obtain ⟨j, rfl⟩ := Int.eq_ofNat_of_zero_le h
    rw [someP_pos L _ j _ (Nat.le_refl _), List.take_length]
    exact ⟨fun h9 => absurd h9 (q4 j (by omega)), fun h9 => by omega⟩
theorem listed_sub {M : Mask} {L K : List (List Int)} (h : listedE M L = 0) (hl : K.length ≤ 12) (hK : ∀ x ∈ K, x ∈ L) : listedE M K = 0 := by
  obtain ⟨h1, h2⟩ := listedE_ok h
  have h3 := (picsB_iff h2).2
  have h4 : picsB M K = true := by
    unfold picsB
    simp only [Bool.and_eq_true, decide_eq_true_eq, List.all_eq_true]
    exact ⟨hl, fun x hx => h3 x (hK x hx)⟩
  unfold listedE
  rw [if_pos h1, if_pos h4]

theorem sameInts_d2 (W : World) (a a2 : Option Addr) (n cap cap2 : Nat) (l l2 : List Int) (hn : l.length = n) (hn2 : l2.length = n) (hm : n ≤ maxLen) (H : IntsAt W a l) (H2 : IntsAt W a2 l2) :
    Calls Tryd.prog 12 #[.slice a n cap, .slice a2 n cap2] W fun e w' => e = .returned (.bool (decide (l = l2))) ∧ Below W.heap.size W w' :=
  (sameInts_c W a a2 n cap n cap2 l l2 hn hn2 hm hm H H2).mono fun e w' ⟨h1, k, h2⟩ => ⟨h1, by rw [h2]; exact below_drewN (Below.refl _ _) _⟩

set_option maxRecDepth 100000 in
set_option maxHeartbeats 8000000 in
theorem faultFewest_c (w : World) (ht : Tab w) (a : Option Addr) (n cap : Nat) (M : Mask) (hn : M.length = n) (hm : n ≤ maxLen) (H : RowsAt w a M)
    (a3 : Option Addr) (n3 cap3 : Nat) (L : List (List Int)) (hn3 : L.length = n3) (hm3 : n3 ≤ maxLen) (H3 : RowsAt w a3 L) :
    Calls Tryd.prog 6 #[.slice a n cap, .slice a3 n3 cap3] w fun e w' => e = .returned (.bool true) ∧ Below w.heap.size w w' := by
  have HSm := hid (small_c w a n cap M hn hm H)
  have HLs := hid (lists_c w a3 n3 cap3 L hn3 hm3 H3 7 (by omega))
  have HAw := hid (fun (W : World) (hb : Below w.heap.size w W) => awake_c W (ht.below hb))
  have HF1 := hid (Fewest_c w ht a n cap M hn hm H a3 n3 cap3 L hn3 hm3 H3)
  have HF2 := hid (fun (W : World) (hb : Below w.heap.size w W) => refFewest_c W a n cap M hn hm (H.below hb) a3 n3 cap3 L hn3 hm3 (H3.below hb))
  have HCl := hid (fun (W : World) (hb : Below w.heap.size w W) (a5 : Option Addr) (n5 c5 : Nat) (K : List (List Int)) (h5 : K.length = n5) (hm5 : n5 ≤ maxLen) (H5 : RowsAt W a5 K) => Classes_c W (ht.below hb) a n cap M hn hm (H.below hb) a5 n5 c5 K h5 hm5 H5)
  have HL := hid H3
  have HLN := hid hn3
  have HLM := hid hm3
  clear hn H hn3 H3 ht hm3
  by_cases hfit : smallB M = true ∧ fitL L (7 : Nat) = true
  · obtain ⟨h1, h2⟩ := hfit
    rw [h1] at HSm
    rw [h2] at HLs
    clear h1 h2
    obtain ⟨FL, hFL⟩ : ∃ l, l = fewL M L := ⟨_, rfl⟩
    have hflm : FL.length ≤ 12 := by rw [hFL]; exact fewL_len
    rw [← hFL] at HF1 HF2
    obtain ⟨LE, hLE⟩ : ∃ E, E = listedE M L := ⟨_, rfl⟩
    rw [← hLE] at HF1 HF2
    have HFL := hid hFL
    have HLE := hid hLE
    clear hFL hLE
    go_enter Tryd.func6, Tryd.ntmps6
    go_wp2_with (first
      | (go_at_call 14; refine HSm.out.mono ?_; rintro e w1 ⟨rfl, rfl⟩)
      | (go_at_call 15; refine HLs.out.mono ?_; rintro e w1 ⟨rfl, rfl⟩)
      | (go_at_call 36; refine HF1.out.mono ?_; rintro e w1 ⟨va, vn, vc, rfl, hvn, hvm, hvi, hb1⟩; refine Stop.of ?_))
    refine Stop.go ?_
    have HI1 := hid hvi
    have hvn1 := hvn
    clear hvi hvm
    go_wp2_with (go_at_call 37; refine (HF2.out _ hb1).mono ?_; rintro e w2 ⟨va2, vn2, vc2, rfl, hvn2, hvm2, hvi2, hb2⟩; refine Stop.of ?_)
    refine Stop.go ?_
    obtain rfl : vn2 = vn := by omega
    have hbw2 := chain hb1 hb2
    have HSI := hid (sameInts_d2 w2 va va2 vn2 vc vc2 FL FL hvn hvn (by omega) (HI1.out.below hb2) hvi2)
    have HI2 := hid (HI1.out.below hb2)
    have hvn12 : vn2 ≤ 12 := by omega
    have HVN := hid hvn
    clear hvi2 hvn hvn2 hvm2 hb2 hb1 HI1 hvn1 hflm
    simp only [decide_true] at HSI
    by_cases hz : LE = 0
    · subst hz
      have hL0 := HLE.out.symm
      have hok := (listedE_ok hL0).1
      have hp12 := (picsB_iff (listedE_ok hL0).2).1
      have hn12 : n3 ≤ 12 := by have := HLN.out; omega
      have hA240 := all_240 hok
      have hFE : FL = (fewF M L).map (fun i : Nat => (i : Int)) := by rw [HFL.out]; unfold fewL; rw [if_pos hL0]
      have hcls : ∀ K, listedE M K = 0 → clsL M K = classF M K := fun K hK => by unfold clsL; rw [if_pos hK]
      have HCE := hid hcls
      have HFE := hid hFE
      have HL0 := hid hL0
      have hlen : ∀ K, (classF M K).length = (classF M L).length := fun K => by rw [classF_length, classF_length]
      have HCLN := hid hlen
      obtain ⟨CN, hCN⟩ : ∃ c, c = (classF M L).length := ⟨_, rfl⟩
      have hcn : CN ≤ 240 := by rw [hCN, classF_length]; exact hA240
      have HCN := hid hCN
      obtain ⟨t, htE⟩ : ∃ t, t = fewF M L := ⟨_, rfl⟩
      have hlt := fun i (hi : i ∈ t) => (Inc_lt (few_law M L).1 i (by rw [← htE]; exact hi)).2
      have HTE := hid htE
      have HLT := hid hlt
      have htn : t.length = vn2 := by rw [htE, ← HVN.out, hFE, List.length_map]
      have HTN := hid htn
      have HCa := hid (HCl.out w2 hbw2)
      clear hL0 hok hp12 hA240 hFE hcls hlen hCN htE hlt htn
      go_wp2_with (go_at_call 12; refine HSI.out.mono ?_; rintro e w3 ⟨rfl, hb3⟩; refine Stop.of ?_)
      refine Stop.go ?_
      have hbw3 := chain hbw2 hb3
      have HCb := hid (HCl.out w3 hbw3 a3 n3 cap3 L HLN.out HLM.out (HL.out.below hbw3))
      rw [HCE.out L HL0.out, HL0.out, ← HCN.out] at HCb
      have HI3 := hid (HI2.out.below hb3)
      clear HI2 hb3 HCa
      go_wp2_with (go_at_call 18; refine HCb.out.mono ?_; rintro e w4 ⟨v4, base4, rfl, hbase4, ho4, hb4⟩; refine Stop.of ?_)
      refine Stop.go ?_
      obtain ⟨ga, gc, rfl, hG⟩ := ints_own ho4 HCN.out.symm
      have hbw4 := chain hbw3 hb4
      have HG := hid hG
      have HI4 := hid (HI3.out.below hb4)
      clear ho4 hG hbase4 HI3 hb4
      have HBW4 := hid hbw4
      clear hbw3 hbw4
      go_wp2
      go_loopw [11] (fun i wr => ∃ s : Nat, s ≤ vn2 + 1 ∧ i = .int .i64 ((s : Int) - 1) ∧ Below w4.heap.size w4 wr) (fun i _ => vn2 + 1 - (intOf i + 1).toNat)
      case atStart => exact ⟨0, Nat.zero_le _, rfl, Below.refl _ _⟩
      case round =>
        obtain ⟨s, hs, rfl, hbs⟩ := hrel
        by_cases hslt : s < vn2 + 1
        · obtain ⟨S, hS⟩ : ∃ S : Int, S = (s : Int) - 1 := ⟨_, rfl⟩
          rw [← hS]
          have hSlt : S < (vn2 : Int) := by omega
          have hS1 : -1 ≤ S := by omega
          have HSE := hid hS
          clear hS
          obtain ⟨wo, hwo⟩ : ∃ wo, wo = wr := ⟨_, rfl⟩
          subst hwo
          have HBS := hid hbs
          clear hbs
          go_wp2
          go_loopw [12, 64] (fun v i wr => ∃ k : Nat, k ≤ vn2 ∧ i = .int .i64 k ∧ (∃ xs, HeadV w xs (someP L t S k) ∧ wr.ownsRow wo.heap.size 30 1 v (someP L t S k).length xs) ∧ Below wo.heap.size wo wr) (fun _ i _ => vn2 - (intOf i).toNat)
          case atStart => exact ⟨0, Nat.zero_le _, rfl, ⟨[], HeadV.nil _, World.ownsRow_nil _ _ _ _⟩, Below.refl _ _⟩
          case round =>
            obtain ⟨k, hk, rfl, ⟨xs, hXS, hown⟩, hbk⟩ := hrel
            have hbwr := chain HBW4.out (chain HBS.out hbk)
            obtain ⟨va5, vc5, rfl⟩ := ownsRow_slice hown
            by_cases hklt : k < vn2
            · have hkt : k < t.length := by rw [HTN.out]; exact hklt
              have hkF : k < FL.length := by rw [HVN.out]; exact hklt
              obtain ⟨b, off, e1, hbb, c0⟩ := (HI4.out.below (chain HBS.out hbk)) k hkF
              subst e1
              have hval : FL[k]?.getD 0 = ((t[k] : Nat) : Int) := by
                rw [HFE.out, ← HTE.out, List.getElem?_map, List.getElem?_eq_getElem hkt]; rfl
              rw [hval] at c0
              have hiL := HLT.out t[k] (List.getElem_mem hkt)
              have hst : someP L t S (k + 1) = if (k : Int) = S then someP L t S k else someP L t S k ++ [L[t[k]?.getD 0]?.getD []] := rfl
              rw [List.getElem?_eq_getElem hkt] at hst
              simp only [Option.getD_some] at hst
              obtain ⟨i, hi⟩ : ∃ i, i = t[k] := ⟨_, rfl⟩
              rw [← hi] at c0 hiL hst
              rw [List.getElem?_eq_getElem hiL] at hst
              simp only [Option.getD_some] at hst
              have HSTP := hid hst
              have hin : i < n3 := by rw [← HLN.out]; exact hiL
              clear hst hval hi
              by_cases e : (k : Int) = S
              · have hne : ((k : Int) != S) = false := by simp [e]
                have HE := hid e
                have HXX := hid (And.intro hXS hown)
                clear e hXS hown
                go_wp2
                refine ⟨⟨k + 1, by omega, by go_num, ⟨xs, ?_, ?_⟩, hbk⟩, by simp [intOf]; omega⟩
                · rw [HSTP.out, if_pos HE.out]; exact HXX.out.1
                · rw [HSTP.out, if_pos HE.out]; exact HXX.out.2
              · have hne : ((k : Int) != S) = true := by simpa using e
                have HE := hid e
                obtain ⟨b6, off6, ra, rn, rc, e6, hb6, hcx, hrn, hrm, hri⟩ := HL.out i hiL
                subst e6
                have hc6 := (hbwr.cell (p := ⟨b6, off6 + i, none⟩) hb6).trans hcx
                obtain ⟨ln, hln⟩ : ∃ ln, ln = (someP L t S k).length := ⟨_, rfl⟩
                rw [← hln] at hown ⊢
                have hl12 : ln ≤ 12 := by have := someP_len L t S k; omega
                have HXS := hid (hXS.append (HeadV.one (rc := rc) hrn hrm hri))
                have N1 := one_news wr (.slice ra rn rc) 30
                have hla : Below wo.heap.size wo (wr.alloc (.cells #[.slice ra rn rc] 30)) := hbk.alloc hbk.size _
                have N3 := hown.alloc (.cells #[.slice ra rn rc] 30)
                have M5 := hid (show ln + 1 ≤ maxLen by unfold maxLen; omega)
                have M6 := hid (show (ln + 1) * 24 ≤ 140737488355328 by omega)
                have M7 := hid (Nat.le_trans hbk.size (le_alloc wr (.cells #[.slice ra rn rc] 30)))
                have HN1 := hid N1
                have HN3 := hid N3
                have HLA := hid hla
                have HLL := hid hln
                clear e hXS hown hrn hrm hri hcx hln N1 N3 hla
                go_wp2_with (at_builtin; refine wpList_app _ rfl (.tmp 72) (.tmp 77) 22 rfl wo.heap.size 30 (.slice none 0 0) 1 24 Tryd.underlying22 info_ints rfl Nat.one_pos (.slice va5 ln vc5) ln xs rfl HN3.out (some ⟨wr.heap.size, 0, none⟩) 1 1 [.slice ra rn rc] rfl rfl no_none HN1.out (slice_oneCell _ _ _) M5.out M6.out M7.out ?_; refine Stop.of ?_)
                refine Stop.go ?_
                intro a7 c7 w7 own7 g7
                have hb7 := HLA.out.grown g7 M7.out (fun q hq => (HN3.out.lt q hq).1)
                have HO7 := hid own7
                clear own7 g7
                go_wp2
                refine ⟨⟨k + 1, by omega, by go_num, ⟨xs ++ [.slice ra rn rc], ?_, ?_⟩, hb7⟩, by simp [intOf]; omega⟩
                · rw [HSTP.out, if_neg HE.out]; exact HXS.out
                · rw [HSTP.out, if_neg HE.out, List.length_append, ← HLL.out]; exact HO7.out
            · obtain rfl : k = vn2 := by omega
              obtain ⟨K, hK⟩ : ∃ K, K = someP L t S k := ⟨_, rfl⟩
              have hK0 : listedE M K = 0 := by
                rw [hK]
                exact listed_sub HL0.out (Nat.le_trans (someP_len L t S k) hvn12) (someP_mem HLT.out k (by rw [HTN.out]; exact Nat.le_refl _))
              have hskip : classF M K = classF M L ↔ S < 0 := by
                have := few_skip (M := M) (L := L) (skip := S) (by omega) (by rw [← HTE.out, HTN.out]; exact hSlt)
                rw [← HTE.out, HTN.out] at this
                rw [hK]; exact this
              rw [← hK] at hXS hown ⊢
              have hKl : K.length ≤ 12 := by rw [hK]; exact Nat.le_trans (someP_len L t S k) hvn12
              have hRK := rows_of_own hown (hXS.below hbwr) rfl
              obtain ⟨kn, hkn⟩ : ∃ kn, kn = K.length := ⟨_, rfl⟩
              have HCk := hid (HCl.out wr hbwr va5 kn vc5 K hkn.symm (by unfold maxLen; omega) hRK)
              rw [HCE.out K hK0, hK0, HCLN.out K, ← HCN.out] at HCk
              rw [← hkn]
              obtain ⟨D, hD⟩ : ∃ D, D = decide (classF M K = classF M L) := ⟨_, rfl⟩
              have hDS : D = decide (S < 0) := by rw [hD]; exact decide_eq_decide.2 hskip
              have HD := hid hD
              have hgr := HG.out.below (chain HBS.out hbk)
              have HGR := hid hgr
              have HKN := hid hkn
              have HBK := hid (chain HBS.out hbk)
              have hle : (classF M K).length = CN := by rw [HCLN.out, HCN.out]
              have HLE2 := hid hle
              clear hK hK0 hskip hXS hown hKl hRK hkn hD hgr hbk hle hbwr
              go_wp2_with (go_at_call 18; refine HCk.out.mono ?_; rintro e w8 ⟨v8, base8, rfl, hbase8, ho8, hb8⟩; refine Stop.of ?_)
              refine Stop.go ?_
              obtain ⟨ha8, hc8, rfl, hI8⟩ := ints_own ho8 HLE2.out
              have HS8 := hid (sameInts_d2 w8 ha8 ga CN hc8 gc _ _ HLE2.out HCN.out.symm (by unfold maxLen; omega) hI8 (HGR.out.below hb8))
              rw [← HD.out] at HS8
              have HB8 := hid (chain HBK.out hb8)
              clear ho8 hI8 hbase8 hb8
              by_cases hneg : S < 0
              · obtain rfl : D = true := by rw [hDS]; simpa using hneg
                have hd : decide (S < 0) = true := by simpa using hneg
                clear hDS
                go_wp2_with (go_at_call 12; refine HS8.out.mono ?_; rintro e w9 ⟨rfl, hb9⟩)
                refine ⟨⟨s + 1, by omega, ?_, chain HB8.out hb9⟩, ?_⟩
                · rw [HSE.out]; go_num
                · have := HSE.out; simp [intOf]; omega
              · obtain rfl : D = false := by rw [hDS]; simpa using hneg
                have hd : decide (S < 0) = false := by simpa using hneg
                clear hDS
                go_wp2_with (go_at_call 12; refine HS8.out.mono ?_; rintro e w9 ⟨rfl, hb9⟩)
                refine ⟨⟨s + 1, by omega, ?_, chain HB8.out hb9⟩, ?_⟩
                · rw [HSE.out]; go_num
                · have := HSE.out; simp [intOf]; omega
        · obtain rfl : s = vn2 + 1 := by omega
          have HB9 := hid (chain HBW4.out hbs)
          clear hbs
          go_wp2_with (go_at_call 9; refine (HAw.out _ HB9.out).mono ?_; rintro e w12 ⟨rfl, hb12⟩)
          go_ret
          exact ⟨rfl, chain HB9.out hb12⟩
    · have hz2 : (LE != 0) = true := by simpa using hz
      clear hz
      go_wp2_with (first
        | (go_at_call 12; refine HSI.out.mono ?_; rintro e w7 ⟨rfl, hb7⟩)
        | (go_at_call 9; refine (HAw.out _ (chain hbw2 hb7)).mono ?_; rintro e w8 ⟨rfl, hb8⟩))
      go_ret
      exact ⟨rfl, chain (chain hbw2 hb7) hb8⟩
  · cases h1 : smallB M
    · rw [h1] at HSm
      clear hfit
      go_enter Tryd.func6, Tryd.ntmps6
      go_wp2_with (first
        | (go_at_call 14; refine HSm.out.mono ?_; rintro e w1 ⟨rfl, rfl⟩)
        | (go_at_call 9; refine (HAw.out _ (Below.refl _ _)).mono ?_; rintro e w12 ⟨rfl, hb12⟩))
      go_ret
      exact ⟨rfl, hb12⟩
    · rw [h1] at HSm
      cases h2 : fitL L (7 : Nat)
      · rw [h2] at HLs
        clear hfit
        go_enter Tryd.func6, Tryd.ntmps6
        go_wp2_with (first
          | (go_at_call 14; refine HSm.out.mono ?_; rintro e w1 ⟨rfl, rfl⟩)
          | (go_at_call 15; refine HLs.out.mono ?_; rintro e w1 ⟨rfl, rfl⟩)
          | (go_at_call 9; refine (HAw.out _ (Below.refl _ _)).mono ?_; rintro e w12 ⟨rfl, hb12⟩))
        go_ret
        exact ⟨rfl, hb12⟩
      · exact absurd ⟨h1, h2⟩ hfit
end Go.Proofs.YthaampmdponhbaaDoor

namespace Go.Proofs.YthaampmdponhbaaDoor
open Go.ChangeShapes Go.WideShapes Go.ChangeAt Go.RowKit Go.Deep
set_option linter.unusedVariables false

def Fits64 (n : Int) : Prop := -9223372036854775808 ≤ n ∧ n ≤ 9223372036854775807
theorem fits64 {n : Int} (h : (Lit.int .i64 n).wf = true) : Fits64 n := by
  simpa [Fits64, Lit.wf, IntKind.min, IntKind.max, IntKind.signed, IntKind.bits] using h

theorem cell_plain {w : World} {a : Addr} {v : Value} (h : w.cell? a = some v) : a = ⟨a.block, a.off, none⟩ ∧ a.block < w.heap.size := by
  unfold World.cell? at h
  split at h
  · rename_i c _ _ hb
    obtain ⟨b, o, s⟩ := a
    cases s with
    | none => exact ⟨rfl, (Array.getElem?_eq_some_iff.1 hb).1⟩
    | some s => simp at h
  · simp at h

theorem add_plain (b o : Nat) (i : Nat) : (Addr.mk b o none).add i = ⟨b, o + i, none⟩ := by
  unfold Addr.add
  split
  · rename_i h; rw [h]; rfl
  · rfl

section
variable {H : Type} {enc : TypeId × Value → H} {P : Program} {w : World} {base : Nat} {held : Bool}

theorem ints_opened {e q : TypeId} {fuel : Nat} {a : Option Addr} {n cap : Nat} {x : DataW H × List MemPlace} (he : P.underlying e = some (.slice q)) (hq : P.underlying q = some (.int .i64)) (cq : P.cellsOf q = 1)
    (h : DataW.trod enc P w base (fun _ => true) held fuel e [.slice a n cap] = some x) : ∃ l : List Int, l.length = n ∧ n ≤ maxLen ∧ IntsAt w a l ∧ ∀ y ∈ l, Fits64 y := by
  rcases open_ints he hq cq h with ⟨hcs, _⟩ | ⟨x, l, c, zs, hcs, _, hl, hm, hz, _, hcell, hwz⟩
  · simp at hcs
    obtain ⟨rfl, rfl, rfl⟩ := hcs
    exact ⟨[], rfl, by decide, fun j hj => by simp at hj, fun y hy => by simp at hy⟩
  · simp at hcs
    obtain ⟨rfl, rfl, rfl⟩ := hcs
    simp only [if_true] at hz
    refine ⟨zs.take n, by rw [List.length_take]; omega, by omega, fun j hj => ?_, fun y hy => fits64 (hwz y (List.mem_of_mem_take hy))⟩
    rw [List.length_take] at hj
    have h0 := cell_plain (hcell 0 (by omega))
    simp only [Addr.add, if_true] at h0
    obtain ⟨b, o, s⟩ := x
    have hs : s = none := by have := h0.1; simp at this; exact this
    subst hs
    refine ⟨b, o, rfl, h0.2, ?_⟩
    have := hcell j (by omega)
    rw [add_plain] at this
    rw [this]
    simp [List.getElem?_take, show j < n by omega, List.getD]

theorem arg_rows {r : Reach} {b0 : Nat} {t e q : TypeId} {v : Value} {d : DataW H} {p : List MemPlace} (ht : P.underlying t = some (.slice e)) (ce : P.cellsOf e = 1) (he : P.underlying e = some (.slice q)) (hq : P.underlying q = some (.int .i64)) (cq : P.cellsOf q = 1)
    (hv : Value.okWide P w r b0 t v) (h : DataW.Trod enc P w base (fun _ => true) held t v d p) : ∃ a n cap, ∃ l : List (List Int), v = .slice a n cap ∧ l.length = n ∧ n ≤ maxLen ∧ RowsAt w a l ∧ ∀ y ∈ l, ∀ z ∈ y, Fits64 z := by
  obtain ⟨a, n, cap, rfl⟩ := okWide_slice ht hv
  obtain ⟨fuel, hf⟩ := h
  rcases open_slice1 ht ce (by simpa [Value.cells] using hf) with ⟨hcs, _⟩ | ⟨x, len, c', m, nn, V, D, Pl, hcs, _, hl, hm, hmm, _, hx⟩
  · simp at hcs
    obtain ⟨rfl, rfl, rfl⟩ := hcs
    exact ⟨none, 0, 0, [], rfl, rfl, by decide, fun j hj => by simp at hj, fun y hy => by simp at hy⟩
  simp at hcs
  obtain ⟨rfl, rfl, rfl⟩ := hcs
  simp only [if_true] at hmm
  have each : ∀ i, i < n → ∃ y : List Int × Option Addr × Nat × Nat, w.cell? (x.add i) = some (.slice y.2.1 y.2.2.1 y.2.2.2) ∧ y.1.length = y.2.2.1 ∧ y.2.2.1 ≤ maxLen ∧ IntsAt w y.2.1 y.1 ∧ (∀ z ∈ y.1, Fits64 z) := by
    intro i hi
    obtain ⟨hc, t0⟩ := hx i (by omega)
    have hsl : ∃ ra rn rc, V i = .slice ra rn rc := by
      rcases open_ints he hq cq t0 with ⟨hcs, _⟩ | ⟨x, l, c, zs, hcs, _⟩
      · simp at hcs; exact ⟨_, _, _, hcs⟩
      · simp at hcs; exact ⟨_, _, _, hcs⟩
    obtain ⟨ra, rn, rc, hV⟩ := hsl
    rw [hV] at hc t0
    obtain ⟨l, q1, q2, q3, q4⟩ := ints_opened he hq cq t0
    exact ⟨(l, ra, rn, rc), hc, q1, q2, q3, q4⟩
  haveI : Inhabited (List Int × Option Addr × Nat × Nat) := ⟨([], none, 0, 0)⟩
  obtain ⟨y, hy⟩ := choose_lt each
  refine ⟨some x, n, cap, (List.range n).map fun i => (y i).1, rfl, by simp, by omega, fun j hj => ?_, fun z hz => ?_⟩
  · have hjn : j < n := by simpa using hj
    have hp := cell_plain (hy 0 (by omega)).1
    simp only [Addr.add, if_true] at hp
    obtain ⟨b, o, s⟩ := x
    have hs' : s = none := by have := hp.1; simp at this; exact this
    subst hs'
    obtain ⟨r0, r3, r4, r5, r6⟩ := hy j hjn
    rw [add_plain] at r0
    refine ⟨b, o, (y j).2.1, (y j).2.2.1, (y j).2.2.2, rfl, hp.2, r0, ?_, r4, ?_⟩ <;> simp only [List.getElem_map, List.getElem_range] <;> assumption
  · obtain ⟨i, hi, rfl⟩ := List.mem_map.1 hz
    exact (hy i (List.mem_range.1 hi)).2.2.2.2
end
end Go.Proofs.YthaampmdponhbaaDoor

namespace Go.Proofs.YthaampmdponhbaaDoor
open Go.ChangeShapes Go.WideShapes Go.ChangeAt Go.RowKit Go.Deep
set_option linter.unusedVariables false

abbrev laid3 : List (String × DataW Unit) := [("math/bits.deBruijn32tab", Rows.laid_math_bits_deBruijn32tab), ("math/bits.deBruijn64tab", Rows.laid_math_bits_deBruijn64tab), ("internal/strconv.uint64pow10", Rows.laid_internal_strconv_uint64pow10)]

theorem tab_type : (Tryd.prog.globals[0]?).map (·.type) = some 125 := by kernel_rfl
theorem tab_of_laid {W : World} (h : laidMetH Tryd.prog laid3 W) : Tab W := by
  rw [MakeChecks.laidMetH_plain _ _ _ (by kernel_rfl)] at h
  have h3 := (laidMet.tail (laidMet.tail h))
  have e : (Rows.laid_internal_strconv_uint64pow10 : DataW Unit) = Lib.tabData .u64 Lib.pow10Tab := by kernel_rfl
  rw [e] at h3
  exact Lib.tabIs_of_head tabNamed tab_type Tryd.underlying125 Tryd.underlying118 (by kernel_rfl) (by kernel_rfl) h3

section
variable {H : Type} {enc : TypeId × Value → H} {P : Program} {w : World} {base : Nat} {held : Bool}

end
end Go.Proofs.YthaampmdponhbaaDoor
