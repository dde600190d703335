/- Walks of reference 03: Sets. -/
import Derived.Test.YtfipebkhomppmaaLwX
import Derived.Test.YtfipebkhomppmaaLwI
namespace Go.Proofs.Ytfipebkhomppmaa
open Go.RowKit
set_option linter.unusedVariables false

theorem lvls_mem {n : Nat} {s : List Int} : ∀ {k : Nat}, s ∈ lvls n k → ∃ j, j ≤ k ∧ s ∈ comb n j 0
  | 0, h => ⟨0, Nat.le_refl _, h⟩
  | k + 1, h => by
    rcases List.mem_append.1 h with h | h
    · obtain ⟨j, hj, h⟩ := lvls_mem h
      exact ⟨j, by omega, h⟩
    · exact ⟨k + 1, Nat.le_refl _, h⟩
theorem lvls_count (n : Nat) : ∀ k, (lvls n k).length ≤ (k + 1) * 2 ^ n
  | 0 => by have := comb_count n 0 0; show (comb n 0 0).length ≤ _; omega
  | k + 1 => by
    show (lvls n k ++ comb n (k + 1) 0).length ≤ _
    rw [List.length_append, Nat.succ_mul]
    have h1 := lvls_count n k
    have h3 := comb_count n (k + 1) 0
    omega
theorem allS_le {n : Nat} (h : n ≤ 10) : (allS n).length ≤ 20000 := by
  have h1 := lvls_count n n
  have h2 : 2 ^ n ≤ 2 ^ 10 := Nat.pow_le_pow_right (by decide) h
  have h3 : (n + 1) * 2 ^ n ≤ 11 * 2 ^ 10 := Nat.mul_le_mul (by omega) h2
  unfold allS
  omega
theorem allS_ok {n : Nat} {s : List Int} (h : s ∈ allS n) : s.length ≤ n ∧ SetOk n s := by
  obtain ⟨j, hj, hs⟩ := lvls_mem h
  exact ⟨by rw [comb_len n j 0 s hs]; exact hj, comb_ok hs⟩
/-- the sets so far, with so many of one's extensions -/
def growT (n q : Nat) (s : List Int) (F : Int) (t : Nat) : List (List Int) := grown n q ++ ((upF F (n - F).toNat).take t).map (fun j => s ++ [j])
theorem growT_succ {n q : Nat} {s : List Int} {F : Int} {t : Nat} (h : t < (n - F).toNat) : growT n q s F (t + 1) = growT n q s F t ++ [s ++ [F + t]] := by
  unfold growT
  have h1 : t < (upF F (n - F).toNat).length := by rw [upF_len]; exact h
  have h2 : (upF F (n - F).toNat)[t] = F + t := by
    have := upF_get (n - F).toNat F t h
    rw [List.getElem?_eq_getElem h1] at this
    simpa using this
  rw [List.take_succ_eq_append_getElem h1, h2, List.map_append, List.append_assoc]; rfl
theorem growT_zero (n q : Nat) (s : List Int) (F : Int) : growT n q s F 0 = grown n q := by simp [growT]
theorem growT_all {n q : Nat} {s : List Int} {t : Nat} (hs : (allS n)[q]? = some s) (h : (n - nextFrom 0 s).toNat ≤ t) : growT n q s (nextFrom 0 s) t = grown n (q + 1) := by
  rw [grown_succ hs]
  unfold growT extS
  rw [List.take_of_length_le (by rw [upF_len]; exact h)]
theorem growT_le {n q : Nat} {s : List Int} {t : Nat} (hs : (allS n)[q]? = some s) : (growT n q s (nextFrom 0 s) t).length ≤ (allS n).length := by
  have h1 : (growT n q s (nextFrom 0 s) t).length ≤ (grown n (q + 1)).length := by
    rw [grown_succ hs]
    unfold growT extS
    rw [List.length_append, List.length_append, List.length_map, List.length_map]
    have := List.length_take_le t (upF (nextFrom 0 s) (n - nextFrom 0 s).toNat)
    have h3 : ((upF (nextFrom 0 s) (n - nextFrom 0 s).toNat).take t).length ≤ (upF (nextFrom 0 s) (n - nextFrom 0 s).toNat).length := List.length_take_le' _ _
    omega
  exact Nat.le_trans h1 (grown_prefix n (q + 1)).length_le
theorem nextFrom_at {s : List Int} {k : Nat} (h : s.length = k + 1) : nextFrom 0 s = s[k]?.getD 0 + 1 := by
  unfold nextFrom
  rw [List.getLast?_eq_getElem?, h]
  simp only [Nat.add_sub_cancel]
  rw [List.getElem?_eq_getElem (by omega)]
  rfl
theorem nextFrom_nil : nextFrom 0 [] = 0 := rfl
theorem nextFrom_le {n : Nat} {s : List Int} (h : SetOk n s) : 0 ≤ nextFrom 0 s ∧ nextFrom 0 s ≤ n := by
  unfold nextFrom
  cases hs : s.getLast? with
  | none => simp
  | some x =>
    have := h.2 x (List.mem_of_getLast? hs)
    simp only []
    omega

theorem RowS.beside {w1 w3 : World} {base n : Nat} {v u : Value} {l : List Int} {vs : List Value} (h : RowS w1 u l) (h1 : w1.ownsRow base 31 1 v n vs) (hg : w1.grownBy w3 v.ownBlock) : RowS w3 u l := by
  rcases h with ⟨g, c, e, hs⟩ | h
  · refine .inl ⟨g, c, e, hs.keep (hg.block g hs.lt fun e => ?_)⟩
    obtain ⟨_, c2, hc⟩ := own_type h1 e.symm
    obtain ⟨sp, hs⟩ := hs
    rw [hc] at hs
    cases hs
  · exact .inr h
/-- the table of one list, which is empty -/
theorem tab_nil (w : World) : TabS (w.alloc (.cells #[.slice none 0 0] 31)) w.heap.size (.slice (some ⟨w.heap.size, 0, none⟩) 1 1) [[]] := by
  refine ⟨[.slice none 0 0], ⟨rfl, .inr ⟨w.heap.size, 1, #[.slice none 0 0], rfl, Nat.le_refl _, World.alloc_heap_new _ _, Nat.le_refl _, by decide, rfl, rfl⟩⟩, fun j hj => ?_⟩
  match j, hj with
  | 0, _ => exact ⟨_, rfl, .inr ⟨rfl, none, 0, rfl⟩⟩

set_option maxRecDepth 100000 in
set_option maxHeartbeats 4000000 in
theorem r3sets_c (w : World) (n : Nat) (hn : n ≤ 10) : Calls Try.prog 65 #[.int .i64 n] w fun e w' => ∃ v, e = .returned v ∧ TabS w' w.heap.size v (allS n) ∧ Below w.heap.size w w' := by
  have HAL := hid (allS_le hn)
  have HT0 := hid (tab_nil w)
  have HB0 := hid (show Below w.heap.size w (w.alloc (.cells #[.slice none 0 0] 31)) from (Below.refl _ _).alloc (Nat.le_refl _) _)
  have HG0 := hid (show grown n 0 = [[]] by simp [grown])
  have HGD := hid (fun (q : Nat) (h : (grown n q).length ≤ q) => grown_done h)
  obtain ⟨N, hN⟩ : ∃ N, N = (allS n).length := ⟨_, rfl⟩
  rw [← hN] at HAL
  have HN := hid hN
  have hn20 := HAL.out
  clear hN
  go_enter Try.func65, Try.ntmps65
  go_wp2
  go_loopw [3, 4] (fun v i wr => ∃ q : Nat, q ≤ N ∧ i = .int .i64 q ∧ TabS wr w.heap.size v (grown n q) ∧ Below w.heap.size w wr) (fun _ i _ => N - (intOf i).toNat)
  case atStart => exact ⟨0, Nat.zero_le _, rfl, by rw [HG0.out]; exact HT0.out, HB0.out⟩
  case round =>
    clear HT0 HB0 HG0
    obtain ⟨wo, hwo⟩ : ∃ wo, wo = wr := ⟨_, rfl⟩
    subst hwo
    obtain ⟨q, hq, rfl, ho, hbk⟩ := hrel
    obtain ⟨ln, hln⟩ : ∃ ln, ln = (grown n q).length := ⟨_, rfl⟩
    have hle : ln ≤ N := by rw [hln, HN.out]; exact (grown_prefix n q).length_le
    obtain ⟨la, lc, rfl⟩ : ∃ la lc, u3 = .slice la ln lc := by
      obtain ⟨_, ho1, _⟩ := ho
      obtain ⟨a', c', e⟩ := ownsRow_slice ho1
      exact ⟨a', c', by rw [e, hln]⟩
    by_cases hlt : q < ln
    · obtain ⟨g0, lcap, us, e0, hg0, hg0s, hcs, hrs, _, _⟩ := ho.at hln.symm hlt
      cases e0
      have hql : q < (grown n q).length := by rw [← hln]; exact hlt
      have hget := grown_get hql
      have hgd : (grown n q)[q]?.getD [] = (grown n q)[q] := by rw [List.getElem?_eq_getElem hql]; rfl
      rw [hgd] at hrs
      obtain ⟨s, hs⟩ : ∃ s, s = (grown n q)[q] := ⟨_, rfl⟩
      rw [← hs] at hget hrs
      have hsm : s ∈ allS n := List.mem_of_getElem? hget
      obtain ⟨hsl, hso⟩ := allS_ok hsm
      obtain ⟨hF0, hFn⟩ := nextFrom_le hso
      have hso' : ∀ y ∈ s, 0 ≤ y ∧ y < (n : Int) := fun y hy => hso.2 y hy
      obtain ⟨sa, sc, rfl⟩ := hrs.slice
      have hqN : q < N := by omega
      have HGT := hid (fun (t : Nat) (h : t < (n - nextFrom 0 s).toNat) => growT_succ (q := q) (s := s) h)
      have HGA := hid (fun (t : Nat) (h : (n - nextFrom 0 s).toNat ≤ t) => growT_all hget h)
      have HGL := hid (fun (t : Nat) => growT_le (t := t) hget)
      have HGZ := hid (growT_zero n q s (nextFrom 0 s))
      have hNA := fun (k : Nat) (h : s.length = k + 1) => nextFrom_at h
      obtain ⟨F, hF⟩ : ∃ F, F = nextFrom 0 s := ⟨_, rfl⟩
      rw [← hF] at hF0 hFn HGT HGA HGL HGZ
      obtain ⟨G, hG⟩ : ∃ G : Nat, (G : Int) = F := ⟨F.toNat, by omega⟩
      obtain ⟨sl, hsl'⟩ : ∃ sl, sl = s.length := ⟨_, rfl⟩
      have hii : IntsAt wo sa s := by
        obtain ⟨a', n', c', e', _, _, h⟩ := hrs.sl (by unfold maxLen; omega)
        cases e'; exact h
      have hF' : (sl = 0 ∧ G = 0) ∨ (∃ k : Nat, sl = k + 1 ∧ ∃ b off, ∃ y : Int, sa = some ⟨b, off, none⟩ ∧ wo.cell? ⟨b, off + k, none⟩ = some (.int .i64 y) ∧ y + 1 = (G : Int) ∧ 0 ≤ y ∧ y < 10) := by
        rcases Nat.eq_zero_or_pos sl with h | h
        · left
          have : s = [] := List.length_eq_zero_iff.1 (by omega)
          refine ⟨h, ?_⟩
          rw [this, nextFrom_nil] at hF
          omega
        · right
          refine ⟨sl - 1, by omega, ?_⟩
          have hk : s.length = (sl - 1) + 1 := by omega
          obtain ⟨b, off, e, _, hc⟩ := hii (sl - 1) (by omega)
          have h1 := hNA _ hk
          have h2 := hso' (s[sl - 1]?.getD 0) (by rw [List.getElem?_eq_getElem (by omega)]; exact List.getElem_mem _)
          exact ⟨b, off, _, e, hc, by omega, by omega, by omega⟩
      rw [← hsl'] at hrs hcs
      have HRS := hid hrs
      have HO := hid ho
      have HBK := hid hbk
      have HSL := hid hsl'
      have hG10 : G ≤ n := by omega
      have hqi : (q : Int) < (ln : Int) := by omega
      have hsl10 : sl ≤ 10 := by omega
      rw [← hG] at HGT HGA HGL HGZ
      clear hs hget hgd hsm hsl hso hso' hF0 hFn hNA hF hG hsl' hii hrs ho hbk hln hql hle
      go_upto_if 21 with fail
      go_cut [6] from 9 to 43 (fun v wx => v = .int .i64 G ∧ wx = wo)
      case first =>
        rcases hF' with ⟨rfl, rfl⟩ | ⟨k, rfl, b, off, y, rfl, hc, hy, hy0, hy1⟩
        · go_wp2
          go_meet
          case rel => exact ⟨rfl, rfl⟩
        · have hp : ((k + 1 : Nat) : Int) - 1 = (k : Int) := by omega
          have hy2 : IntKind.i64.wrap (y + 1) = (G : Int) := by rw [hy]; exact IntWalk.i64_in _ (by omega)
          go_wp2
          go_meet
          case rel => exact ⟨by first | rfl | (congr 1) | simp_all, rfl⟩
      case rest =>
        obtain ⟨rfl, rfl⟩ := hcut
        clear hF'
        go_wp2
        go_loopw [3, 7] (fun v i wr => ∃ t : Nat, G + t ≤ n ∧ i = .int .i64 ((G + t : Nat) : Int) ∧ TabS wr w.heap.size v (growT n q s G t) ∧ RowS wr (.slice sa sl sc) s ∧ Below w.heap.size w wr) (fun _ i _ => n - (intOf i).toNat)
        case atStart => exact ⟨0, by omega, by simp, by rw [HGZ.out]; exact HO.out, HRS.out, HBK.out⟩
        case round =>
          obtain ⟨t, ht, rfl, hT, hR, hbt⟩ := hrel
          by_cases hlt2 : G + t < n
          · have hgs := HGT.out t (by omega)
            have hgl := HGL.out t
            rw [show (G : Int) + (t : Int) = ((G + t : Nat) : Int) by omega] at hgs
            obtain ⟨J, hJ⟩ : ∃ J, J = G + t := ⟨_, rfl⟩
            rw [← hJ] at hgs ⊢
            have hJn : J < n := by omega
            have HJ := hid hJ
            obtain ⟨T, hTe⟩ : ∃ T, T = growT n q s G t := ⟨_, rfl⟩
            rw [← hTe] at hgs hgl hT
            rw [← HN.out] at hgl
            obtain ⟨tl, htl⟩ : ∃ tl, tl = T.length := ⟨_, rfl⟩
            rw [← htl] at hgl
            obtain ⟨va, vc, rfl⟩ : ∃ la lc, u3 = .slice la tl lc := by
              obtain ⟨_, ho1, _⟩ := hT
              obtain ⟨a', c', e⟩ := ownsRow_slice ho1
              exact ⟨a', c', by rw [e, htl]⟩
            have hii : IntsAt wr sa s := by
              obtain ⟨a', n', c', e', _, _, h⟩ := hR.sl (by rw [← HSL.out]; unfold maxLen; omega)
              cases e'; exact h
            have hwa : Below wr.heap.size wr (wr.alloc (.cells #[] 3)) := (Below.refl _ _).alloc (Nat.le_refl _) _
            have M0 := World.ownsRow_made (base := wr.heap.size) (e := 3) (size := 1) wr #[] 0 (Nat.le_refl _) (Nat.zero_le _) rfl
            have HM0 := hid M0
            have HI0 := hid (hii.below hwa)
            have HT := hid hT
            have HR := hid hR
            have HBT := hid hbt
            have HGS := hid hgs
            have HTL := hid htl
            have M1 := hid (show 0 + sl ≤ maxLen by unfold maxLen; omega)
            have M2 := hid (show (0 + sl) * 8 ≤ 140737488355328 by omega)
            have M4 := hid (show sl + 1 ≤ maxLen by unfold maxLen; omega)
            have M5 := hid (show (sl + 1) * 8 ≤ 140737488355328 by omega)
            have M6 := hid (show tl + 1 ≤ maxLen by unfold maxLen; omega)
            have M7 := hid (show (tl + 1) * 24 ≤ 140737488355328 by omega)
            have h1c : ∀ u ∈ s.map (Value.int .i64), u.oneCell' = true := fun u hu => by
              obtain ⟨x, _, rfl⟩ := List.mem_map.1 hu; rfl
            have H1C := hid h1c
            have HLs := hid (show (s.map (Value.int .i64)).length = sl * 1 by rw [List.length_map, Nat.mul_one]; exact HSL.out.symm)
            have HNone := hid (show sa = none → sl = 0 from fun e => by rw [HSL.out]; exact ints_none HI0.out e)
            have HA0 := hid hwa
            clear hwa M0 hii hT hR hbt hgs htl hJ hTe h1c
            go_wp2_with (at_builtin; refine wpList_app _ rfl (.tmp 36) (.tmp 37) 31 rfl wr.heap.size 3 (.int .i64 0) 1 8 Try.underlying31 li_int rfl Nat.one_pos (.slice (some ⟨wr.heap.size, 0, none⟩) 0 0) 0 [] rfl HM0.out sa sl sc (s.map (Value.int .i64)) rfl HLs.out HNone.out (ints_news HI0.out) H1C.out M1.out M2.out (le_alloc _ _) ?_; refine Stop.of ?_)
            refine Stop.go ?_
            intro a1 c1 w1 own1 g1
            have hb1 : Below wr.heap.size wr w1 := HA0.out.grown g1 (le_alloc _ _) fun k hk => (own_type HM0.out hk).1
            have hb1a : Below wr.heap.size wr (w1.alloc (.cells #[.int .i64 J] 3)) := hb1.alloc hb1.size _
            have HO1 := hid (own_below own1 ((Below.refl _ w1).alloc (Nat.le_refl _) (.cells #[.int .i64 J] 3)))
            have HB1 := hid hb1a
            have M8 := hid hb1a.size
            clear own1 g1 hb1 hb1a
            go_wp2_with (at_builtin; refine wpList_app _ rfl (.tmp 38) (.tmp 40) 31 rfl wr.heap.size 3 (.int .i64 0) 1 8 Try.underlying31 li_int rfl Nat.one_pos (.slice a1 sl c1) sl _ rfl HO1.out (some ⟨w1.heap.size, 0, none⟩) 1 1 [.int .i64 J] rfl rfl no_none (one_news w1 _ _) (li_one _) M4.out M5.out M8.out ?_; refine Stop.of ?_)
            refine Stop.go ?_
            intro a2 c2 w2 own2 g2
            have hrow : RowS w2 (.slice a2 (sl + 1) c2) (s ++ [((J : Nat) : Int)]) := by
              refine rowS_own (b0 := wr.heap.size) (n := sl + 1) ?_ (by rw [List.length_append, HSL.out]; rfl)
              rw [List.map_append]; exact own2
            have hb2 : Below wr.heap.size wr w2 := HB1.out.grown g2 M8.out fun k hk => (own_type HO1.out hk).1
            have hb2a : Below wr.heap.size wr (w2.alloc (.cells #[.slice a2 (sl + 1) c2] 31)) := hb2.alloc hb2.size _
            have hT2 := HT.out.below hb2a
            obtain ⟨vs, hv1, hv2⟩ := hT2
            have hv1' := hv1
            rw [← HTL.out] at hv1'
            have HV1 := hid hv1
            have HV1' := hid hv1'
            have HV2 := hid hv2
            have HRW := hid (hrow.below ((Below.refl _ w2).alloc (Nat.le_refl _) (.cells #[.slice a2 (sl + 1) c2] 31)))
            have HR2 := hid (HR.out.below hb2a)
            have HBF := hid (chain HBT.out hb2a)
            have M9 := hid HBF.out.size
            clear own2 g2 hrow hb2 hb2a hv1 hv1' hv2
            go_wp2_with (at_builtin; refine wpList_app _ rfl (.tmp 35) (.tmp 42) 22 rfl w.heap.size 31 (.slice none 0 0) 1 24 Try.underlying22 li_ints rfl Nat.one_pos (.slice va tl vc) tl vs rfl HV1'.out (some ⟨w2.heap.size, 0, none⟩) 1 1 [.slice a2 (sl + 1) c2] rfl rfl no_none (one_news w2 _ _) (slice_oneCell _ _ _) M6.out M7.out M9.out ?_; refine Stop.of ?_)
            refine Stop.go ?_
            intro a3 c3 w3 own3 g3
            have hT3 : TabS w3 w.heap.size (.slice a3 (tl + 1) c3) (T ++ [s ++ [((J : Nat) : Int)]]) := TabS.snoc HV1.out HV2.out (Below.refl _ _) HRW.out g3 (by rw [← HTL.out]; exact own3)
            rw [← HGS.out] at hT3
            have hR3 := HR2.out.beside HV1'.out g3
            have hB3 : Below w.heap.size w w3 := HBF.out.grown g3 M9.out fun k hk => (own_type HV1'.out hk).1
            have hJe : J + 1 = G + (t + 1) := by have := HJ.out; omega
            have HJE := hid hJe
            clear own3 g3 hJe
            go_wp2
            refine ⟨⟨t + 1, by have := HJ.out; omega, by rw [← HJE.out]; go_num, hT3, hR3, hB3⟩, by simp [intOf]; omega⟩
          · have hall := HGA.out t (by omega)
            rw [hall] at hT
            have HT := hid hT
            have HB := hid hbt
            clear hall hT hR hbt
            go_wp2
            exact ⟨⟨q + 1, by omega, by go_num, HT.out, HB.out⟩, by simp [intOf]; omega⟩
    · have hfin := HGD.out q (by omega)
      rw [hfin] at ho
      have HO := hid ho
      have HB := hid hbk
      clear hfin ho hbk hln
      go_wp2
      go_ret
      exact ⟨_, rfl, HO.out, HB.out⟩
end Go.Proofs.Ytfipebkhomppmaa
