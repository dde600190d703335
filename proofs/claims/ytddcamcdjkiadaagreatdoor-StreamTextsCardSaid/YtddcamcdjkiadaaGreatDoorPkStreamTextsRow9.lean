/- Walks and plain laws for StreamTextsRow, part 9. -/
import Derived.ChangeOld
import Derived.Deep.Slices
import Derived.Lib.SmallJoins
import Derived.LaidMore
import Derived.LaidHandle
import Derived.MakeChecks
import Derived.Stop.LaidErr
import Derived.Lib.LaidTab
import Derived.Shelf.Vars
import Derived.HandedShaped
import Derived.Stop.LaidErr
import Derived.Test.YtddcamcdjkiadaaGreatDoorPkStreamTextsRow8
namespace Go.Proofs.YtddcamcdjkiadaaGreatDoor
open Go.RowKit
set_option linter.unusedVariables false

theorem OptV.mono {w : World} {lo lo' : Nat} {S S' : Nat → Prop} {o : Option (List Int)} {v : Value} (h : OptV w lo S o v) (hl : lo' ≤ lo) (hS : ∀ b, lo ≤ b → S b → S' b) : OptV w lo' S' o v := by
  rcases h with h | ⟨x, b, cap, h1, h2, h3, h4, h5⟩
  · exact .inl h
  · exact .inr ⟨x, b, cap, h1, h2, Nat.le_trans hl h3, hS b h3 h4, h5⟩
theorem clone_opt {w : World} {lo : Nat} {S : Nat → Prop} {o : Option (List Int)} {v : Value} (h : OptV w lo S o v) (hm : ∀ x, o = some x → x.length ≤ 1000) :
    Calls Tryz.prog 103 #[v] w fun e w' => ∃ u, e = .returned u ∧ OptV w' w.heap.size (fun _ => True) o u ∧ Below w.heap.size w w' := by
  rcases h with ⟨rfl, rfl⟩ | ⟨x, b, cap, rfl, rfl, h1, h2, h3, h4, h5⟩
  · have heq := fun (w : World) (a : Option Addr) (n c : Nat) => Lib.run_eql_slice_nil (P := Tryz.prog) w 30 3 a n c 0 0 Tryz.underlying30
    clear hm
    go_enter Tryz.func103, Tryz.ntmps103
    go_wp2
    go_ret
    exact ⟨_, rfl, .inl ⟨rfl, rfl⟩, Below.refl _ _⟩
  · have hx := hm x rfl
    refine (clone_c w (some ⟨b, 0, none⟩) x.length cap x rfl (by omega) h3.ints).mono ?_
    rintro e w' ⟨u, rfl, ho, hb⟩
    obtain ⟨g, c, rfl, hg, hs⟩ := spRow_own ho rfl (by omega)
    exact ⟨_, rfl, .inr ⟨x, g, c, rfl, rfl, hg, trivial, hs, h4, h5⟩, hb⟩

theorem range_pre {m n : Nat} (h : m ≤ n) : List.range m <+: List.range n := by
  obtain ⟨d, rfl⟩ : ∃ d, n = m + d := ⟨n - m, by omega⟩
  rw [List.range_add]
  exact List.prefix_append _ _
def DecV (M : Mask) (k : Int) (fs : List Frm) (lo : Nat) (S : Nat → Prop) (j : Nat) (v u : Value) (W : World) : Prop :=
  v = .int .i64 j ∧ OptV W lo (fun b => ¬ S b) (decAt M k fs (j + 1)) u
structure DecI (w0 W : World) (fp : Nat → Prop) (J : (Nat → Prop) → List Nat → World → Prop) (M : Mask) (k : Int) (fs : List Frm) (t : Nat) (S : Nat → Prop) (nv : Value) (X : World) : Prop where
  j : J S (List.range t) X
  s : ∀ q, S q → W.heap.size ≤ q ∧ q < X.heap.size
  f : ∀ q, fp q → X.heap[q]? = w0.heap[q]?
  z : W.heap.size ≤ X.heap.size
  o : OptV X W.heap.size S (decAt M k fs t) nv

theorem decAt_ok {M : Mask} {k : Int} {fs : List Frm} (hv : ∀ f ∈ fs, frB M f = true) : ∀ t, okO M (decAt M k fs t)
  | 0 => fun x h => by cases h
  | t + 1 => by
    unfold decAt
    refine nextF_ok ?_
    rcases Nat.lt_or_ge t fs.length with h | h
    · rw [List.getElem?_eq_getElem h]; exact hv _ (List.getElem_mem h)
    · rw [List.getElem?_eq_none h]; unfold frB; simp

set_option maxRecDepth 100000 in
set_option maxHeartbeats 1000000 in
theorem dec_iter (w0 : World) (fp : Nat → Prop) (fb mb kb : Nat) (a a2 : Option Addr) (n cap n2 cap2 : Nat) (M : Mask) (fs : List Frm) (k : Int) (hn : M.length = n) (hM : okM M = true) (hn2 : fs.length = n2) (hm2 : n2 ≤ 1000) (hv : ∀ f ∈ fs, frB M f = true)
    (hfp : ∀ q, fp q → q < w0.heap.size)
    (hR : ∀ X : World, w0.heap.size ≤ X.heap.size → (∀ q, fp q → X.heap[q]? = w0.heap[q]?) → (RowsAt X a M ∧ FramesAt X a2 fs) ∧ X.cell? ⟨fb, 0, none⟩ = some (.slice a2 n2 cap2) ∧ X.cell? ⟨mb, 0, none⟩ = some (.slice a n cap) ∧ X.cell? ⟨kb, 0, none⟩ = some (.int .i64 k)) :
    IterP Tryz.prog 137 #[.pointer (some ⟨fb, 0, none⟩), .pointer (some ⟨mb, 0, none⟩), .pointer (some ⟨kb, 0, none⟩)] (DecV M k fs) (List.range n2) fp w0 := by
  intro l J Jx W hb hJx hJ hY h0
  have HJ := hid hJ
  have HY := hid hY
  have H0 := hid h0
  have HR := hid hR
  have HFP := hid hfp
  have HB := hid hb
  have HN2 := hid hn2
  have HOK := hid (fun t => decAt_ok (M := M) (k := k) (fs := fs) hv t)
  have HVF := hid (fun (t : Nat) (ht : t < fs.length) => hv _ (List.getElem_mem ht))
  have HNX := hid (fun (X : World) (ra : Option Addr) (rn rc : Nat) (kf : Bool) (x : List Int) (o : Option (List Int)) (nv : Value) (S : Nat → Prop) (hrn : x.length = rn) (hrm : rn ≤ maxLen) (hX : RowsAt X a M) (hri : IntsAt X ra x) (hf : frB M (kf, x) = true) (ho : OptV X W.heap.size S o nv) (hoo : okO M o) => next_c X a ra n cap rn rc M kf x o nv W.heap.size S k hn hM hrn hrm hX hri hf ho hoo)
  have hc10 : colsM M ≤ 10 := (okM_ok hM).2.2.2.2
  have HC10 := hid hc10
  obtain ⟨_, r2, r3, r4⟩ := hR W hb.size (fun q hq => hb.block q (hfp q hq))
  clear hJ hJx hY h0 hR hfp hb hn hM hn2 hv hc10
  refine callsIn_of_wp Tryz.func137 rfl trivial ?_ rfl
  simp only [Tryz.ntmps137, List.size_toArray, List.length_cons, List.length_nil, Nat.reduceAdd, Nat.reduceSub, Array.replicate_succ, Array.replicate_zero, List.push_toArray, List.append_toArray, List.nil_append, List.cons_append]
  gi_wp2
  clear r2 r3 r4
  gi_loopw [5, 10] (fun nv i wr => ∃ (t : Nat) (S : Nat → Prop), t ≤ n2 ∧ i = .int .i64 t ∧ DecI w0 W fp J M k fs t S nv wr) (fun _ i _ => n2 - (intOf i).toNat)
  case atStart => exact ⟨0, fun _ => False, Nat.zero_le _, rfl, H0.out, fun _ h => h.elim, fun q hq => HB.out.block q (HFP.out q hq), Nat.le_refl _, .inl ⟨rfl, rfl⟩⟩
  case round =>
    obtain ⟨t, S, ht, rfl, hI⟩ := hrel
    have hwX : w0.heap.size ≤ wr.heap.size := Nat.le_trans HB.out.size hI.z
    obtain ⟨⟨rR, rF⟩, r2, r3, r4⟩ := HR.out wr hwX hI.f
    by_cases hlt : t < n2
    · have hkl : t < fs.length := by rw [HN2.out]; exact hlt
      obtain ⟨pb, po, ya, yn, yc, rfl, hpb, hp0, hp1, hyn, hym, hyi⟩ := rF t hkl
      have hvf := HVF.out t hkl
      have hda : decAt M k fs (t + 1) = nextF M k (decAt M k fs t) fs[t] := by
        show nextF M k (decAt M k fs t) (fs[t]?.getD (false, [])) = _
        rw [List.getElem?_eq_getElem hkl]; rfl
      obtain ⟨⟨kf, x⟩, hr⟩ : ∃ r, r = fs[t]'hkl := ⟨_, rfl⟩
      rw [← hr] at hp0 hyn hyi hvf hda
      simp only [] at hp0 hyn hyi
      obtain ⟨o1, ho1⟩ : ∃ o, o = Obj.cells #[.bool kf, .slice ya yn yc] 73 (0, 0) := ⟨_, rfl⟩
      have hba : Below wr.heap.size wr (wr.alloc o1) := (Below.refl _ _).alloc (Nat.le_refl _) _
      have hfa : ∀ q, fp q → (wr.alloc o1).heap[q]? = w0.heap[q]? := fun q hq => (hba.block q (Nat.lt_of_lt_of_le (HFP.out q hq) hwX)).trans (hI.f q hq)
      obtain ⟨⟨sR, sF⟩, s2, s3, s4⟩ := HR.out (wr.alloc o1) (Nat.le_trans hwX hba.size) hfa
      have HNX2 := hid (HNX.out (wr.alloc o1) ya yn yc kf x _ _ _ hyn hym sR (hyi.below hba) hvf (hI.o.below hba) (HOK.out t))
      rw [← hda] at HNX2
      rw [ho1] at HNX2 s3 s4 hba
      have hti : (t : Int) < (n2 : Int) := by omega
      have hti0 : (0 : Int) ≤ (t : Int) := by omega
      have HBA := hid hba
      have HI := hid hI
      clear hwX rR rF r2 r3 r4 sR sF s2 hyn hym hyi hvf hda hr hfa ho1 hba hI hkl
      gi_wp2_with first
        | (refine ⟨trivial, rfl, ?_⟩; gi_at_call 138; refine (callsIn_wide.2 HNX2.out).mono ?_; rintro e w2 ⟨v2, rfl, ho2, hb2⟩; refine Stop.of ?_)
      refine Stop.go ?_
      have hB2 := chain HBA.out hb2
      have hok := HOK.out (t + 1)
      have HCL := hid (clone_opt (ho2.keep (S' := fun _ => True) (K := fun _ => True) (Keep.refl _ _) (fun _ _ _ _ => ⟨trivial, trivial⟩)) (fun x hx => by have := (pic_bnd (hok x hx)).1; have := HC10.out; omega))
      have HO2 := hid ho2
      have HB2 := hid hB2
      clear ho2 hb2 hB2 hok s3 s4 hp0 hp1
      gi_wp2_with first
        | (refine ⟨trivial, rfl, ?_⟩; gi_at_call 103; refine (callsIn_wide.2 HCL.out).mono ?_; rintro e w3 ⟨u3, rfl, ho3, hb3⟩; refine Stop.of ?_)
      refine Stop.go ?_
      obtain ⟨S', hS'⟩ : ∃ S' : Nat → Prop, S' = fun q => S q ∨ v2.ownBlock = some q := ⟨_, rfl⟩
      have hB3 := chain HB2.out hb3
      have hvb : ∀ q, v2.ownBlock = some q → wr.heap.size ≤ q ∧ q < w2.heap.size := fun q hq => by
        rcases HO2.out with ⟨_, rfl⟩ | ⟨y, b, c, _, rfl, h1, _, h3, _⟩
        · simp [Value.ownBlock] at hq
        · obtain rfl : b = q := by simpa [Value.ownBlock] using hq
          exact ⟨Nat.le_trans (HBA.out.size) (by simpa using h1), h3.lt⟩
      have hSS : ∀ q, S q → S' q := fun q h => by rw [hS']; exact .inl h
      have hSN : ∀ q, S' q → S q ∨ wr.heap.size ≤ q := fun q h => by
        rw [hS'] at h
        rcases h with h | h
        · exact .inl h
        · exact .inr (hvb q h).1
      have hSb : ∀ q, S' q → W.heap.size ≤ q ∧ q < w2.heap.size := fun q h => by
        rw [hS'] at h
        rcases h with h | h
        · have h1 := HI.out.s q h; have := HB2.out.size; exact ⟨h1.1, by omega⟩
        · have h1 := hvb q h; have := HI.out.z; exact ⟨by omega, h1.2⟩
      have hJ3 : J S' (List.range t) w3 := HJ.out _ _ _ _ _ HI.out.j hSS hSN (Keep.of_below hB3)
      have hpre : List.range t ++ [t] <+: List.range n2 := by
        rw [← List.range_succ]
        exact range_pre (by omega)
      have hW2 : W.heap.size ≤ w2.heap.size := Nat.le_trans HI.out.z HB2.out.size
      have hV3 : DecV M k fs W.heap.size S' t (.int .i64 t) u3 w3 := ⟨rfl, ho3.mono hW2 (fun b h1 _ h => by have := (hSb b h).2; omega)⟩
      have hyk := HY.out S' (List.range t) t (.int .i64 t) u3 w3 hpre (fun q hq => ⟨(hSb q hq).1, Nat.lt_of_lt_of_le (hSb q hq).2 hb3.size⟩) (Nat.le_trans hW2 hb3.size) hJ3 hV3
      have HSB := hid hSb
      have HSS := hid hSS
      have HPRE := hid hpre
      have HB3 := hid hB3
      have HB23 := hid hb3
      have HVS := hid (show ∀ q, v2.ownBlock = some q → S' q from fun q h => by rw [hS']; exact .inr h)
      have HW2 := hid hW2
      clear hS' hvb hSS hSN hSb hJ3 hpre hV3 ho3 hb3 hB3 hW2
      obtain ⟨fn, tmps, assign, body, hy, hR⟩ := hyk
      gi_wp2
      refine ⟨rfl, hR.mono ?_⟩
      clear hR hy
      rintro e W3 ⟨⟨hs3, hk3⟩, ⟨rfl, hJ3⟩ | ⟨rfl, hJx⟩⟩
      · have hw3W : w2.heap.size ≤ W3.heap.size := Nat.le_trans HB23.out.size hs3
        have hIn : DecI w0 W fp J M k fs (t + 1) S' v2 W3 := by
          refine ⟨by rw [List.range_succ]; exact hJ3, fun q hq => ⟨(HSB.out q hq).1, Nat.lt_of_lt_of_le (HSB.out q hq).2 hw3W⟩, fun q hq => ?_, Nat.le_trans HW2.out hw3W, ?_⟩
          · refine (hk3 q (.inl hq)).trans ((HB3.out.block q ?_).trans (HI.out.f q hq))
            have := HFP.out q hq
            have := HB.out.size
            have := HI.out.z
            omega
          · rcases HO2.out with h | ⟨y, b, c, h1, rfl, h3, h4, h5, h6⟩
            · exact .inl h
            · have hbb : S' b := HVS.out b rfl
              exact .inr ⟨y, b, c, h1, rfl, (HSB.out b hbb).1, hbb, h5.keep ((hk3 b (.inr hbb)).trans (HB23.out.block b h5.lt)), h6⟩
        have HIN := hid hIn
        clear hIn hJ3 hk3
        gi_wp2
        refine ⟨⟨t + 1, S', by omega, by go_num, HIN.out⟩, by simp [intOf]; omega⟩
      · gi_wp2
        refine bodyPost_ret (results_none rfl _ _ _) rfl ?_
        exact ⟨⟨_, rfl⟩, .inr ⟨S', _, HPRE.out, hJx⟩⟩
    · obtain rfl : n2 = t := by omega
      have HI := hid hI
      have hlt' : decide ((n2 : Int) < (n2 : Int)) = false := by simp
      clear hI rR rF r2 r3 r4
      gi_wp2
      refine bodyPost_end (results_none rfl _ _ _) rfl ?_
      exact ⟨⟨_, rfl⟩, .inl ⟨S, HI.out.s, HI.out.j⟩⟩
end Go.Proofs.YtddcamcdjkiadaaGreatDoor

namespace Go.Proofs.YtddcamcdjkiadaaGreatDoor
open Go.RowKit
set_option linter.unusedVariables false
attribute [local go_sem] Oper.semAt_some

theorem equalI_c (w : World) (a a2 : Option Addr) (n cap n2 cap2 : Nat) (l l2 : List Int) (hn : l.length = n) (hn2 : l2.length = n2) (hm : n ≤ maxLen) (hm2 : n2 ≤ maxLen) (H : IntsAt w a l) (H2 : IntsAt w a2 l2) :
    Calls Tryz.prog 107 #[.slice a n cap, .slice a2 n2 cap2] w fun e w' => e = .returned (.bool (decide (l = l2))) ∧ ∃ k, w' = w.drewN k := by
  have HN := hid hn
  have HN2 := hid hn2
  have HH := hid H
  have HH2 := hid H2
  clear hn hn2 H H2
  unfold maxLen at hm hm2
  by_cases hl : n = n2
  · have hd : ((n : Int) != (n2 : Int)) = false := by simp [hl]
    have HL := hid hl
    clear hl
    go_enter Tryz.func107, Tryz.ntmps107
    go_wp2
    go_loopw [13] (fun i wr => ∃ k : Nat, k ≤ n ∧ i = .int .i64 k ∧ (∃ q, wr = w.drewN q) ∧ ∀ j (hj : j < l.length) (hj2 : j < l2.length), j < k → l[j] = l2[j]) (fun i _ => n - (intOf i).toNat)
    case atStart => exact ⟨0, Nat.zero_le _, rfl, ⟨0, rfl⟩, fun i _ _ h => by omega⟩
    case round =>
      obtain ⟨k, hk, rfl, ⟨q, rfl⟩, hno⟩ := hrel
      have HNO := hid hno
      clear hno
      by_cases hlt : k < n
      · have hkl : k < l.length := by rw [HN.out]; exact hlt
        have hkl2 : k < l2.length := by rw [HN2.out, ← HL.out]; exact hlt
        obtain ⟨b, off, rfl, hbs, hc⟩ := HH.out k hkl
        obtain ⟨b2, off2, rfl, hbs2, hc2⟩ := HH2.out k hkl2
        have hg : l[k]?.getD 0 = l[k] := by rw [List.getElem?_eq_getElem hkl]; rfl
        have hg2 : l2[k]?.getD 0 = l2[k] := by rw [List.getElem?_eq_getElem hkl2]; rfl
        rw [hg] at hc
        rw [hg2] at hc2
        have hlt2 : k < n2 := by have := HL.out; omega
        have HKL := hid hkl
        have HKL2 := hid hkl2
        clear hg hg2
        by_cases he : l[k] = l2[k]
        · have hb : (l[k] != l2[k]) = false := by simp [he]
          have HE := hid he
          clear he
          go_wp2
          go_quiet (fail)
          go_wp2
          refine ⟨⟨k + 1, by omega, by go_num, ⟨_, rfl⟩, fun j hj hj2 hjk => ?_⟩, by simp [intOf]; omega⟩
          by_cases e : j = k
          · subst e; exact HE.out
          · exact HNO.out j hj hj2 (by omega)
        · have hb : (l[k] != l2[k]) = true := by simp [he]
          have HE := hid he
          clear he
          go_wp2
          go_quiet (fail)
          go_wp2
          go_ret
          refine ⟨ret_bool ?_, q + nq, drewN_add _ _ _⟩
          symm
          rw [decide_eq_false_iff_not]
          rintro rfl
          exact HE.out rfl
      · go_wp2
        go_ret
        refine ⟨ret_bool ?_, _, rfl⟩
        symm
        rw [decide_eq_true_iff]
        have h1 := HN.out
        have h2 := HN2.out
        have h3 := HL.out
        exact List.ext_getElem (by omega) fun i g1 g2 => HNO.out i g1 g2 (by omega)
  · have hd : ((n : Int) != (n2 : Int)) = true := by simp; omega
    have HL := hid hl
    clear hl
    go_enter Tryz.func107, Tryz.ntmps107
    go_wp2
    go_ret
    refine ⟨ret_bool ?_, 0, rfl⟩
    symm
    rw [decide_eq_false_iff_not]
    rintro rfl
    exact HL.out (HN.out.symm.trans HN2.out)

theorem box_cell {W : World} {rb i : Nat} {T : TypeId} {c : Bool} {u : Value} (h : Boxed W rb T (.bool c)) (hc : W.cell? ⟨rb, i, none⟩ = some u) : ∃ c', u = .bool c' := by
  unfold Boxed at h
  simp only [World.cell?, h] at hc
  match i, hc with
  | 0, hc => simp at hc; exact ⟨c, hc.symm⟩
  | i + 1, hc => simp at hc
theorem FramesAt.ex {W W' : World} {a : Option Addr} {fs : List Frm} {rb : Nat} {T : TypeId} {c : Bool} (h : FramesAt W a fs) (hb : Boxed W rb T (.bool c)) (hk : ∀ q, q < W.heap.size → q ≠ rb → W'.heap[q]? = W.heap[q]?) : FramesAt W' a fs := by
  intro j hj
  obtain ⟨b, off, ra, n, cap, e, hlt, h0, h1, hn, hm, hi⟩ := h j hj
  have hne : b ≠ rb := fun e => by subst e; obtain ⟨c', h⟩ := box_cell hb h1; cases h
  refine ⟨b, off, ra, n, cap, e, lt_blk hlt (hk b hlt hne), cell_blk h0 (hk b hlt hne), cell_blk h1 (hk b hlt hne), hn, hm, fun i hi' => ?_⟩
  obtain ⟨b2, off2, e2, hlt2, hc⟩ := hi i hi'
  have hne2 : b2 ≠ rb := fun e => by subst e; obtain ⟨c', h⟩ := box_cell hb hc; cases h
  exact ⟨b2, off2, e2, lt_blk hlt2 (hk b2 hlt2 hne2), cell_blk hc (hk b2 hlt2 hne2)⟩
theorem DecV.keep {M : Mask} {k : Int} {fs : List Frm} {lo : Nat} {S : Nat → Prop} {j : Nat} {v u : Value} {A B : World} {T : Nat → Prop} (h : DecV M k fs lo S j v u A) (hk : Keep T A B) (hT : ∀ q, lo ≤ q → T q) : DecV M k fs lo S j v u B :=
  ⟨h.1, h.2.keep hk fun b h1 _ h2 => ⟨hT b h1, h2⟩⟩

theorem decoded_c (w : World) (a a2 : Option Addr) (n cap n2 cap2 : Nat) (k : Int) :
    Calls Tryz.prog 106 #[.slice a n cap, .slice a2 n2 cap2, .int .i64 k] w fun e w' => e = .returned (.func (.func 137) #[] #[.pointer (some ⟨w.heap.size + 1, 0, none⟩), .pointer (some ⟨w.heap.size, 0, none⟩), .pointer (some ⟨w.heap.size + 2, 0, none⟩)]) ∧
      w' = ((w.alloc (.cells #[.slice a n cap] 35)).alloc (.cells #[.slice a2 n2 cap2] 36)).alloc (.cells #[.int .i64 k] 3) := by
  have hmf : ∀ (fn : Fn) (first cap : Array Value) (w : World), (Instr.makeFunc fn first cap).run Tryz.prog w = .ok (.func fn first cap) w := fun _ _ _ _ => rfl
  go_enter Tryz.func106, Tryz.ntmps106
  go_wp2
  go_ret
  exact ⟨by simp, rfl⟩

set_option maxRecDepth 100000 in
set_option maxHeartbeats 1000000 in
theorem right_c (w : World) (a a2 : Option Addr) (n cap n2 cap2 : Nat) (M : Mask) (p : List (List Int)) (E : Nat) (k : Int) (hn : M.length = n) (hn2 : p.length = n2) (hm : n ≤ maxLen) (hm2 : n2 ≤ maxLen) (H : RowsAt w a M) (H2 : RowsAt w a2 p) (hP : picsB M p = true) (hE : 1 ≤ E) (hE2 : E ≤ 60) :
    Calls Tryz.prog 66 #[.slice a n cap, .slice a2 n2 cap2, .int .i64 E, .int .i64 k] w fun e w' => e = .returned (.bool (rightF M p E k)) ∧ Below w.heap.size w w' := by
  have heq := fun (w : World) (a : Option Addr) (n c : Nat) => Lib.run_eql_slice_nil (P := Tryz.prog) w 30 3 a n c 0 0 Tryz.underlying30
  obtain ⟨hM, hp1, hp60, hpp⟩ := picsB_ok hP
  obtain ⟨wz, hz⟩ : ∃ wz, wz = (w.alloc (.cells #[.slice a2 n2 cap2] 34)).alloc (.cells #[.bool false] 4) := ⟨_, rfl⟩
  have hbz : Below w.heap.size w wz := by rw [hz]; exact ((Below.refl _ _).alloc (Nat.le_refl _) _).alloc (by simp) _
  have b1 : Boxed wz w.heap.size 34 (.slice a2 n2 cap2) := by rw [hz]; exact (Boxed.new w _ _).alloc _
  have b2 : Boxed wz (w.heap.size + 1) 4 (.bool false) := by rw [hz]; have := Boxed.new (w.alloc (.cells #[.slice a2 n2 cap2] 34)) 4 (.bool false); simpa using this
  have hsz : wz.heap.size = w.heap.size + 2 := by rw [hz]; simp
  have HZ := hid hz
  have HEN := hid (encode_c wz a a2 n cap n2 cap2 M p E hn hn2 hm (H.below hbz) (H2.below hbz) hP hE hE2)
  have HH := hid H
  have HH2 := hid H2
  have HB := hid hbz
  have B1 := hid b1
  have B2 := hid b2
  have HSZ := hid hsz
  have HPO := hid hP
  have HN2 := hid hn2
  have HN := hid hn
  have hc1 := b1.cell
  have hn60 : n2 ≤ 60 := by rw [← hn2]; exact hp60
  clear hn hn2 hm H H2 hP hpp hbz b1 b2 hz hsz
  refine callsIn_wide (n := 0) |>.1 ?_
  refine callsIn_of_wp_marks Tryz.func66 rfl trivial ?_ rfl
  simp only [Tryz.ntmps66, List.size_toArray, List.length_cons, List.length_nil, Nat.reduceAdd, Nat.reduceSub, Array.replicate_succ, Array.replicate_zero, List.push_toArray, List.append_toArray, List.nil_append, List.cons_append]
  gi_wp2_with fail
  rw [← HZ.out]
  gi_wp2_with (refine ⟨trivial, rfl, ?_⟩; gi_at_call 65; refine (callsIn_wide.2 HEN.out).mono ?_; rintro e w1 ⟨v1, rfl, ho1, hb1⟩; refine Stop.of ?_)
  refine Stop.go ?_
  obtain ⟨fa, fc, rfl, hfm, hfr⟩ := ho1.reads
  have HFR := hid hfr
  have HB1 := hid hb1
  clear ho1 hb1 hfr HEN
  gi_wp2_with (refine ⟨trivial, rfl, ?_⟩; gi_at_call 106; refine (callsIn_wide.2 (decoded_c _ _ _ _ _ _ _ _)).mono ?_; rintro e w' ⟨rfl, rfl⟩; refine Stop.of ?_)
  refine Stop.go ?_
  obtain ⟨F, hF⟩ : ∃ F, F = encF M p E := ⟨_, rfl⟩
  have hFl : (encF M p E).length = n2 := by rw [encF_len, HN2.out]
  have HVF := hid (show ∀ f ∈ F, frB M f = true from by
    have := encF_valid HPO.out E
    unfold validB at this
    simp only [Bool.and_eq_true, List.all_eq_true] at this
    rw [hF]; exact this.2)
  have hRF : rightF M p E k = (List.range n2).all fun j => decide (decAt M k F (j + 1) = some (p[j]?.getD [])) := by unfold rightF; rw [hF, HN2.out]
  rw [hFl]
  rw [← hF] at HFR hFl
  obtain ⟨w3, hw3⟩ : ∃ w3, w3 = ((w1.alloc (.cells #[.slice a n cap] 35)).alloc (.cells #[.slice fa n2 fc] 36)).alloc (.cells #[.int .i64 k] 3) := ⟨_, rfl⟩
  have c1 : Boxed w3 w1.heap.size 35 (.slice a n cap) := by rw [hw3]; exact ((Boxed.new w1 _ _).alloc _).alloc _
  have c2 : Boxed w3 (w1.heap.size + 1) 36 (.slice fa n2 fc) := by rw [hw3]; have := (Boxed.new (w1.alloc (.cells #[.slice a n cap] 35)) 36 (.slice fa n2 fc)).alloc (.cells #[.int .i64 k] 3); simpa using this
  have c3 : Boxed w3 (w1.heap.size + 2) 3 (.int .i64 k) := by rw [hw3]; have := Boxed.new ((w1.alloc (.cells #[.slice a n cap] 35)).alloc (.cells #[.slice fa n2 fc] 36)) 3 (.int .i64 k); simpa using this
  have hs3 : w3.heap.size = w1.heap.size + 3 := by rw [hw3]; simp
  have hb3 : Below w1.heap.size w1 w3 := by rw [hw3]; exact (((Below.refl _ _).alloc (Nat.le_refl _) _).alloc (by simp) _).alloc (by simp; omega) _
  rw [← hw3]
  have hzs := HSZ.out
  have h1s := HB1.out.size
  have hbx : Boxed w1 (w.heap.size + 1) 4 (.bool false) := (HB1.out.block _ (by omega)).trans B2.out
  have hbx3 : Boxed w3 (w.heap.size + 1) 4 (.bool false) := (hb3.block _ (by omega)).trans hbx
  have hpx3 : Boxed w3 w.heap.size 34 (.slice a2 n2 cap2) := (hb3.block _ (by omega)).trans ((HB1.out.block _ (by omega)).trans B1.out)
  have hB3 : Below w.heap.size w w3 := chain (chain HB.out HB1.out) hb3
  obtain ⟨fp, hfp⟩ : ∃ fp : Nat → Prop, fp = fun q => q < w3.heap.size ∧ q ≠ w.heap.size + 1 := ⟨_, rfl⟩
  have HIT := hid (dec_iter w3 fp (w1.heap.size + 1) w1.heap.size (w1.heap.size + 2) a fa n cap n2 fc M F k HN.out hM hFl (by omega) HVF.out (by rw [hfp]; exact fun q h => h.1)
    (fun X hX hq => by
      rw [hfp] at hq
      refine ⟨⟨RowsAt.blk HH.out fun q hlt => (hq q ⟨by omega, by omega⟩).trans (hB3.block q hlt), ?_⟩, cell_blk c2.cell (hq _ ⟨by omega, by omega⟩), cell_blk c1.cell (hq _ ⟨by omega, by omega⟩), cell_blk c3.cell (hq _ ⟨by omega, by omega⟩)⟩
      exact (FramesAt.ex HFR.out hbx fun q hlt hne => (hq q ⟨by omega, hne⟩).trans (hb3.block q hlt))))
  have HFP := hid hfp
  have HBX3 := hid hbx3
  have HPX3 := hid hpx3
  have HB3 := hid hB3
  have HS3 := hid hs3
  have HRF := hid hRF
  clear hfp hbx hbx3 hpx3 hB3 hs3 hRF hFl hF c1 c2 c3 hw3 hb3 hc1 HFR
  gi_wp2
  refine range_p (gf := 137) (lb := #[.pointer (some ⟨w1.heap.size + 1, 0, none⟩), .pointer (some ⟨w1.heap.size, 0, none⟩), .pointer (some ⟨w1.heap.size + 2, 0, none⟩)]) (xs := List.range n2) (fp := fp) (V := DecV M k F) rfl (enters_of Tryz.func137 (by kernel_rfl) rfl)
    HIT.out (Below.refl _ _) (by rw [HFP.out]; exact fun q h => h.1)
    (fun Sr pre Z => Keep (fun q => q < w3.heap.size) w3 Z ∧ ∀ j ∈ pre, decAt M k F (j + 1) = some (p[j]?.getD []))
    (fun Sr c pre Z => c = .ret ∧ Keep (fun q => q < w3.heap.size ∧ q ≠ w.heap.size + 1) w3 Z ∧ Boxed Z (w.heap.size + 1) 4 (.bool false) ∧ rightF M p E k = false) ?hI ?hIx ?hV ?h0
    (fun v u a' Z => a' = { tmps := #[.slice a n cap, .slice a2 n2 cap2, .int .i64 E, .int .i64 k, undef, .pointer (some ⟨w.heap.size, 0, none⟩), undef, undef, .pointer (some ⟨w.heap.size + 1, 0, none⟩), v, u, .slice a n cap, .slice a n cap, .slice a2 n2 cap2, .int .i64 E, .slice fa n2 fc, .int .i64 k, .func (.func 137) #[] #[.pointer (some ⟨w1.heap.size + 1, 0, none⟩), .pointer (some ⟨w1.heap.size, 0, none⟩), .pointer (some ⟨w1.heap.size + 2, 0, none⟩)], v, u, undef, undef, undef, undef, undef, undef, undef, undef, undef, undef, undef], defers := [] }) ?hAx ?hassign ?hbody ?hdone ?hstop
  case hI =>
    rintro Sr Sr' s A B ⟨h1, h2⟩ _ _ h3 h4 hk
    exact ⟨h1.trans (hk.mono fun q hq => ⟨by omega, by omega, fun hs => by have := h3 q hs; omega⟩), h2⟩
  case hIx =>
    rintro Sr Sr' c s A B ⟨h1, h2, h5, h6⟩ _ _ h3 h4 hk
    have hs := HS3.out
    exact ⟨h1, h2.trans (hk.mono fun q hq => ⟨by omega, by omega, fun hs => by have := h3 q hs; omega⟩), (hk.block _ h5.lt ⟨by omega, by omega, fun hs => by have := h3 _ hs; omega⟩).trans h5, h6⟩
  case hV =>
    intro Sr x v u A B hv hk
    exact hv.keep hk (fun q hq => ⟨by omega, by omega⟩)
  case h0 =>
    intro Z hk hZ
    exact ⟨hk, fun j hj => by simp at hj⟩
  case hAx =>
    intro v u a' A B h _
    exact h
  case hassign =>
    rintro l Sr x v u Z K hZ hv hK
    gi_wp2
    exact hK _ _ (Below.refl _ _) rfl
  case hbody =>
    rintro l' Sr pre j _ u _ Z hpre hSr ⟨hk, hg⟩ ⟨rfl, ho⟩ rfl hZ hDo hLo
    have hj : j < n2 := List.mem_range.1 (hpre.subset (List.mem_append_right _ (List.mem_singleton.2 rfl)))
    have hs3 := HS3.out
    have hks : ∀ q, q < w.heap.size → Z.heap[q]? = w.heap[q]? := fun q hq => (hk.block q (by omega) (by show q < w3.heap.size; omega)).trans (HB3.out.block q hq)
    obtain ⟨pb, po, ya, yn, yc, rfl, hpb, hpc, hyn, hym, hyi⟩ := (RowsAt.blk HH2.out hks) j (by rw [HN2.out]; exact hj)
    have hbc := (show Boxed Z w.heap.size 34 (.slice (some ⟨pb, po, none⟩) n2 cap2) from (hk.block _ HPX3.out.lt (by show w.heap.size < w3.heap.size; omega)).trans HPX3.out).cell
    have hrb : Boxed Z (w.heap.size + 1) 4 (.bool false) := (hk.block _ HBX3.out.lt (by show w.heap.size + 1 < w3.heap.size; omega)).trans HBX3.out
    have hyv : p[j]?.getD [] = p[j]'(by rw [HN2.out]; exact hj) := by rw [List.getElem?_eq_getElem (by rw [HN2.out]; exact hj)]; rfl
    obtain ⟨y, hy⟩ : ∃ y, y = p[j]'(by rw [HN2.out]; exact hj) := ⟨_, rfl⟩
    rw [← hy] at hyn hyi hyv
    have hrc := hrb.cell
    have hrf := hrb.frozen
    have hrl := hrb.lt
    have HBAD := hid (show decAt M k F (j + 1) ≠ some y → rightF M p E k = false from fun h => by
      rw [HRF.out, List.all_eq_false]
      exact ⟨j, List.mem_range.2 hj, by rw [hyv]; simpa using h⟩)
    have HSET := hid (show ∀ X : World, Keep (fun _ => True) Z X → (Z.heap.size ≤ (X.setCell ⟨w.heap.size + 1, 0, none⟩ (.bool false)).heap.size ∧ (∀ q, (fp q ∨ q = w3.heap.size ∨ q = w3.heap.size + 1 ∨ Sr q) → (X.setCell ⟨w.heap.size + 1, 0, none⟩ (.bool false)).heap[q]? = Z.heap[q]?) ∧ Keep (fun q => q < w3.heap.size ∧ q ≠ w.heap.size + 1) w3 (X.setCell ⟨w.heap.size + 1, 0, none⟩ (.bool false)) ∧ Boxed (X.setCell ⟨w.heap.size + 1, 0, none⟩ (.bool false)) (w.heap.size + 1) 4 (.bool false)) from fun X hX => by
      have hst := Keep.set X (w.heap.size + 1) 0 (.bool false)
      refine ⟨Nat.le_trans hX.size hst.size, fun q hq => ?_, (hk.mono fun q h => h.1).trans ((hX.mono fun _ _ => trivial).trans (hst.mono fun q h => h.2)), Boxed.set _ ((hX.block _ hrl trivial).trans hrb)⟩
      have hq2 : q ≠ w.heap.size + 1 ∧ q < Z.heap.size := by
        rcases hq with h | h | h | h
        · rw [HFP.out] at h; exact ⟨h.2, by have := h.1; omega⟩
        · omega
        · omega
        · have := hSr q h; omega
      exact (hst.block q (Nat.lt_of_lt_of_le hq2.2 hX.size) hq2.1).trans (hX.block q hq2.2 trivial))
    have HG := hid hg
    have HK := hid hk
    have HSR := hid hSr
    have hj0 : (0 : Int) ≤ (j : Int) := by omega
    have hj1 : (j : Int) < (n2 : Int) := by omega
    rcases ho with ⟨hno, rfl⟩ | ⟨x, b, c, hx, rfl, hxb, hxS, hxs, hx1, hxm⟩
    · have hbad := HBAD.out (by rw [hno]; simp)
      have HBD := hid hbad
      clear hks hyn hym hyi hyv hy hno hbad hg hk hrb hSr hpb hDo hLo
      gi_wp2
      refine ⟨trivial, ?_⟩
      gi_wp2
      obtain ⟨s1, s2, s3, s4⟩ := HSET.out Z (Keep.refl _ _)
      exact ⟨s1, s2, rfl, s3, s4, HBD.out⟩
    · have HEQ := hid (equalI_c Z (some ⟨b, 0, none⟩) ya x.length c yn yc x y rfl hyn hxm hym hxs.ints hyi)
      by_cases hxy : x = y
      · rw [decide_eq_true hxy] at HEQ
        have hgood : decAt M k F (j + 1) = some (p[j]?.getD []) := by rw [hx, hxy, hyv]
        have HGO := hid hgood
        clear hks hyn hym hyi hyv hy hgood hg hk hrb hSr hpb hDo hLo hx hxb hxS hxs hx1 hxm hxy
        gi_wp2_with (refine ⟨trivial, rfl, ?_⟩; gi_at_call 107; refine (CallsIn.inRound l' (callsIn_wide.2 HEQ.out)).mono ?_; rintro e w4 ⟨rfl, q4, rfl⟩)
        refine ⟨Nat.le_refl _, fun _ _ => rfl, HK.out.trans ((Keep.refl _ _).drewN _), fun i hi => ?_⟩
        rcases List.mem_append.1 hi with h | h
        · exact HG.out i h
        · rw [List.mem_singleton.1 h]; exact HGO.out
      · rw [decide_eq_false hxy] at HEQ
        have hbad := HBAD.out (by rw [hx]; intro h; cases h; exact hxy rfl)
        have HBD := hid hbad
        have hrcN : ∀ q, (Z.drewN q).cell? ⟨w.heap.size + 1, 0, none⟩ = some (.bool false) := fun q => hrc
        clear hks hyn hym hyi hyv hy hbad hg hk hrb hSr hpb hDo hLo hx hxb hxS hxs hx1 hxm hxy
        gi_wp2_with (refine ⟨trivial, rfl, ?_⟩; gi_at_call 107; refine (CallsIn.inRound l' (callsIn_wide.2 HEQ.out)).mono ?_; rintro e w4 ⟨rfl, q4, rfl⟩)
        obtain ⟨s1, s2, s3, s4⟩ := HSET.out (Z.drewN q4) ((Keep.refl _ _).drewN _)
        exact ⟨s1, s2, rfl, s3, s4, HBD.out⟩
  case hdone =>
    rintro Sr Z hZ hSr ⟨hk, hg⟩ hmk
    have hs3 := HS3.out
    have hrt : rightF M p E k = true := by
      rw [HRF.out, List.all_eq_true]
      intro j hj
      simpa using hg j hj
    have hrb : Boxed Z (w.heap.size + 1) 4 (.bool false) := (hk.block _ HBX3.out.lt (by show w.heap.size + 1 < w3.heap.size; omega)).trans HBX3.out
    have hrc := hrb.cell
    have hrf := hrb.frozen
    have hrl := hrb.lt
    have hbZ : Below w.heap.size w Z := hk.below HB3.out HB3.out.size (fun q hq => by show q < w3.heap.size; have := HB3.out.size; omega)
    have hset : Below w.heap.size w (Z.setCell ⟨w.heap.size + 1, 0, none⟩ (.bool true)) := below_set hbZ (by omega) _ _
    have hbs : Boxed (Z.setCell ⟨w.heap.size + 1, 0, none⟩ (.bool true)) (w.heap.size + 1) 4 (.bool true) := Boxed.set _ hrb
    have hmk2 : (Z.setCell ⟨w.heap.size + 1, 0, none⟩ (.bool true)).heap[w3.heap.size]? = some (.deferred (some [])) := (Below.heap_setCell _ _ _ _ (by show w3.heap.size ≠ w.heap.size + 1; omega)).trans hmk
    have HSET := hid hset
    have HBS := hid hbs
    have HMK := hid hmk2
    clear hg hk hmk hSr hrb hbZ hset hbs hmk2
    gi_wp2
    refine marks_leave [w3.heap.size] _ (by simp) (fun h hh => by rw [List.mem_singleton.1 hh]; exact HMK.out) fun w' hk' => ?_
    have hne : w.heap.size + 1 ∉ [w3.heap.size] := fun hh => by rw [List.mem_singleton] at hh; omega
    have hbw : Boxed w' (w.heap.size + 1) 4 (.bool true) := (hk'.block _ HBS.out.lt hne).trans HBS.out
    have hbc := hbw.cell
    have hfin : Below w.heap.size w w' := hk'.below HSET.out HSET.out.size (fun q hq hh => by rw [List.mem_singleton.1 hh] at hq; omega)
    refine ⟨.bool true, ?_, by rw [hrt], hfin⟩
    simp [results, Tryz.results66, go_sem, hbc]
  case hstop =>
    rintro Sr c pre Z hpre hSr ⟨rfl, hk, hbx, hR⟩ hmk
    have hs3 := HS3.out
    have hbZ : Below w.heap.size w Z := hk.below HB3.out HB3.out.size (fun q hq => by show q < w3.heap.size ∧ q ≠ w.heap.size + 1; have := HB3.out.size; omega)
    have HBX := hid hbx
    have HBZ := hid hbZ
    have HMK := hid hmk
    clear hk hbx hbZ hmk hSr hpre
    gi_wp2
    refine marks_leave [w3.heap.size] _ (by simp) (fun h hh => by rw [List.mem_singleton.1 hh]; exact HMK.out) fun w' hk' => ?_
    have hne : w.heap.size + 1 ∉ [w3.heap.size] := fun hh => by rw [List.mem_singleton] at hh; omega
    have hbw : Boxed w' (w.heap.size + 1) 4 (.bool false) := (hk'.block _ HBX.out.lt hne).trans HBX.out
    have hbc := hbw.cell
    have hfin : Below w.heap.size w w' := hk'.below HBZ.out HBZ.out.size (fun q hq hh => by rw [List.mem_singleton.1 hh] at hq; omega)
    refine ⟨.bool false, ?_, by rw [hR], hfin⟩
    simp [results, Tryz.results66, go_sem, hbc]
end Go.Proofs.YtddcamcdjkiadaaGreatDoor

namespace Go.Proofs.YtddcamcdjkiadaaGreatDoor
open Go.RowKit
set_option linter.unusedVariables false

def sentE (M : Mask) (p : List (List Int)) (every trust : Int) : Int := if picsB M p = true then (if inB every 1 60 = true ∧ inB trust 0 (colsM M) = true then 0 else 7) else 1
def sentB (M : Mask) (p : List (List Int)) (every trust : Int) : Bool := decide (sentE M p every trust = 0) && rightF M p every.toNat trust

set_option maxHeartbeats 800000 in
theorem sSent_c (w : World) (a a2 : Option Addr) (n cap n2 cap2 : Nat) (M : Mask) (p : List (List Int)) (every trust : Int) (hn : M.length = n) (hm : n ≤ maxLen) (H : RowsAt w a M) (hn2 : p.length = n2) (hm2 : n2 ≤ maxLen) (H2 : RowsAt w a2 p) :
    Calls Tryz.prog 37 #[.slice a n cap, .slice a2 n2 cap2, .int .i64 every, .int .i64 trust] w fun e w' => e = .returned (.tuple #[.bool (sentB M p every trust), .int .i64 (sentE M p every trust)]) ∧ Below w.heap.size w w' := by
  have HV := hid (validPics_c w a n cap M hn hm H a2 n2 cap2 p hn2 hm2 H2)
  cases hP : picsB M p
  · have he : sentE M p every trust = 1 := by unfold sentE; rw [hP]; rfl
    have hb : sentB M p every trust = false := by unfold sentB; rw [he]; rfl
    rw [hP] at HV
    rw [he, hb]
    clear hn H hn2 H2 hP he hb
    go_enter Tryz.func37, Tryz.ntmps37
    go_wp2_with (go_at_call 64; refine HV.out.mono ?_; rintro e w1 ⟨rfl, hb1⟩)
    go_ret2
    exact ⟨rfl, hb1⟩
  · obtain ⟨hM, hp1, hp60, hpp⟩ := picsB_ok hP
    obtain ⟨_, h1, h6, hc1, hc10⟩ := okM_ok hM
    obtain ⟨b, off, ra, rc, rfl, hb, hc⟩ := rows_head H (by omega)
    have i0 : (0 : Int) < (n : Int) := by omega
    have HC0 := hid (show ∀ X : World, Below w.heap.size w X → X.cell? ⟨b, off, none⟩ = some (.slice ra (colsM M) rc) from fun X hX => (hX.cell (p := ⟨b, off, none⟩) hb).trans hc)
    have HW := hid (fun X => swithin_c every 1 60 X)
    have HT := hid (fun X => swithin_c trust 0 (colsM M) X)
    have HE := hid (show sentE M p every trust = if inB every 1 60 = true ∧ inB trust 0 (colsM M) = true then 0 else 7 by unfold sentE; rw [hP]; rfl)
    rw [hP] at HV
    cases hE : inB every 1 60
    · have he : sentE M p every trust = 7 := by rw [HE.out, hE]; rfl
      have hb : sentB M p every trust = false := by unfold sentB; rw [he]; rfl
      rw [hE] at HW
      rw [he, hb]
      clear hn H hn2 H2 hP he hb hE hc hpp hM
      go_enter Tryz.func37, Tryz.ntmps37
      go_wp2_with first
        | (go_at_call 64; refine HV.out.mono ?_; rintro e w1 ⟨rfl, hb1⟩)
        | (go_at_call 45; refine (HW.out _).mono ?_; rintro e w2 ⟨rfl, rfl⟩)
      go_ret2
      exact ⟨rfl, hb1⟩
    · rw [hE] at HW
      cases hT : inB trust 0 (colsM M)
      · have he : sentE M p every trust = 7 := by rw [HE.out, hE, hT]; rfl
        have hb : sentB M p every trust = false := by unfold sentB; rw [he]; rfl
        rw [he, hb]
        obtain ⟨W, hW⟩ : ∃ W, W = colsM M := ⟨_, rfl⟩
        rw [← hW] at hT HC0
        clear hn H hn2 H2 hP he hb hc hpp hM hW HT HW
        go_enter Tryz.func37, Tryz.ntmps37
        go_wp2_with first
          | (go_at_call 64; refine HV.out.mono ?_; rintro e w1 ⟨rfl, hb1⟩; have hc1' := HC0.out w1 hb1)
          | (go_at_call 45; refine (swithin_c _ _ _ _).mono ?_; rintro e w2 ⟨rfl, rfl⟩)
        go_ret2
        exact ⟨rfl, hb1⟩
      · have he : sentE M p every trust = 0 := by rw [HE.out, hE, hT]; rfl
        have hb : sentB M p every trust = rightF M p every.toNat trust := by unfold sentB; rw [he]; rfl
        have hE' : 1 ≤ every ∧ every ≤ 60 := by unfold inB at hE; simpa using hE
        obtain ⟨E, rfl⟩ : ∃ E : Nat, every = (E : Int) := ⟨every.toNat, by omega⟩
        have HR := hid (fun (X : World) (hX : Below w.heap.size w X) => right_c X (some ⟨b, off, none⟩) a2 n cap n2 cap2 M p E trust hn hn2 hm hm2 (H.below hX) (H2.below hX) hP (by omega) (by omega))
        rw [he, hb, Int.toNat_natCast]
        obtain ⟨W, hW⟩ : ∃ W, W = colsM M := ⟨_, rfl⟩
        rw [← hW] at hT HC0
        clear hn H hn2 H2 hP he hb hc hpp hM hW hE' HT HW
        go_enter Tryz.func37, Tryz.ntmps37
        go_wp2_with first
          | (go_at_call 64; refine HV.out.mono ?_; rintro e w1 ⟨rfl, hb1⟩; have hc1' := HC0.out w1 hb1)
          | (go_at_call 45; refine (swithin_c _ _ _ _).mono ?_; rintro e w2 ⟨rfl, rfl⟩)
          | (go_at_call 66; refine (HR.out _ hb1).mono ?_; rintro e w3 ⟨rfl, hb3⟩)
        go_ret2
        exact ⟨rfl, chain hb1 hb3⟩

def awM : Mask := [[1, 1, 0], [0, 1, 1]]
def awP : List (List Int) := [[0, 0, 0], [0, 5, 0], [0, 5, 2]]
theorem aw_enc : encE awM awP 3 = 0 ∧ encF awM awP (Int.toNat 3) = [(true, [0, 0, 0]), (false, [5, 5]), (false, [0, 2])] := ⟨by kernel_rfl, by kernel_rfl⟩
theorem aw_sent : sentE awM awP 3 1 = 0 ∧ sentB awM awP 3 1 = true := ⟨by kernel_rfl, by kernel_rfl⟩
theorem ints_lit3 (w : World) (x y z : Int) (T : TypeId) : IntsAt (w.alloc (.cells #[.int .i64 x, .int .i64 y, .int .i64 z] T)) (some ⟨w.heap.size, 0, none⟩) [x, y, z] := fun j hj => ⟨w.heap.size, 0, rfl, by simp, by
  rw [World.cell?_alloc_at _ _ _ _ rfl]
  match j, hj with
  | 0, _ => rfl
  | 1, _ => rfl
  | 2, _ => rfl⟩
theorem ints_lit2 (w : World) (x y : Int) (T : TypeId) : IntsAt (w.alloc (.cells #[.int .i64 x, .int .i64 y] T)) (some ⟨w.heap.size, 0, none⟩) [x, y] := fun j hj => ⟨w.heap.size, 0, rfl, by simp, by
  rw [World.cell?_alloc_at _ _ _ _ rfl]
  match j, hj with
  | 0, _ => rfl
  | 1, _ => rfl⟩
theorem rows_three {w : World} {a1 a2 a3 : Option Addr} {n1 c1 n2 c2 n3 c3 : Nat} {x y z : List Int} (T : TypeId) (h1 : x.length = n1) (h2 : y.length = n2) (h3 : z.length = n3) (m1 : n1 ≤ maxLen) (m2 : n2 ≤ maxLen) (m3 : n3 ≤ maxLen) (H1 : IntsAt w a1 x) (H2 : IntsAt w a2 y) (H3 : IntsAt w a3 z) :
    RowsAt (w.alloc (.cells #[.slice a1 n1 c1, .slice a2 n2 c2, .slice a3 n3 c3] T)) (some ⟨w.heap.size, 0, none⟩) [x, y, z] := by
  have hb : Below w.heap.size w (w.alloc (.cells #[.slice a1 n1 c1, .slice a2 n2 c2, .slice a3 n3 c3] T)) := (Below.refl _ _).alloc (Nat.le_refl _) _
  intro j hj
  match j, hj with
  | 0, _ => exact ⟨w.heap.size, 0, a1, n1, c1, rfl, by simp, by rw [World.cell?_alloc_at _ _ _ _ rfl]; rfl, h1, m1, H1.below hb⟩
  | 1, _ => exact ⟨w.heap.size, 0, a2, n2, c2, rfl, by simp, by rw [World.cell?_alloc_at _ _ _ _ rfl]; rfl, h2, m2, H2.below hb⟩
  | 2, _ => exact ⟨w.heap.size, 0, a3, n3, c3, rfl, by simp, by rw [World.cell?_alloc_at _ _ _ _ rfl]; rfl, h3, m3, H3.below hb⟩

theorem awM_rows (w : World) : let W := ((w.alloc (.cells #[.int .i64 1, .int .i64 1, .int .i64 0] 3)).alloc (.cells #[.int .i64 0, .int .i64 1, .int .i64 1] 3)).alloc (.cells #[.slice (some ⟨w.heap.size, 0, none⟩) 3 3, .slice (some ⟨w.heap.size + 1, 0, none⟩) 3 3] 30)
    RowsAt W (some ⟨w.heap.size + 2, 0, none⟩) awM ∧ Below w.heap.size w W ∧ W.heap.size = w.heap.size + 3 := by
  have i1 := ints_lit3 w 1 1 0 3
  have i2 := ints_lit3 (w.alloc (.cells #[.int .i64 1, .int .i64 1, .int .i64 0] 3)) 0 1 1 3
  have b2 : ∀ o, Below (w.alloc (.cells #[.int .i64 1, .int .i64 1, .int .i64 0] 3)).heap.size (w.alloc (.cells #[.int .i64 1, .int .i64 1, .int .i64 0] 3)) ((w.alloc (.cells #[.int .i64 1, .int .i64 1, .int .i64 0] 3)).alloc o) := fun o => (Below.refl _ _).alloc (Nat.le_refl _) _
  have h := rows_two (c1 := 3) (c2 := 3) 30 rfl rfl (by decide) (by decide) (i1.below (b2 _)) i2
  simp only [World.size_alloc] at h
  exact ⟨h, ((((Below.refl _ _).alloc (Nat.le_refl _) _).alloc (by simp) _).alloc (by simp; omega) _), by simp⟩
theorem awP_rows (w : World) : let W := (((w.alloc (.cells #[.int .i64 0, .int .i64 0, .int .i64 0] 3)).alloc (.cells #[.int .i64 0, .int .i64 5, .int .i64 0] 3)).alloc (.cells #[.int .i64 0, .int .i64 5, .int .i64 2] 3)).alloc (.cells #[.slice (some ⟨w.heap.size, 0, none⟩) 3 3, .slice (some ⟨w.heap.size + 1, 0, none⟩) 3 3, .slice (some ⟨w.heap.size + 2, 0, none⟩) 3 3] 30)
    RowsAt W (some ⟨w.heap.size + 3, 0, none⟩) awP ∧ Below w.heap.size w W ∧ W.heap.size = w.heap.size + 4 := by
  obtain ⟨w1, hw1⟩ : ∃ w1, w1 = w.alloc (.cells #[.int .i64 0, .int .i64 0, .int .i64 0] 3) := ⟨_, rfl⟩
  have i1 := ints_lit3 w 0 0 0 3
  rw [← hw1] at i1 ⊢
  have i2 := ints_lit3 w1 0 5 0 3
  have s1 : w1.heap.size = w.heap.size + 1 := by rw [hw1]; simp
  obtain ⟨w2, hw2⟩ : ∃ w2, w2 = w1.alloc (.cells #[.int .i64 0, .int .i64 5, .int .i64 0] 3) := ⟨_, rfl⟩
  rw [← hw2] at i2 ⊢
  have b1 : Below w.heap.size w w1 := by rw [hw1]; exact (Below.refl _ _).alloc (Nat.le_refl _) _
  have b2 : Below w1.heap.size w1 w2 := by rw [hw2]; exact (Below.refl _ _).alloc (Nat.le_refl _) _
  have s2 : w2.heap.size = w.heap.size + 2 := by rw [hw2]; simp [s1]
  have i3 := ints_lit3 w2 0 5 2 3
  obtain ⟨w3, hw3⟩ : ∃ w3, w3 = w2.alloc (.cells #[.int .i64 0, .int .i64 5, .int .i64 2] 3) := ⟨_, rfl⟩
  rw [← hw3] at i3 ⊢
  have b3 : Below w2.heap.size w2 w3 := by rw [hw3]; exact (Below.refl _ _).alloc (Nat.le_refl _) _
  have s3 : w3.heap.size = w.heap.size + 3 := by rw [hw3]; simp [s2]
  rw [s1] at i2
  rw [s2] at i3
  have h := rows_three (c1 := 3) (c2 := 3) (c3 := 3) 30 rfl rfl rfl (by decide) (by decide) (by decide) ((i1.below b2).below b3) (i2.below b3) i3
  rw [s3] at h
  exact ⟨h, (chain (chain b1 b2) b3).alloc (by omega) _, by simp [s3]⟩

theorem awake8_c (w : World) : Calls Tryz.prog 14 #[] w fun e w' => e = .returned (.bool true) ∧ Below w.heap.size w w' := by
  obtain ⟨hM, hbA, hsA⟩ := awM_rows w
  obtain ⟨wA, hA⟩ : ∃ wA, wA = ((w.alloc (.cells #[.int .i64 1, .int .i64 1, .int .i64 0] 3)).alloc (.cells #[.int .i64 0, .int .i64 1, .int .i64 1] 3)).alloc (.cells #[.slice (some ⟨w.heap.size, 0, none⟩) 3 3, .slice (some ⟨w.heap.size + 1, 0, none⟩) 3 3] 30) := ⟨_, rfl⟩
  rw [← hA] at hM hbA hsA
  obtain ⟨hP, hbB, hsB⟩ := awP_rows wA
  obtain ⟨wB, hB⟩ : ∃ wB, wB = (((wA.alloc (.cells #[.int .i64 0, .int .i64 0, .int .i64 0] 3)).alloc (.cells #[.int .i64 0, .int .i64 5, .int .i64 0] 3)).alloc (.cells #[.int .i64 0, .int .i64 5, .int .i64 2] 3)).alloc (.cells #[.slice (some ⟨wA.heap.size, 0, none⟩) 3 3, .slice (some ⟨wA.heap.size + 1, 0, none⟩) 3 3, .slice (some ⟨wA.heap.size + 2, 0, none⟩) 3 3] 30) := ⟨_, rfl⟩
  rw [← hB] at hP hbB hsB
  have hMB := hM.below hbB
  have hbW := chain hbA hbB
  have hEN := sEncode_c wB (some ⟨w.heap.size + 2, 0, none⟩) (some ⟨wA.heap.size + 3, 0, none⟩) 2 2 3 3 awM awP 3 rfl (by decide) hMB rfl (by decide) hP
  rw [hsA] at hEN
  have HSE := hid (fun (X : World) (hX : Below wB.heap.size wB X) => sSent_c X (some ⟨w.heap.size + 2, 0, none⟩) (some ⟨wA.heap.size + 3, 0, none⟩) 2 2 3 3 awM awP 3 1 rfl (by decide) (hMB.below hX) rfl (by decide) (hP.below hX))
  rw [aw_sent.1, aw_sent.2, hsA] at HSE
  rw [aw_enc.1, aw_enc.2] at hEN
  have HEN := hid hEN
  have HBW := hid hbW
  have HSB := hid hsB
  have HSA := hid hsA
  have hBB := hB
  rw [hA] at hBB
  simp only [World.size_alloc] at hBB
  have HB := hid hBB
  clear hM hbA hsA hP hbB hsB hMB hbW hEN hA hB hBB
  go_enter Tryz.func14, Tryz.ntmps14
  go_wp2_with fail
  rw [← HB.out]
  refine (show Calls Tryz.prog _ _ wB _ from HEN.out.mono ?_)
  rintro e w1 ⟨hb1, ⟨h, _⟩ | ⟨_, v, base, rfl, hbs, hO⟩⟩
  · exact absurd rfl h
  obtain ⟨fa, fc, rfl, hfm, hfr⟩ := hO.reads
  have HFR := hid hfr
  have HB1 := hid hb1
  clear hO hfr hfm hb1 HEN HB
  go_wp2_with (go_at_call 37; refine (HSE.out w1 HB1.out).mono ?_; rintro e w2 ⟨rfl, hb2⟩; refine Stop.of ?_)
  refine Stop.go ?_
  obtain ⟨fb, fo, ra, rn, rc, rfl, hfb, hf0, hf1, hrn, hrm, hri⟩ := (HFR.out.below hb2) 2 (by decide)
  have hrn2 : rn = 2 := hrn.symm
  subst hrn2
  have hB2 := chain HB1.out hb2
  have hb5 : Below w2.heap.size w2 (w2.alloc (.cells #[.int .i64 0, .int .i64 2] 3)) := (Below.refl _ _).alloc (Nat.le_refl _) _
  have HSI := hid (s8Ints_c (w2.alloc (.cells #[.int .i64 0, .int .i64 2] 3)) ra (some ⟨w2.heap.size, 0, none⟩) 2 rc 2 2 [0, 2] [0, 2] rfl rfl (by decide) (by decide) (hri.below hb5) (ints_lit2 w2 0 2 3))
  have hd : decide (([0, 2] : List Int) = [0, 2]) = true := by decide
  rw [hd] at HSI
  have HB5 := hid (chain HBW.out (chain hB2 hb5))
  clear hB2 hb5 hd hri hrn hb2
  go_wp2_with (go_at_call 38; refine HSI.out.mono ?_; rintro e w7 ⟨rfl, k7, rfl⟩)
  go_ret
  exact ⟨rfl, below_drewN HB5.out k7⟩
end Go.Proofs.YtddcamcdjkiadaaGreatDoor

namespace Go.Proofs.YtddcamcdjkiadaaGreatDoor
open Go.RowKit
set_option linter.unusedVariables false

def TruthB (e : Ending) : Prop := ∃ b, e = .returned (.bool b)
theorem TruthB.mk (b : Bool) : TruthB (.returned (.bool b)) := ⟨b, rfl⟩

set_option maxHeartbeats 1000000 in
theorem l8fit_c (w : World) (a : Option Addr) (n cap : Nat) (M : Mask) (hn : M.length = n) (hm : n ≤ maxLen) (H : RowsAt w a M) :
    Calls Tryz.prog 12 #[.slice a n cap] w fun e w' => TruthB e ∧ w = w' := by
  have HN := hid hn
  have HH := hid H
  unfold maxLen at hm
  clear hn H
  go_enter Tryz.func12, Tryz.ntmps12
  go_wp2
  go_loop [7] (fun i => ∃ k : Nat, k ≤ n ∧ i = .int .i64 k) (fun i => n - (intOf i).toNat)
  case atStart => exact ⟨0, Nat.zero_le _, rfl⟩
  case round =>
    obtain ⟨k, hk, rfl⟩ := hrel
    by_cases hlt : k < n
    · obtain ⟨b, off, ra, rn, rc, rfl, hbs, hc, hrn, hrm, hri⟩ := HH.out k (by rw [HN.out]; exact hlt)
      clear hrn hri
      by_cases h1 : (6 : Int) < (rn : Int) <;> by_cases h2 : (rn : Int) ≤ 10 <;> by_cases h3 : (20 : Int) < (rn : Int)
      all_goals
        go_wp2
        first
          | (go_round
             case rel => exact ⟨k + 1, by omega, by go_num⟩
             case measure => simp [intOf]; omega)
          | (go_ret
             exact ⟨TruthB.mk _, rfl⟩)
    · go_wp2
      go_ret
      exact ⟨TruthB.mk _, rfl⟩

set_option maxHeartbeats 1000000 in
theorem l8frames_c (w : World) (a2 : Option Addr) (n2 cap2 : Nat) (L : List Frm) (hn2 : L.length = n2) (hm2 : n2 ≤ maxLen) (H2 : FramesAt w a2 L) (most : Nat) :
    Calls Tryz.prog 13 #[.slice a2 n2 cap2, .int .i64 most] w fun e w' => TruthB e ∧ Below w.heap.size w w' := by
  have HN := hid hn2
  have HH := hid H2
  unfold maxLen at hm2
  clear hn2 H2
  go_enter Tryz.func13, Tryz.ntmps13
  go_wp2
  go_loopw [9] (fun i wr => ∃ k : Nat, k ≤ n2 ∧ i = .int .i64 k ∧ Below w.heap.size w wr) (fun i _ => n2 - (intOf i).toNat)
  case atStart => exact ⟨0, Nat.zero_le _, rfl, Below.refl _ _⟩
  case round =>
    obtain ⟨k, hk, rfl, hb⟩ := hrel
    by_cases hlt : k < n2
    · obtain ⟨b, off, ra, rn, rc, rfl, hbs, h0, hc, hrn, hrm, hri⟩ := (HH.out.below hb) k (by rw [HN.out]; exact hlt)
      obtain ⟨K, hK⟩ : ∃ K, K = (L[k]'(by rw [HN.out]; exact hlt)).1 := ⟨_, rfl⟩
      rw [← hK] at h0
      have hba : ∀ o : Obj, Below w.heap.size w (wr.alloc o) := fun o => hb.alloc hb.size o
      have HBA := hid hba
      clear hrn hri hK hb hba
      by_cases h3 : (20 : Int) < (rn : Int)
      · go_wp2
        go_ret
        exact ⟨TruthB.mk _, HBA.out _⟩
      · go_wp2
        exact ⟨⟨k + 1, by omega, by go_num, HBA.out _⟩, by simp [intOf]; omega⟩
    · obtain rfl : k = n2 := by omega
      have HB := hid hb
      clear hb
      by_cases h1 : (k : Int) ≤ (most : Int) <;> by_cases h2 : (60 : Int) < (k : Int) <;> by_cases h3 : (k : Int) < 64
      all_goals
        go_wp2
        go_ret
        exact ⟨TruthB.mk _, HB.out⟩
end Go.Proofs.YtddcamcdjkiadaaGreatDoor

namespace Go.Proofs.YtddcamcdjkiadaaGreatDoor
open Go.RowKit Go.Shelf
set_option linter.unusedVariables false

theorem text_small {M : Mask} {fs : List Frm} (h : validB M fs = true) : (formatS M fs).length ≤ 13800 := by
  obtain ⟨_, v1, v2, v3⟩ := valid_frames h
  have e : formatS M fs = fs.flatMap lineL := by unfold formatS; rw [h]; rfl
  rw [e]
  have h1 := linesL_len (t := fs) fun x hx => lineL_len (v3 x hx).1 (v3 x hx).2
  omega

set_option maxRecDepth 100000 in
set_option maxHeartbeats 8000000 in
theorem streamTexts_c (w : World) (hX : TabX w) (a : Option Addr) (n cap : Nat) (M : Mask) (hn : M.length = n) (hm : n ≤ maxLen) (H : RowsAt w a M) (_w0 : ∀ y ∈ M, ∀ z ∈ y, -9223372036854775808 ≤ z ∧ z ≤ 9223372036854775807)
    (a1 : Option Addr) (n1 c1 : Nat) (F : List Frm) (hn1 : F.length = n1) (hm1 : n1 ≤ maxLen) (H1 : FramesAt w a1 F) (_w1 : ∀ x ∈ F, ∀ z ∈ x.2, -9223372036854775808 ≤ z ∧ z ≤ 9223372036854775807) (s : ByteArray) (hs : s.size ≤ 9223372036854775807) :
    Calls Tryz.prog 4 #[.slice a n cap, .slice a1 n1 c1, .string s] w fun e w' => e = .returned (.bool true) ∧ Below w.heap.size w w' := by
  clear _w0 _w1
  have HFit := hid (l8fit_c w a n cap M hn hm H)
  have HFr := hid (l8frames_c w a1 n1 c1 F hn1 hm1 H1 40)
  have HAW := hid (fun X => awake8_c X)
  have HP1 := hid (fun (X : World) (hb : Below w.heap.size w X) (t : ByteArray) (ht : t.size ≤ 9223372036854775807) => sParse_c X (hX.below hb) a n cap M hn hm (H.below hb) t ht)
  have HP2 := hid (fun (X : World) (hb : Below w.heap.size w X) => r8Parse_c X (hX.below hb) a n cap M hn hm (H.below hb) s hs)
  have HF1 := hid (fun (X : World) (hb : Below w.heap.size w X) => sFormat_c X ((hX.below hb).1) a n cap M hn hm (H.below hb) a1 n1 c1 F hn1 hm1 (H1.below hb))
  have HF2 := hid (fun (X : World) (hb : Below w.heap.size w X) => r8Format_c X ((hX.below hb).1) a n cap M hn hm (H.below hb) a1 n1 c1 F hn1 hm1 (H1.below hb))
  have HVL := hid (fun (X : World) (hb : Below w.heap.size w X) => svalid_c X a n cap M hn hm (H.below hb) a1 n1 c1 F hn1 hm1 (H1.below hb))
  have HFF := hid (fun (X : World) (hb : Below w.heap.size w X) => H1.below hb)
  have HN1 := hid hn1
  have HM1 := hid hm1
  have HBK := hid (fun (h : validB M F = true) => show (formatS M F).length ≤ 13800 ∧ parseSF M (formatS M F) = (F, 0, 0) from ⟨text_small h, parseSF_back h (by have := text_small h; omega)⟩)
  have HPF := hid (parseSF_few M s.data.toList)
  clear hn hm H hn1 hm1 H1 hX
  go_enter Tryz.func4, Tryz.ntmps4
  go_wp2_with (go_at_call 12; refine HFit.out.mono ?_; rintro e w1 ⟨⟨b, rfl⟩, rfl⟩; refine Stop.of ?_)
  refine Stop.go ?_
  cases b with
  | false =>
    go_wp2_with (go_at_call 14; refine (HAW.out _).mono ?_; rintro e w2 ⟨rfl, hb2⟩)
    go_ret
    exact ⟨rfl, hb2⟩
  | true =>
    go_wp2_with (go_at_call 13; refine HFr.out.mono ?_; rintro e w2 ⟨⟨b2, rfl⟩, hb2⟩; refine Stop.of ?_)
    refine Stop.go ?_
    have HB2 := hid hb2
    clear hb2
    cases b2 with
    | false =>
      go_wp2_with (go_at_call 14; refine (HAW.out _).mono ?_; rintro e w3 ⟨rfl, hb3⟩)
      go_ret
      exact ⟨rfl, chain HB2.out hb3⟩
    | true =>
      have hcs : (3000 < s.size ∧ s.size ≤ 65536) ∨ ¬ 3000 < s.size ∨ (3000 < s.size ∧ ¬ s.size ≤ 65536) := by omega
      rcases hcs with ⟨k1, k2⟩ | hgo
      · have d1 : (3000 : Int) < (s.size : Int) := by omega
        have d2 : (s.size : Int) ≤ 65536 := by omega
        go_wp2_with (go_at_call 14; refine (HAW.out _).mono ?_; rintro e w3 ⟨rfl, hb3⟩)
        go_ret
        exact ⟨rfl, chain HB2.out hb3⟩
      · have hgo2 : (¬ (3000 : Int) < (s.size : Int)) ∨ ((3000 : Int) < (s.size : Int) ∧ ¬ (s.size : Int) ≤ 65536) := by omega
        clear hgo
        rcases hgo2 with d1 | ⟨d1, d2⟩
        all_goals
          obtain ⟨PT, hPT⟩ : ∃ P, P = parseSF M s.data.toList := ⟨_, rfl⟩
          have HPA := hid (HP1.out w2 HB2.out s hs)
          have HPB := hid (fun X (hb : Below w.heap.size w X) => HP2.out X hb)
          have HPF' := HPF
          rw [← hPT] at HPA HPB HPF'
          have HPFL := hid HPF'.out
          clear hPT HPF'
          go_wp2_with (go_at_call 15; refine HPA.out.mono ?_; rintro e w3 ⟨v3, rfl, ho3, hb3⟩; refine Stop.of ?_)
          refine Stop.go ?_
          obtain ⟨a3, c3, rfl, hm3, hf3⟩ := ho3.reads
          have HB3 := hid (chain HB2.out hb3)
          have HF3 := hid hf3
          clear hb3 ho3 hf3
          go_wp2_with (go_at_call 16; refine (HPB.out _ HB3.out).mono ?_; rintro e w4 ⟨v4, rfl, ho4, hb4⟩; refine Stop.of ?_)
          refine Stop.go ?_
          obtain ⟨a4, c4, rfl, hm4, hf4⟩ := ho4.reads
          have HB4 := hid (chain HB3.out hb4)
          have hsm := s8Frames_c w4 a3 a4 PT.1.length c3 PT.1.length c4 PT.1 PT.1 rfl rfl hm3 hm4 (HF3.out.below hb4) hf4
          rw [decide_eq_true (rfl : PT.1 = PT.1)] at hsm
          have HSM := hid (hsm.mono fun e w' h => show e = Ending.returned (.bool true) ∧ Below w4.heap.size w4 w' from ⟨h.1, by obtain ⟨k, hk⟩ := h.2; rw [hk]; exact below_drewN (Below.refl _ _) _⟩)
          clear hb4 ho4 hf4 hsm
          obtain ⟨p1, hp1⟩ : ∃ p, p = PT.1.length := ⟨_, rfl⟩
          obtain ⟨p2, hp2⟩ : ∃ p, p = PT.2.1 := ⟨_, rfl⟩
          obtain ⟨p3, hp3⟩ : ∃ p, p = PT.2.2 := ⟨_, rfl⟩
          rw [← hp1] at HSM ⊢
          rw [← hp2, ← hp3]
          clear hp1 hp2 hp3 hm3 hm4 HPA HPB HPFL HF3
          go_wp2_with (go_at_call 17; refine HSM.out.mono ?_; rintro e w5 ⟨rfl, hb5⟩; refine Stop.of ?_)
          refine Stop.go ?_
          have HB5 := hid (chain HB4.out hb5)
          clear hb5
          obtain ⟨Z, hZ⟩ : ∃ Z : ByteArray, Z = ⟨(formatS M F).toArray⟩ := ⟨_, rfl⟩
          have hFA := HF1.out w5 HB5.out
          have hFB := fun X (hb : Below w.heap.size w X) => HF2.out X hb
          rw [← hZ] at hFA hFB
          have HFA := hid hFA
          have HFB := hid hFB
          have HZ := hid hZ
          clear hFA hFB hZ
          go_wp2_with (go_at_call 18; refine HFA.out.mono ?_; rintro e w6 ⟨rfl, hb6⟩; refine Stop.of ?_)
          refine Stop.go ?_
          have HB6 := hid (chain HB5.out hb6)
          clear hb6
          go_wp2_with (go_at_call 19; refine (HFB.out _ HB6.out).mono ?_; rintro e w7 ⟨rfl, hb7⟩; refine Stop.of ?_)
          refine Stop.go ?_
          have HB7 := hid (chain HB6.out hb7)
          clear hb7
          have HV7 := hid (HVL.out w7 HB7.out)
          have HBK2 := HBK
          obtain ⟨vb, hvb⟩ : ∃ b, b = validB M F := ⟨_, rfl⟩
          rw [← hvb] at HV7 HBK2
          have HBK3 := hid HBK2.out
          clear hvb HBK2
          cases vb with
          | false =>
            go_wp2_with (first | (go_at_call 20; refine HV7.out.mono ?_; rintro e w8 ⟨rfl, hb8⟩) | (go_at_call 14; refine (HAW.out _).mono ?_; rintro e w9 ⟨rfl, hb9⟩))
            go_ret
            exact ⟨rfl, chain HB7.out (chain hb8 hb9)⟩
          | true =>
            obtain ⟨hk1, hk2⟩ := HBK3.out (by first | rfl | trivial)
            go_wp2_with (go_at_call 20; refine HV7.out.mono ?_; rintro e w8 ⟨rfl, hb8⟩; refine Stop.of ?_)
            refine Stop.go ?_
            have HB8 := hid (chain HB7.out hb8)
            have hZd : Z.data.toList = formatS M F := by rw [HZ.out]
            have hPC := HP1.out w8 HB8.out Z (by rw [Lib.size_eq, hZd]; omega)
            rw [hZd, hk2] at hPC
            have HPC := hid hPC
            clear hb8 hk1 hk2 hZd hPC
            go_wp2_with (go_at_call 15; refine HPC.out.mono ?_; rintro e w9 ⟨v9, rfl, ho9, hb9⟩; refine Stop.of ?_)
            refine Stop.go ?_
            obtain ⟨a9, c9, rfl, hm9, hf9⟩ := ho9.reads
            have HB9 := hid (chain HB8.out hb9)
            have hsm := s8Frames_c w9 a9 a1 F.length c9 n1 c1 F F rfl HN1.out hm9 HM1.out hf9 (HFF.out w9 HB9.out)
            rw [decide_eq_true (rfl : F = F)] at hsm
            have HSM2 := hid (hsm.mono fun e w' h => show e = Ending.returned (.bool true) ∧ Below w9.heap.size w9 w' from ⟨h.1, by obtain ⟨k, hk⟩ := h.2; rw [hk]; exact below_drewN (Below.refl _ _) _⟩)
            clear hb9 ho9 hf9 hsm hm9
            go_wp2_with (first | (go_at_call 17; refine HSM2.out.mono ?_; rintro e w10 ⟨rfl, hb10⟩; have HB10 := hid (chain HB9.out hb10); clear hb10) | (go_at_call 14; refine (HAW.out _).mono ?_; rintro e w11 ⟨rfl, hb11⟩))
            go_ret
            exact ⟨rfl, chain HB10.out hb11⟩
end Go.Proofs.YtddcamcdjkiadaaGreatDoor

namespace Go.Proofs.YtddcamcdjkiadaaGreatDoor
open Go.ChangeShapes Go.WideShapes Go.ChangeAt Go.RowKit Go.Deep
set_option linter.unusedVariables false

def Fits64 (n : Int) : Prop := -9223372036854775808 ≤ n ∧ n ≤ 9223372036854775807
theorem fits64 {n : Int} (h : (Lit.int .i64 n).wf = true) : Fits64 n := by
  simpa [Fits64, Lit.wf, IntKind.min, IntKind.max, IntKind.signed, IntKind.bits] using h

theorem cell_plain {w : World} {a : Addr} {v : Value} (h : w.cell? a = some v) : a = ⟨a.block, a.off, none⟩ ∧ a.block < w.heap.size := by
  unfold World.cell? at h
  split at h
  · rename_i c _ _ hb
    obtain ⟨b, o, s⟩ := a
    cases s with
    | none => exact ⟨rfl, (Array.getElem?_eq_some_iff.1 hb).1⟩
    | some s => simp at h
  · simp at h

theorem add_plain (b o : Nat) (i : Nat) : (Addr.mk b o none).add i = ⟨b, o + i, none⟩ := by
  unfold Addr.add
  split
  · rename_i h; rw [h]; rfl
  · rfl

section
variable {H : Type} {enc : TypeId × Value → H} {P : Program} {w : World} {base : Nat} {held : Bool}

theorem ints_opened {e q : TypeId} {fuel : Nat} {a : Option Addr} {n cap : Nat} {x : DataW H × List MemPlace} (he : P.underlying e = some (.slice q)) (hq : P.underlying q = some (.int .i64)) (cq : P.cellsOf q = 1)
    (h : DataW.trod enc P w base (fun _ => true) held fuel e [.slice a n cap] = some x) : ∃ l : List Int, l.length = n ∧ n ≤ maxLen ∧ IntsAt w a l ∧ ∀ y ∈ l, Fits64 y := by
  rcases open_ints he hq cq h with ⟨hcs, _⟩ | ⟨x, l, c, zs, hcs, _, hl, hm, hz, _, hcell, hwz⟩
  · simp at hcs
    obtain ⟨rfl, rfl, rfl⟩ := hcs
    exact ⟨[], rfl, by decide, fun j hj => by simp at hj, fun y hy => by simp at hy⟩
  · simp at hcs
    obtain ⟨rfl, rfl, rfl⟩ := hcs
    simp only [if_true] at hz
    refine ⟨zs.take n, by rw [List.length_take]; omega, by omega, fun j hj => ?_, fun y hy => fits64 (hwz y (List.mem_of_mem_take hy))⟩
    rw [List.length_take] at hj
    have h0 := cell_plain (hcell 0 (by omega))
    simp only [Addr.add, if_true] at h0
    obtain ⟨b, o, s⟩ := x
    have hs : s = none := by have := h0.1; simp at this; exact this
    subst hs
    refine ⟨b, o, rfl, h0.2, ?_⟩
    have := hcell j (by omega)
    rw [add_plain] at this
    rw [this]
    simp [List.getElem?_take, show j < n by omega, List.getD]

theorem arg_rows {r : Reach} {b0 : Nat} {t e q : TypeId} {v : Value} {d : DataW H} {p : List MemPlace} (ht : P.underlying t = some (.slice e)) (ce : P.cellsOf e = 1) (he : P.underlying e = some (.slice q)) (hq : P.underlying q = some (.int .i64)) (cq : P.cellsOf q = 1)
    (hv : Value.okWide P w r b0 t v) (h : DataW.Trod enc P w base (fun _ => true) held t v d p) : ∃ a n cap, ∃ l : List (List Int), v = .slice a n cap ∧ l.length = n ∧ n ≤ maxLen ∧ RowsAt w a l ∧ ∀ y ∈ l, ∀ z ∈ y, Fits64 z := by
  obtain ⟨a, n, cap, rfl⟩ := okWide_slice ht hv
  obtain ⟨fuel, hf⟩ := h
  rcases open_slice1 ht ce (by simpa [Value.cells] using hf) with ⟨hcs, _⟩ | ⟨x, len, c', m, nn, V, D, Pl, hcs, _, hl, hm, hmm, _, hx⟩
  · simp at hcs
    obtain ⟨rfl, rfl, rfl⟩ := hcs
    exact ⟨none, 0, 0, [], rfl, rfl, by decide, fun j hj => by simp at hj, fun y hy => by simp at hy⟩
  simp at hcs
  obtain ⟨rfl, rfl, rfl⟩ := hcs
  simp only [if_true] at hmm
  have each : ∀ i, i < n → ∃ y : List Int × Option Addr × Nat × Nat, w.cell? (x.add i) = some (.slice y.2.1 y.2.2.1 y.2.2.2) ∧ y.1.length = y.2.2.1 ∧ y.2.2.1 ≤ maxLen ∧ IntsAt w y.2.1 y.1 ∧ (∀ z ∈ y.1, Fits64 z) := by
    intro i hi
    obtain ⟨hc, t0⟩ := hx i (by omega)
    have hsl : ∃ ra rn rc, V i = .slice ra rn rc := by
      rcases open_ints he hq cq t0 with ⟨hcs, _⟩ | ⟨x, l, c, zs, hcs, _⟩
      · simp at hcs; exact ⟨_, _, _, hcs⟩
      · simp at hcs; exact ⟨_, _, _, hcs⟩
    obtain ⟨ra, rn, rc, hV⟩ := hsl
    rw [hV] at hc t0
    obtain ⟨l, q1, q2, q3, q4⟩ := ints_opened he hq cq t0
    exact ⟨(l, ra, rn, rc), hc, q1, q2, q3, q4⟩
  haveI : Inhabited (List Int × Option Addr × Nat × Nat) := ⟨([], none, 0, 0)⟩
  obtain ⟨y, hy⟩ := choose_lt each
  refine ⟨some x, n, cap, (List.range n).map fun i => (y i).1, rfl, by simp, by omega, fun j hj => ?_, fun z hz => ?_⟩
  · have hjn : j < n := by simpa using hj
    have hp := cell_plain (hy 0 (by omega)).1
    simp only [Addr.add, if_true] at hp
    obtain ⟨b, o, s⟩ := x
    have hs' : s = none := by have := hp.1; simp at this; exact this
    subst hs'
    obtain ⟨r0, r3, r4, r5, r6⟩ := hy j hjn
    rw [add_plain] at r0
    refine ⟨b, o, (y j).2.1, (y j).2.2.1, (y j).2.2.2, rfl, hp.2, r0, ?_, r4, ?_⟩ <;> simp only [List.getElem_map, List.getElem_range] <;> assumption
  · obtain ⟨i, hi, rfl⟩ := List.mem_map.1 hz
    exact (hy i (List.mem_range.1 hi)).2.2.2.2
end
end Go.Proofs.YtddcamcdjkiadaaGreatDoor

namespace Go.Proofs.YtddcamcdjkiadaaGreatDoor
open Go.ChangeShapes Go.WideShapes Go.ChangeAt Go.RowKit Go.Deep
set_option linter.unusedVariables false

section
variable {H : Type} {enc : TypeId × Value → H} {P : Program} {w : World} {base : Nat} {held : Bool}
theorem arg_frames {r : Reach} {b0 : Nat} {t c q : TypeId} {f0 f1 : Field} {v : Value} {d : DataW H} {p : List MemPlace} (ht : P.underlying t = some (.slice c)) (hs : P.underlying c = some (.struct #[f0, f1])) (hone : oneCellFields P #[f0, f1] = true) (hC : P.cellsOf c = 2)
    (he0 : P.underlying f0.type = some .bool) (he1 : P.underlying f1.type = some (.slice q)) (hq : P.underlying q = some (.int .i64)) (cq : P.cellsOf q = 1)
    (hv : Value.okWide P w r b0 t v) (h : DataW.Trod enc P w base (fun _ => true) held t v d p) : ∃ a n cap, ∃ l : List Frm, v = .slice a n cap ∧ l.length = n ∧ n ≤ maxLen ∧ FramesAt w a l ∧ ∀ y ∈ l, ∀ z ∈ y.2, Fits64 z := by
  obtain ⟨a, n, cap, rfl⟩ := okWide_slice ht hv
  obtain ⟨fuel, hf⟩ := h
  rcases open_slice ht (by simpa [Value.cells] using hf) with ⟨hcs, _⟩ | ⟨x, len, c', m, nn, D, Pl, hcs, _, hl, hm, hmm, _, hx⟩
  · simp at hcs
    obtain ⟨rfl, rfl, rfl⟩ := hcs
    exact ⟨none, 0, 0, [], rfl, rfl, by decide, fun j hj => by simp at hj, fun y hy => by simp at hy⟩
  simp at hcs
  obtain ⟨rfl, rfl, rfl⟩ := hcs
  simp only [if_true] at hmm
  obtain ⟨o0, k0⟩ := hone_of hone 0 f0 rfl
  obtain ⟨o1, k1⟩ := hone_of hone 1 f1 rfl
  have hsl : ∀ {fuel : Nat} {e : TypeId} (he : P.underlying e = some (.slice q)) {v0 : Value} {x : DataW H × List MemPlace}, DataW.trod enc P w base (fun _ => true) held fuel e [v0] = some x → ∃ ra rn rc, v0 = .slice ra rn rc := by
    intro fuel e he v0 x k0
    rcases open_ints he hq cq k0 with ⟨hcs, _⟩ | ⟨x, l, c, zs, hcs, _⟩
    · simp at hcs; exact ⟨_, _, _, hcs⟩
    · simp at hcs; exact ⟨_, _, _, hcs⟩
  have each : ∀ i, i < n → ∃ y : Frm × (Option Addr × Nat × Nat), w.cell? (x.add (i * 2)) = some (.bool y.1.1) ∧ w.cell? ((x.add (i * 2)).add 1) = some (.slice y.2.1 y.2.2.1 y.2.2.2) ∧
      y.1.2.length = y.2.2.1 ∧ y.2.2.1 ≤ maxLen ∧ IntsAt w y.2.1 y.1.2 ∧ (∀ z ∈ y.1.2, Fits64 z) := by
    intro i hi
    obtain ⟨cs', hc, htr⟩ := hx i (by omega)
    rw [hC] at hc
    obtain ⟨_, hlen, hcell⟩ := World.cells?_some hc
    match cs', hlen with
    | [c0, c1], _ =>
      obtain ⟨y0, y1, n', _, _, t0, t1⟩ := trod_struct2 hs htr
      rw [o0, k0] at t0
      rw [o1, k1] at t1
      simp at t0 t1
      obtain ⟨kf, e0, _⟩ := DataW.trod_bool he0 t0
      simp at e0
      subst e0
      obtain ⟨ra, rn, rc, rfl⟩ := hsl he1 t1
      obtain ⟨l1, q1, q2, q3, q4⟩ := ints_opened he1 hq cq t1
      have hc0 := hcell 0 (by omega)
      rw [show (x.add (i * 2)).add 0 = x.add (i * 2) from rfl] at hc0
      exact ⟨((kf, l1), (ra, rn, rc)), by simpa using hc0, by simpa using hcell 1 (by omega), q1, q2, q3, q4⟩
  haveI : Inhabited (Frm × (Option Addr × Nat × Nat)) := ⟨((false, []), (none, 0, 0))⟩
  obtain ⟨y, hy⟩ := choose_lt each
  refine ⟨some x, n, cap, (List.range n).map fun i => (y i).1, rfl, by simp, by omega, fun j hj => ?_, fun z hz => ?_⟩
  · have hjn : j < n := by simpa using hj
    have hp := cell_plain (hy 0 (by omega)).1
    simp only [Addr.add, Nat.zero_mul, if_true] at hp
    obtain ⟨b, o, s⟩ := x
    have hs' : s = none := by have := hp.1; simp at this; exact this
    subst hs'
    obtain ⟨r0, r1, r3, r4, r5, r6⟩ := hy j hjn
    rw [add_plain] at r0 r1
    rw [add_plain] at r1
    refine ⟨b, o, (y j).2.1, (y j).2.2.1, (y j).2.2.2, rfl, hp.2, ?_, r1, ?_, r4, ?_⟩ <;> simp only [List.getElem_map, List.getElem_range] <;> assumption
  · obtain ⟨i, hi, rfl⟩ := List.mem_map.1 hz
    obtain ⟨r0, r1, r3, r4, r5, r6⟩ := hy i (List.mem_range.1 hi)
    exact r6
end
end Go.Proofs.YtddcamcdjkiadaaGreatDoor

namespace Go.Proofs.YtddcamcdjkiadaaGreatDoor
open Go.ChangeShapes Go.WideShapes Go.ChangeAt Go.RowKit Go.Deep
set_option linter.unusedVariables false

abbrev laidX : List (String × DataW Unit) := Rows.streamTextsRow.laid

theorem tab_type : (Tryz.prog.globals[5]?).map (·.type) = some 187 := by kernel_rfl
theorem gER : Tryz.prog.globalNamed "strconv.ErrRange" = some 2 := by kernel_rfl
theorem gERType : (Tryz.prog.globals[2]?).map (·.type) = some 56 := by kernel_rfl
theorem gES : Tryz.prog.globalNamed "strconv.ErrSyntax" = some 1 := by kernel_rfl
theorem gESType : (Tryz.prog.globals[1]?).map (·.type) = some 56 := by kernel_rfl
theorem star_err : "*" ++ "errors.errorString" = "*errors.errorString" := by decide
theorem row_err (u : TypeId) (h : Tryz.prog.typeName? 3 u = some "*errors.errorString") : u = 169 :=
  typeName_ptr_named (nm := "errors.errorString") (by rw [star_err]; kernel_rfl) (by kernel_rfl) (by decide) u (by rw [star_err]; exact h)
theorem maxLen_cell (W : World) (h : W.ShapedOpen Tryz.prog) : ∃ m, W.cell? ⟨0, 0, none⟩ = some (.int .i64 m) :=
  Go.Proofs.cell_of_shapedOpen_int (zero := #[.int .i64 0]) (t := 3) h (of_decide_eq_true (by kernel_rfl)) (by kernel_rfl) rfl (by kernel_rfl) (by kernel_rfl) Tryz.underlying3

theorem tabX_of_laid {W : World} (h : laidMetH Tryz.prog laidX W) (hs : W.ShapedOpen Tryz.prog) : TabX W := by
  rw [MakeChecks.laidMetH_plain _ _ _ (by kernel_rfl)] at h
  have h3 := (laidMet.tail (laidMet.tail h))
  have h5 := (laidMet.tail (laidMet.tail h3))
  have h6 := laidMet.tail h5
  refine ⟨?_, maxLen_cell W hs, ?_, ?_⟩
  · have e : (Rows.laid_internal_strconv_uint64pow10 : DataW Unit) = Lib.tabData .u64 Lib.pow10Tab := by kernel_rfl
    rw [e] at h3
    exact Lib.tabIs_of_head tabNamed tab_type Tryz.underlying187 Tryz.underlying151 (by kernel_rfl) (by kernel_rfl) h3
  · obtain ⟨a, s, hv, _⟩ := laid_sentinel h6 gES gESType Tryz.underlying56 row_err Tryz.underlying169 Tryz.underlying171 rfl rfl Tryz.underlying9 (by kernel_rfl) (by kernel_rfl)
    exact ⟨_, by have h0 := World.var?_cell gES hv 0; simpa using h0, .inr ⟨_, _, rfl⟩⟩
  · obtain ⟨a, s, hv, _⟩ := laid_sentinel h5 gER gERType Tryz.underlying56 row_err Tryz.underlying169 Tryz.underlying171 rfl rfl Tryz.underlying9 (by kernel_rfl) (by kernel_rfl)
    exact ⟨_, by have h0 := World.var?_cell gER hv 0; simpa using h0, .inr ⟨_, _, rfl⟩⟩
end Go.Proofs.YtddcamcdjkiadaaGreatDoor
