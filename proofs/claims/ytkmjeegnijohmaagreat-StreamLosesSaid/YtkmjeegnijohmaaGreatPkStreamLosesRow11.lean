/- Walks and plain laws for StreamLosesRow, part 11. -/
import Derived.WalkSpells
import Derived.Maps.AppendAt
import Derived.ChangeOld
import Derived.Deep.Slices
import Derived.Lib.SmallJoins
import Derived.Test.YtkmjeegnijohmaaGreatPkStreamLosesRow10
namespace Go.Proofs.YtkmjeegnijohmaaGreat
open Go.RowKit
set_option linter.unusedVariables false

theorem OptV.oneCell {W : World} {base : Nat} {S : Nat → Prop} {o : Option (List Int)} {u : Value} (h : OptV W base S o u) : u.oneCell' = true := by
  rcases h with ⟨_, rfl⟩ | ⟨x, b, c, _, rfl, _⟩ <;> rfl
theorem OptV.slice {W : World} {base : Nat} {S : Nat → Prop} {o : Option (List Int)} {u : Value} (h : OptV W base S o u) : ∃ a c, u = .slice a (o.getD []).length c ∧ (o.getD []).length ≤ maxLen ∧ IntsAt W a (o.getD []) ∧ (a = none ↔ o = none) := by
  rcases h with ⟨rfl, rfl⟩ | ⟨x, b, c, rfl, rfl, _, _, h, _, h2⟩
  · exact ⟨none, 0, rfl, by simp, fun j hj => by simp at hj, by simp⟩
  · exact ⟨_, c, rfl, h2, h.ints, by simp⟩
def PicsO (W : World) (base : Nat) (S : Nat → Prop) (v : Value) (os : List (Option (List Int))) : Prop :=
  ∃ vs, W.ownsRow base 33 1 v os.length vs ∧ (∀ k, v.ownBlock = some k → S k) ∧ ∀ j (hj : j < os.length), ∃ u, vs[j]? = some u ∧ OptV W base S os[j] u
theorem PicsO.nil (W : World) (base : Nat) (S : Nat → Prop) : PicsO W base S (.slice none 0 0) [] :=
  ⟨[], World.ownsRow_nil _ _ _ _, fun k hk => by simp [Value.ownBlock] at hk, fun j hj => by simp at hj⟩
theorem PicsO.slice {W : World} {base : Nat} {S : Nat → Prop} {v : Value} {T : List (Option (List Int))} (h : PicsO W base S v T) : ∃ a c, v = .slice a T.length c := by
  obtain ⟨xs, ho, _⟩ := h; exact ownsRow_slice ho
theorem PicsO.keep {W W' : World} {base : Nat} {S S' K : Nat → Prop} {v : Value} {ls : List (Option (List Int))} (h : PicsO W base S v ls) (hk : Keep K W W') (hS : ∀ b, S b → b < W.heap.size → K b ∧ S' b) : PicsO W' base S' v ls := by
  obtain ⟨vs, ho, hg, he⟩ := h
  refine ⟨vs, ⟨ho.1, ?_⟩, fun k hk' => ?_, fun j hj => ?_⟩
  · rcases ho.2 with hn | ⟨g, cap, cur, rfl, hb, hgg, rest⟩
    · exact .inl hn
    · have hlt := (Array.getElem?_eq_some_iff.1 hgg).1
      exact .inr ⟨g, cap, cur, rfl, hb, (hk.block g hlt (hS g (hg g rfl) hlt).1).trans hgg, rest⟩
  · rcases ho.2 with ⟨rfl, _⟩ | ⟨g, cap, cur, rfl, hb, hgg, rest⟩
    · simp [Value.ownBlock] at hk'
    · obtain rfl : g = k := by simpa [Value.ownBlock] using hk'
      exact (hS g (hg g rfl) (Array.getElem?_eq_some_iff.1 hgg).1).2
  · obtain ⟨u, hu, hel⟩ := he j hj
    exact ⟨u, hu, hel.keep hk (fun b _ hb hs => hS b hs hb)⟩
theorem PicsO.below {W W' : World} {base : Nat} {S : Nat → Prop} {v : Value} {ls : List (Option (List Int))} (h : PicsO W base S v ls) (hb : Below W.heap.size W W') : PicsO W' base S v ls :=
  h.keep (Keep.of_below hb : Keep (fun _ => True) _ _) (fun _ h _ => ⟨trivial, h⟩)
theorem OptV.grown {W w1 w2 : World} {base n : Nat} {S : Nat → Prop} {v u : Value} {l : Option (List Int)} {vs : List Value} (ho : W.ownsRow base 33 1 v n vs) (h : OptV W base S l u) (hW1 : Below W.heap.size W w1) (hg : w1.grownBy w2 v.ownBlock) : OptV w2 base S l u := by
  rcases h with (h | ⟨x, b, cap, e, e2, h1, h2, h3, h4⟩)
  · exact .inl h
  refine .inr ⟨x, b, cap, e, e2, h1, h2, h3.keep ((hg.block b (Nat.lt_of_lt_of_le h3.lt hW1.size) ?_).trans (hW1.block b h3.lt)), h4⟩
  rcases ho.2 with ⟨rfl, _⟩ | ⟨g, cap, cur, rfl, hbg, hgg, _⟩
  · simp [Value.ownBlock]
  · intro e
    obtain rfl : b = g := by simpa [Value.ownBlock] using e
    obtain ⟨sp, h3⟩ := h3
    rw [h3] at hgg; cases hgg
theorem PicsO.snoc {W w1 w2 : World} {base : Nat} {S : Nat → Prop} {v v' u : Value} {ls : List (Option (List Int))} {l : Option (List Int)} {vs : List Value}
    (ho : W.ownsRow base 33 1 v ls.length vs) (he : ∀ j (hj : j < ls.length), ∃ u, vs[j]? = some u ∧ OptV W base S ls[j] u) (hu : OptV W base S l u)
    (hW1 : Below W.heap.size W w1) (hg : w1.grownBy w2 v.ownBlock) (ho' : w2.ownsRow base 33 1 v' (ls.length + 1) (vs ++ [u])) (hS' : ∀ k, v'.ownBlock = some k → S k) : PicsO w2 base S v' (ls ++ [l]) := by
  have hlen : vs.length = ls.length := by have := ho.1; omega
  have hel : ∀ u l, OptV W base S l u → OptV w2 base S l u := fun u l h => h.grown ho hW1 hg
  refine ⟨vs ++ [u], by simpa using ho', hS', fun j hj => ?_⟩
  by_cases e : j < ls.length
  · obtain ⟨u', hu', hel'⟩ := he j e
    refine ⟨u', by rw [List.getElem?_append_left (by omega)]; exact hu', ?_⟩
    rw [List.getElem_append_left e]
    exact hel _ _ hel'
  · have : j = ls.length := by simp at hj; omega
    subst this
    refine ⟨u, by rw [List.getElem?_append_right (by omega), hlen]; simp, ?_⟩
    simp only [List.getElem_append_right (Nat.le_refl _), Nat.sub_self, List.getElem_cons_zero]
    exact hel _ _ hu
def OptsAt (W : World) (a : Option Addr) (os : List (Option (List Int))) : Prop :=
  ∀ j (hj : j < os.length), ∃ b off ra rn rc, a = some ⟨b, off, none⟩ ∧ b < W.heap.size ∧ W.cell? ⟨b, off + j, none⟩ = some (.slice ra rn rc) ∧ (os[j].getD []).length = rn ∧ rn ≤ maxLen ∧ IntsAt W ra (os[j].getD []) ∧ (ra = none ↔ os[j] = none)
theorem OptsAt.rows {W : World} {a : Option Addr} {os : List (Option (List Int))} (h : OptsAt W a os) : RowsAt W a (os.map (·.getD [])) := by
  intro j hj
  rw [List.length_map] at hj
  obtain ⟨b, off, ra, rn, rc, e, hb, hc, h1, h2, h3, _⟩ := h j hj
  exact ⟨b, off, ra, rn, rc, e, hb, hc, by rw [List.getElem_map]; exact h1, h2, by rw [List.getElem_map]; exact h3⟩
theorem OptsAt.below {w w' : World} {a : Option Addr} {l : List (Option (List Int))} (h : OptsAt w a l) (hb : Below w.heap.size w w') : OptsAt w' a l := by
  intro j hj
  obtain ⟨b, off, ra, n, cap, e, hlt, h0, hn, hm, hi, hnn⟩ := h j hj
  exact ⟨b, off, ra, n, cap, e, Nat.lt_of_lt_of_le hlt hb.size, (hb.cell (p := ⟨b, _, none⟩) hlt).trans h0, hn, hm, hi.below hb, hnn⟩
theorem PicsO.reads {W : World} {base : Nat} {S : Nat → Prop} {v : Value} {T : List (Option (List Int))} (h : PicsO W base S v T) : ∃ a cap, v = .slice a T.length cap ∧ T.length ≤ maxLen ∧ OptsAt W a T := by
  obtain ⟨xs, ho, hg, he⟩ := h
  rcases ho.2 with ⟨rfl, h0⟩ | ⟨g, cap, cur, rfl, hbg, hgg, hnc, hcm, hsz, htk⟩
  · exact ⟨none, 0, by rw [h0], by rw [h0]; decide, fun j hj => by omega⟩
  · refine ⟨_, cap, rfl, by omega, fun j hj => ?_⟩
    obtain ⟨u, h2, h3⟩ := he j hj
    have hc : ∀ i, i < T.length → W.cell? ⟨g, i, none⟩ = xs[i]? := fun i hi =>
      World.ownsRow.cellAt (w := W) (base := base) (e := 33) (size := 1) (g := g) (n := T.length) (cap := cap) (xs := xs) ⟨ho.1, .inr ⟨g, cap, cur, rfl, hbg, hgg, hnc, hcm, hsz, htk⟩⟩ i (by omega)
    obtain ⟨ra, rc, rfl, k1, k2, k3⟩ := h3.slice
    exact ⟨g, 0, ra, _, rc, rfl, (Array.getElem?_eq_some_iff.1 hgg).1, by rw [Nat.zero_add, hc _ hj]; exact h2, rfl, k1, k2, k3⟩

def decL (M : Mask) (k : Int) (F : List Frm) (t : Nat) : List (Option (List Int)) := (List.range t).map (fun j => decAt M k F (j + 1))
theorem decL_len (M : Mask) (k : Int) (F : List Frm) (t : Nat) : (decL M k F t).length = t := by simp [decL]
theorem decL_succ (M : Mask) (k : Int) (F : List Frm) (t : Nat) : decL M k F (t + 1) = decL M k F t ++ [decAt M k F (t + 1)] := by simp [decL, List.range_succ]
theorem decL_get (M : Mask) (k : Int) (F : List Frm) {t j : Nat} (h : j < (decL M k F t).length) : (decL M k F t)[j] = decAt M k F (j + 1) := by simp [decL]
set_option maxRecDepth 100000 in
set_option maxHeartbeats 2000000 in
theorem r8decode_c (w : World) (a a2 : Option Addr) (n cap n2 cap2 : Nat) (M : Mask) (F : List Frm) (k : Int) (hn : M.length = n) (hn2 : F.length = n2) (hm : n ≤ maxLen) (H : RowsAt w a M) (H2 : FramesAt w a2 F) (hV : validB M F = true) :
    Calls Tryz.prog 42 #[.slice a n cap, .slice a2 n2 cap2, .int .i64 k] w fun e w' => ∃ v, e = .returned v ∧ PicsO w' w.heap.size (fun _ => True) v (decL M k F n2) ∧ Below w.heap.size w w' := by
  obtain ⟨hM, h1, h60, _⟩ := validB_ok hV
  have hfv : ∀ f ∈ F, frB M f = true := by
    unfold validB at hV
    simp only [Bool.and_eq_true, List.all_eq_true] at hV
    exact hV.2
  have HH2 := hid H2
  have HN2 := hid hn2
  have HNX := hid (fun (X : World) (hX : Below w.heap.size w X) (kf : Bool) (ra : Option Addr) (rn rc : Nat) (l : List Int) (o : Option (List Int)) (nv : Value) (S : Nat → Prop) (hr : l.length = rn) (hrm : rn ≤ maxLen) (hri : IntsAt X ra l) (hf : frB M (kf, l) = true) (ho : OptV X w.heap.size S o nv) (hoo : okO M o) => r8next_c X a ra n cap rn rc M kf l o nv w.heap.size S k hn hM hr hrm (H.below hX) hri hf ho hoo)
  have HOK := hid (fun j => decAt_ok (k := k) hfv j)
  have HFV := hid hfv
  have HDS := hid (show ∀ j, (hj : j < F.length) → decAt M k F (j + 1) = nextF M k (decAt M k F j) F[j] from fun j hj => by
    show nextF M k (decAt M k F j) (F[j]?.getD (false, [])) = _
    rw [List.getElem?_eq_getElem hj, Option.getD_some])
  have hn60 : n2 ≤ 60 := by omega
  clear hn hn2 hm H H2 hV hM h1 h60 hfv
  go_enter Tryz.func42, Tryz.ntmps42
  go_wp2
  go_loopw [7, 8, 13] (fun v nv i wr => ∃ t : Nat, t ≤ n2 ∧ i = .int .i64 t ∧ PicsO wr w.heap.size (fun _ => True) v (decL M k F t) ∧ OptV wr w.heap.size (fun _ => True) (decAt M k F t) nv ∧ Below w.heap.size w wr) (fun _ _ i _ => n2 - (intOf i).toNat)
  case atStart => exact ⟨0, Nat.zero_le _, rfl, PicsO.nil _ _ _, .inl ⟨rfl, rfl⟩, Below.refl _ _⟩
  case round =>
    obtain ⟨t, ht, rfl, ho, hnv, hbk⟩ := hrel
    by_cases hlt : t < n2
    · have htF : t < F.length := by rw [HN2.out]; exact hlt
      obtain ⟨b, off, ra, rn, rc, rfl, hbs, hc0, hc1, hrn, hrm, hri⟩ := (HH2.out.below hbk) t htF
      have hfr := HFV.out _ (List.getElem_mem htF)
      have hds := HDS.out t htF
      obtain ⟨⟨kf, l⟩, hl⟩ : ∃ f, f = F[t]'htF := ⟨_, rfl⟩
      rw [← hl] at hc0 hrn hri hfr hds
      simp only [] at hc0 hrn hri
      have hti : (t : Int) < (n2 : Int) := by omega
      have hti0 : (0 : Int) ≤ (t : Int) := by omega
      have hba : ∀ o : Obj, Below wr.heap.size wr (wr.alloc o) := fun o => (Below.refl _ _).alloc (Nat.le_refl _) _
      have HX := hid (fun (o : Obj) => HNX.out (wr.alloc o) (chain hbk (hba o)) kf ra rn rc l (decAt M k F t) _ (fun _ => True) hrn hrm (hri.below (hba o)) hfr (hnv.below (hba o)) (HOK.out t))
      have HDS2 := hid hds
      have HBA := hid hba
      have HBK := hid hbk
      have HO := hid ho
      clear hds hl hfr hri hrn hba hbk ho hnv
      go_wp2_with (go_at_call 64; refine (HX.out _).mono ?_; rintro e w1 ⟨v1, rfl, ho1, hb1⟩; refine Stop.of ?_)
      refine Stop.go ?_
      have hb1' := chain (HBA.out _) hb1
      have hB1 := chain HBK.out hb1'
      have hbb := HBA.out
      obtain ⟨va, vc, rfl⟩ := HO.out.slice
      have hO1 := HO.out.below hb1'
      rw [decL_len]
      have hov : OptV w1 w.heap.size (fun _ => True) (decAt M k F (t + 1)) v1 := by
        rw [HDS2.out]
        rcases ho1 with h | ⟨x, b, c, h1, h2, h3, h4⟩
        · exact .inl h
        · exact .inr ⟨x, b, c, h1, h2, by have := HBK.out.size; simp at h3; omega, h4⟩
      obtain ⟨xa, xn, xc, rfl⟩ : ∃ a n c, v1 = .slice a n c := by obtain ⟨a, c, e, _⟩ := hov.slice; exact ⟨a, _, c, e⟩
      obtain ⟨vs, hvo, hvg, hve⟩ := hO1
      rw [decL_len] at hvo
      have HVO := hid hvo
      have HVG := hid hvg
      have HVE := hid hve
      have HOV := hid hov
      have HB1 := hid hB1
      have M1 := hid (show t + 1 ≤ maxLen by unfold maxLen; omega)
      have M2 := hid (show (t + 1) * 24 ≤ 140737488355328 by omega)
      have M3 := hid (Nat.le_trans hB1.size (le_alloc w1 (.cells #[.slice xa xn xc] 33)))
      have M4 := hid (hov.oneCell)
      clear hvo hvg hve hov hB1 hb1 hb1' ho1 hbb
      go_wp2_with (at_builtin; refine Stop.of ?_)
      refine Stop.go ?_
      (refine wpList_app _ rfl (.tmp 22) (.tmp 24) 22 rfl w.heap.size 33 (.slice none 0 0) 1 24 Tryz.underlying22 info_ints rfl Nat.one_pos (.slice va t vc) t vs rfl (HVO.out.alloc _) (some ⟨w1.heap.size, 0, none⟩) 1 1 [.slice xa xn xc] rfl rfl no_none (one_news w1 _ _) (by intro u hu; rw [List.mem_singleton.1 hu]; exact M4.out) M1.out M2.out M3.out ?_)
      intro a3 c3 w3 own3 g3
      have hla : Below w1.heap.size w1 (w1.alloc (.cells #[.slice xa xn xc] 33)) := (Below.refl _ _).alloc (Nat.le_refl _) _
      have hP3 := PicsO.snoc (l := decAt M k F (t + 1)) (by rw [decL_len]; exact HVO.out) HVE.out HOV.out hla g3 (by rw [decL_len]; exact own3) (fun _ _ => trivial)
      have hB3 : Below w.heap.size w w3 := (HB1.out.alloc HB1.out.size _).grown g3 M3.out (fun k hk => (HVO.out.lt k hk).1)
      have hO3 : OptV w3 w.heap.size (fun _ => True) (decAt M k F (t + 1)) (.slice xa xn xc) := HOV.out.grown HVO.out hla g3
      have HB3 := hid hB3
      have HO3 := hid hO3
      have HP3 := hid hP3
      clear hla hP3 hB3 hO3 own3 g3
      go_wp2
      refine ⟨⟨t + 1, by omega, by go_num, ?_, HO3.out, HB3.out⟩, by simp [intOf]; omega⟩
      rw [decL_succ]
      exact HP3.out
    · obtain rfl : n2 = t := by omega
      go_wp2
      go_ret
      exact ⟨_, rfl, ho, hbk⟩
end Go.Proofs.YtkmjeegnijohmaaGreat

namespace Go.Proofs.YtkmjeegnijohmaaGreat
open Go.RowKit
set_option linter.unusedVariables false

def harmE (M : Mask) (F : List Frm) (i k : Int) : Int := if askE M F k = 0 then (if inB i 0 ((F.length : Int) - 1) = true then 0 else 5) else askE M F k
def harmF (M : Mask) (F : List Frm) (i k : Int) : Int := ((missF M k (loseF F i)).length : Int) - ((missF M k F).length : Int)
def harmV (M : Mask) (F : List Frm) (i k : Int) : Int := if harmE M F i k = 0 then harmF M F i k else 0

theorem askE_ok {M : Mask} {F : List Frm} {k : Int} (h : askE M F k = 0) : validB M F = true ∧ 0 ≤ k ∧ k ≤ colsM M := by
  unfold askE at h
  split at h
  · rename_i hv
    split at h
    · rename_i hk; unfold inB at hk; simp at hk; exact ⟨hv, hk⟩
    · simp at h
  · simp at h
theorem lose_valid {M : Mask} {F : List Frm} (i : Int) (h : validB M F = true) : validB M (loseF F i) = true := by
  unfold validB inB at h ⊢
  simp only [Bool.and_eq_true, decide_eq_true_eq, List.all_eq_true] at h ⊢
  obtain ⟨⟨⟨hM, h1⟩, h2⟩, h3⟩ := h
  have hk : ∀ t, t < F.length → (loseAt F i t).1 = (F[t]?.getD (false, [])).1 ∧ frB M (loseAt F i t) = true := fun t ht => by
    unfold loseAt
    split
    · exact ⟨rfl, by unfold frB; simp⟩
    · refine ⟨rfl, ?_⟩
      rw [List.getElem?_eq_getElem ht]; exact h3 _ (List.getElem_mem ht)
  refine ⟨⟨⟨hM, by rw [loseF_len]; exact h1⟩, ?_⟩, fun f hf => ?_⟩
  · have h0 : (loseF F i)[0]?.getD (false, []) = loseAt F i 0 := by
      unfold loseF; rw [List.getElem?_map, List.getElem?_range (by omega)]; rfl
    rw [h0, (hk 0 (by omega)).1]; exact h2
  · unfold loseF at hf
    obtain ⟨t, ht, rfl⟩ := List.mem_map.1 hf
    exact (hk t (List.mem_range.1 ht)).2

theorem harm_c (w : World) (a a2 : Option Addr) (n cap n2 cap2 : Nat) (M : Mask) (F : List Frm) (i : Nat) (k : Int) (hn : M.length = n) (hm : n ≤ maxLen) (H : RowsAt w a M) (hn2 : F.length = n2) (H2 : FramesAt w a2 F) (hV : validB M F = true) (hi : i < n2) :
    Calls Tryz.prog 49 #[.slice a n cap, .slice a2 n2 cap2, .int .i64 i, .int .i64 k] w fun e w' => e = .returned (.int .i64 (harmF M F i k)) ∧ Below w.heap.size w w' := by
  obtain ⟨hM, h1, h60, hl⟩ := validB_ok hV
  have HLO := hid (lose_c w a2 n2 cap2 F i hn2 (by omega) hl H2 hi)
  have HM1 := hid (fun (X : World) (hX : Below w.heap.size w X) (va : Option Addr) (vn vc : Nat) (hvn : (loseF F i).length = vn) (hf : FramesAt X va (loseF F i)) => missing_c X a va n cap vn vc M (loseF F i) k hn hvn hm (H.below hX) hf (lose_valid i hV))
  have HM2 := hid (fun (X : World) (hX : Below w.heap.size w X) => missing_c X a a2 n cap n2 cap2 M F k hn hn2 hm (H.below hX) (H2.below hX) hV)
  have hle1 : (missF M k (loseF F i)).length ≤ n2 := by have := missTo_le M k (loseF F i) (loseF F i).length; rw [loseF_len, hn2] at this; unfold missF; rw [loseF_len, hn2]; exact this
  have hle2 : (missF M k F).length ≤ n2 := by have := missTo_le M k F F.length; rw [hn2] at this; unfold missF; rw [hn2]; exact this
  have hll : (loseF F i).length = n2 := by rw [loseF_len, hn2]
  have HF := hid (show harmF M F i k = ((missF M k (loseF F i)).length : Int) - ((missF M k F).length : Int) from rfl)
  obtain ⟨G, hG⟩ : ∃ G, G = loseF F i := ⟨_, rfl⟩
  rw [← hG] at HLO HM1 hle1 HF hll
  obtain ⟨L1, hL1⟩ : ∃ L, L = missF M k G := ⟨_, rfl⟩
  obtain ⟨L2, hL2⟩ : ∃ L, L = missF M k F := ⟨_, rfl⟩
  rw [← hL1] at HM1 hle1 HF
  rw [← hL2] at HM2 hle2 HF
  have hw : wrap64 ((L1.length : Int) - (L2.length : Int)) = harmF M F i k := by rw [HF.out]; unfold wrap64; omega
  obtain ⟨z, hz⟩ : ∃ z, z = harmF M F i k := ⟨_, rfl⟩
  rw [← hz] at hw ⊢
  have hw2 : IntKind.i64.wrap ((L1.length : Int) - (L2.length : Int)) = z := by rw [IntWalk.i64_left]; exact hw
  have HLL := hid hll
  clear hn hm H hn2 H2 hV hi hM h1 h60 hl hle1 hle2 hG hL1 hL2 hz hll HF
  go_enter Tryz.func49, Tryz.ntmps49
  go_wp2_with first
    | (go_at_call 46; refine HLO.out.mono ?_; rintro e w1 ⟨v1, rfl, ho1, hb1⟩; refine Stop.of ?_)
  refine Stop.go ?_
  obtain ⟨va, vc, rfl, _, hf⟩ := ho1.reads
  have HB1 := hid hb1
  have HMM := hid (HM1.out w1 hb1 va G.length vc rfl hf)
  clear ho1 hf hb1 HLO HM1
  go_wp2_with first
    | (go_at_call 43; refine HMM.out.mono ?_; rintro e w2 ⟨v2, base2, rfl, _, ho2, hb2⟩; refine Stop.of ?_)
  refine Stop.go ?_
  obtain ⟨ma, mc, rfl⟩ := ownsRow_slice ho2
  have HB2 := hid (chain HB1.out hb2)
  clear ho2 hb2 HB1 HMM
  go_wp2_with first
    | (go_at_call 43; refine (HM2.out _ HB2.out).mono ?_; rintro e w3 ⟨v3, base3, rfl, _, ho3, hb3⟩; refine Stop.of ?_)
  refine Stop.go ?_
  obtain ⟨na, nc, rfl⟩ := ownsRow_slice ho3
  have HB3 := hid (chain HB2.out hb3)
  clear ho3 hb3 HB2 HM2
  go_wp2
  go_ret
  exact ⟨rfl, HB3.out⟩

theorem sHarm_c (w : World) (a a2 : Option Addr) (n cap n2 cap2 : Nat) (M : Mask) (F : List Frm) (i k : Int) (hn : M.length = n) (hm : n ≤ maxLen) (H : RowsAt w a M) (hn2 : F.length = n2) (hm2 : n2 ≤ maxLen) (H2 : FramesAt w a2 F) :
    Calls Tryz.prog 25 #[.slice a n cap, .slice a2 n2 cap2, .int .i64 i, .int .i64 k] w fun e w' => e = .returned (.tuple #[.int .i64 (harmV M F i k), .int .i64 (harmE M F i k)]) ∧ Below w.heap.size w w' := by
  have HA := hid (asked_c w a a2 n cap n2 cap2 M F k hn hm H hn2 hm2 H2)
  by_cases h0 : askE M F k = 0
  · have hV := (askE_ok h0).1
    obtain ⟨_, h1, h60, _⟩ := validB_ok hV
    have hn60 : n2 ≤ 60 := by omega
    have HW := hid (fun X => swithin_c i 0 ((n2 : Int) - 1) X)
    have hE : harmE M F i k = if inB i 0 ((n2 : Int) - 1) = true then 0 else 5 := by unfold harmE; rw [if_pos h0, hn2]
    have hw : wrap64 ((n2 : Int) - 1) = (n2 : Int) - 1 := by unfold wrap64; omega
    have hw2 : IntKind.i64.wrap ((n2 : Int) - 1) = (n2 : Int) - 1 := by rw [IntWalk.i64_left]; exact hw
    rw [h0] at HA
    cases hI : inB i 0 ((n2 : Int) - 1)
    · rw [hI] at HW hE
      have hE' : harmE M F i k = 5 := by rw [hE]; rfl
      have hV' : harmV M F i k = 0 := by unfold harmV; rw [hE']; rfl
      rw [hE', hV']
      clear hn H hn2 H2 h0 hV hE hE' hV' hI h1 h60
      go_enter Tryz.func25, Tryz.ntmps25
      go_wp2_with first
        | (go_at_call 39; refine HA.out.mono ?_; rintro e w1 ⟨rfl, hb1⟩)
        | (go_at_call 32; refine (HW.out _).mono ?_; rintro e w2 ⟨rfl, rfl⟩)
      go_ret2
      exact ⟨rfl, hb1⟩
    · have hE' : harmE M F i k = 0 := by rw [hE, hI]; rfl
      have hV' : harmV M F i k = harmF M F i k := by unfold harmV; rw [if_pos hE']
      rw [hI] at HW
      rw [hE', hV']
      have hi' : 0 ≤ i ∧ i ≤ (n2 : Int) - 1 := by unfold inB at hI; simpa using hI
      obtain ⟨q, rfl⟩ : ∃ q : Nat, i = (q : Int) := ⟨i.toNat, by omega⟩
      have HH := hid (fun (X : World) (hX : Below w.heap.size w X) => harm_c X a a2 n cap n2 cap2 M F q k hn hm (H.below hX) hn2 (H2.below hX) hV (by omega))
      clear hn H hn2 H2 h0 hV hE hE' hV' hI h1 h60 hi'
      go_enter Tryz.func25, Tryz.ntmps25
      go_wp2_with first
        | (go_at_call 39; refine HA.out.mono ?_; rintro e w1 ⟨rfl, hb1⟩)
        | (go_at_call 32; refine (HW.out _).mono ?_; rintro e w2 ⟨rfl, rfl⟩)
        | (go_at_call 49; refine (HH.out _ hb1).mono ?_; rintro e w3 ⟨rfl, hb3⟩)
      go_ret2
      exact ⟨rfl, chain hb1 hb3⟩
  · have hE' : harmE M F i k = askE M F k := by unfold harmE; rw [if_neg h0]
    have hV' : harmV M F i k = 0 := by unfold harmV; rw [hE', if_neg h0]
    have hne : (askE M F k != 0) = true := by simpa using h0
    rw [hE', hV']
    obtain ⟨E, hE⟩ : ∃ E, E = askE M F k := ⟨_, rfl⟩
    rw [← hE] at HA hne ⊢
    clear hn H hn2 H2 h0 hE' hV' hE
    go_enter Tryz.func25, Tryz.ntmps25
    go_wp2_with first
      | (go_at_call 39; refine HA.out.mono ?_; rintro e w1 ⟨rfl, hb1⟩)
    go_ret2
    exact ⟨rfl, hb1⟩
end Go.Proofs.YtkmjeegnijohmaaGreat

namespace Go.Proofs.YtkmjeegnijohmaaGreat
open Go.RowKit
set_option linter.unusedVariables false

theorem info_truth : (Tryz.prog.info? 4).map (fun i => (i.zero, i.size, i.bytes)) = some (some (.bool false), 1, 1) := by kernel_rfl
def BoolsAt (W : World) (a : Option Addr) (l : List Bool) : Prop :=
  ∀ j (hj : j < l.length), ∃ b off, a = some ⟨b, off, none⟩ ∧ b < W.heap.size ∧ W.cell? ⟨b, off + j, none⟩ = some (.bool l[j])
theorem BoolsAt.below {w w' : World} {a : Option Addr} {l : List Bool} (h : BoolsAt w a l) (hb : Below w.heap.size w w') : BoolsAt w' a l := by
  intro j hj
  obtain ⟨b, off, e, hlt, h0⟩ := h j hj
  exact ⟨b, off, e, Nat.lt_of_lt_of_le hlt hb.size, (hb.cell (p := ⟨b, _, none⟩) hlt).trans h0⟩
theorem bools_of_own {W : World} {base : Nat} {v : Value} {n : Nat} {l : List Bool} (h : W.ownsRow base 4 1 v n (l.map Value.bool)) (hn : l.length = n) : ∃ a c, v = .slice a n c ∧ BoolsAt W a l ∧ n ≤ maxLen := by
  subst hn
  rcases h.2 with ⟨rfl, h0⟩ | ⟨g, cap, cur, rfl, hbg, hgg, hnc, hcm, hsz, htk⟩
  · exact ⟨none, 0, by rw [h0], fun j hj => by omega, by rw [h0]; decide⟩
  · refine ⟨_, cap, rfl, fun j hj => ?_, by omega⟩
    have hc := World.ownsRow.cellAt (w := W) (base := base) (e := 4) (size := 1) (g := g) (n := l.length) (cap := cap) (xs := l.map Value.bool) ⟨h.1, .inr ⟨g, cap, cur, rfl, hbg, hgg, hnc, hcm, hsz, htk⟩⟩ j (by omega)
    exact ⟨g, 0, rfl, (Array.getElem?_eq_some_iff.1 hgg).1, by rw [Nat.zero_add, hc, List.getElem?_map, List.getElem?_eq_getElem hj]; rfl⟩

theorem r8asked_c (w : World) (a a2 : Option Addr) (n cap n2 cap2 : Nat) (M : Mask) (F : List Frm) (k : Int) (hn : M.length = n) (hm : n ≤ maxLen) (H : RowsAt w a M) (hn2 : F.length = n2) (hm2 : n2 ≤ maxLen) (H2 : FramesAt w a2 F) :
    Calls Tryz.prog 41 #[.slice a n cap, .slice a2 n2 cap2, .int .i64 k] w fun e w' => e = .returned (.int .i64 (askE M F k)) ∧ Below w.heap.size w w' := by
  have HV := hid (r8valid_c w a n cap M hn hm H a2 n2 cap2 F hn2 hm2 H2)
  cases hV : validB M F
  · have he : askE M F k = 1 := by unfold askE; rw [hV]; rfl
    rw [hV] at HV
    rw [he]
    clear hn H hn2 H2 hV he
    go_enter Tryz.func41, Tryz.ntmps41
    go_wp2_with (go_at_call 47; refine HV.out.mono ?_; rintro e w1 ⟨rfl, hb1⟩)
    go_ret
    exact ⟨rfl, hb1⟩
  · obtain ⟨_, h1, _, _, _⟩ := okM_ok (validB_ok hV).1
    obtain ⟨b, off, ra, rc, rfl, hb, hc⟩ := rows_head H (by omega)
    have i0 : (0 : Int) < (n : Int) := by omega
    have HC0 := hid (show ∀ X : World, Below w.heap.size w X → X.cell? ⟨b, off, none⟩ = some (.slice ra (colsM M) rc) from fun X hX => (hX.cell (p := ⟨b, off, none⟩) hb).trans hc)
    have HT := hid (fun X => r8in_c k 0 (colsM M) X)
    have he : askE M F k = if inB k 0 (colsM M) = true then 0 else 7 := by unfold askE; rw [hV]; rfl
    rw [hV] at HV
    rw [he]
    obtain ⟨W, hW⟩ : ∃ W, W = colsM M := ⟨_, rfl⟩
    rw [← hW] at HT HC0 ⊢
    obtain ⟨B, hB⟩ : ∃ B, B = inB k 0 (W : Int) := ⟨_, rfl⟩
    rw [← hB] at HT ⊢
    clear hn H hn2 H2 hV he hc hW hB
    cases B
    all_goals
      go_enter Tryz.func41, Tryz.ntmps41
      go_wp2_with first
        | (go_at_call 47; refine HV.out.mono ?_; rintro e w1 ⟨rfl, hb1⟩; have hc1' := HC0.out w1 hb1)
        | (go_at_call 35; refine (HT.out _).mono ?_; rintro e w2 ⟨rfl, rfl⟩)
      go_ret
      exact ⟨rfl, hb1⟩

def decF (M : Mask) (F : List Frm) (k : Int) : List (Option (List Int)) := if askE M F k = 0 then decL M k F F.length else []
def toldL (M : Mask) (F : List Frm) (k : Int) : List Bool := (decF M F k).map (·.isSome)

end Go.Proofs.YtkmjeegnijohmaaGreat

namespace Go.Proofs.YtkmjeegnijohmaaGreat
open Go.RowKit
set_option linter.unusedVariables false

set_option maxRecDepth 100000 in
set_option maxHeartbeats 2000000 in
theorem r8missing_c (w : World) (a a2 : Option Addr) (n cap n2 cap2 : Nat) (M : Mask) (F : List Frm) (k : Int) (hn : M.length = n) (hn2 : F.length = n2) (hm : n ≤ maxLen) (H : RowsAt w a M) (H2 : FramesAt w a2 F) (hV : validB M F = true) :
    Calls Tryz.prog 44 #[.slice a n cap, .slice a2 n2 cap2, .int .i64 k] w fun e w' => ∃ v base, e = .returned v ∧ w.heap.size ≤ base ∧ w'.ownsRow base 3 1 v (missF M k F).length ((missF M k F).map (Value.int .i64)) ∧ Below w.heap.size w w' := by
  have heq := fun (w : World) (a : Option Addr) (n c : Nat) => Lib.run_eql_slice_nil (P := Tryz.prog) w 33 3 a n c 0 0 Tryz.underlying33
  have hlen := decL_len M k F n2
  have HDC := hid (r8decode_c w a a2 n cap n2 cap2 M F k hn hn2 hm H H2 hV)
  have hn60 : n2 ≤ 60 := by have := (validB_ok hV).2.2.1; omega
  have HMF := hid (show missF M k F = missTo M k F n2 by unfold missF; rw [hn2])
  have HML := hid (fun t => missTo_le M k F t)
  have HMT := hid (show ∀ t, missTo M k F (t + 1) = missTo M k F t ++ (if decAt M k F (t + 1) = none then [(t : Int)] else []) from fun t => rfl)
  have HDG := hid (show ∀ t (h : t < (decL M k F n2).length), (decL M k F n2)[t] = decAt M k F (t + 1) from fun t h => decL_get M k F h)
  obtain ⟨D, hD⟩ : ∃ D, D = decL M k F n2 := ⟨_, rfl⟩
  rw [← hD] at HDC hlen HDG
  have HLN := hid hlen
  clear hn hm H hn2 H2 hV hlen hD
  go_enter Tryz.func44, Tryz.ntmps44
  go_wp2_with (go_at_call 42; refine HDC.out.mono ?_; rintro e w2 ⟨v2, rfl, ho2, hb2⟩; refine Stop.of ?_)
  refine Stop.go ?_
  obtain ⟨va, vc, rfl, _, hdo⟩ := ho2.reads
  rw [HLN.out]
  have HDO := hid hdo
  have HB2 := hid hb2
  clear ho2 hdo hb2
  go_wp2
  go_loopw [7, 15] (fun v i wr => ∃ t : Nat, t ≤ n2 ∧ i = .int .i64 t ∧ wr.ownsRow w2.heap.size 3 1 v (missTo M k F t).length ((missTo M k F t).map (Value.int .i64)) ∧ Below w2.heap.size w2 wr) (fun _ i _ => n2 - (intOf i).toNat)
  case atStart => exact ⟨0, Nat.zero_le _, rfl, World.ownsRow_nil _ _ _ _, Below.refl _ _⟩
  case round =>
    obtain ⟨t, ht, rfl, ho, hbk⟩ := hrel
    by_cases hlt : t < n2
    · have htD : t < D.length := by rw [HLN.out]; exact hlt
      obtain ⟨b, off, xa, xn, xc, rfl, hbs, hc, _, _, _, hnn⟩ := (HDO.out.below hbk) t htD
      rw [HDG.out t htD] at hnn
      have hti : (t : Int) < (n2 : Int) := by omega
      have hti0 : (0 : Int) ≤ (t : Int) := by omega
      have htk := HMT.out t
      have hml := HML.out t
      cases xa with
      | none =>
        rw [if_pos (hnn.1 rfl)] at htk
        obtain ⟨L, hL⟩ : ∃ L, L = missTo M k F t := ⟨_, rfl⟩
        rw [← hL] at htk ho hml
        obtain ⟨la, lc, rfl⟩ := ownsRow_slice ho
        obtain ⟨ln, hln⟩ : ∃ ln, ln = L.length := ⟨_, rfl⟩
        rw [← hln] at ho hml ⊢
        have HLL := hid hln
        have HTK := hid htk
        have HO := hid ho
        have M1 := hid (show ln + 1 ≤ maxLen by unfold maxLen; omega)
        have M2 := hid (show (ln + 1) * 8 ≤ 140737488355328 by omega)
        have HBK := hid hbk
        have M3 := hid (Nat.le_trans hbk.size (le_alloc wr (.cells #[.int .i64 (t : Int)] 3)))
        clear hnn htk ho hbk hL hln hml
        go_wp2_with (at_builtin; refine Stop.of ?_)
        refine Stop.go ?_
        (refine wpList_app _ rfl (.tmp 22) (.tmp 24) 33 rfl w2.heap.size 3 (.int .i64 0) 1 8 Tryz.underlying33 li_int rfl Nat.one_pos (.slice la ln lc) ln _ rfl (HO.out.alloc _) (some ⟨wr.heap.size, 0, none⟩) 1 1 [.int .i64 (t : Int)] rfl rfl no_none (one_news wr _ _) (li_one _) M1.out M2.out M3.out ?_)
        intro a3 c3 w3 own3 g3
        have hB3 : Below w2.heap.size w2 w3 := (HBK.out.alloc HBK.out.size _).grown g3 M3.out (fun k hk => (HO.out.lt k hk).1)
        have HB3 := hid hB3
        have HO3 := hid own3
        clear hB3 own3 g3
        go_wp2
        refine ⟨⟨t + 1, by omega, by go_num, ?_, HB3.out⟩, by simp [intOf]; omega⟩
        rw [HTK.out, List.length_append, List.map_append, ← HLL.out]
        exact HO3.out
      | some xv =>
        rw [if_neg (fun h => by have := hnn.2 h; cases this), List.append_nil] at htk
        have HTK := hid htk
        have HO := hid ho
        have HBK := hid hbk
        clear hnn htk ho hbk hml
        go_wp2
        refine ⟨⟨t + 1, by omega, by go_num, ?_, HBK.out⟩, by simp [intOf]; omega⟩
        rw [HTK.out]
        exact HO.out
    · obtain rfl : n2 = t := by omega
      go_wp2
      go_ret
      refine ⟨_, w2.heap.size, rfl, HB2.out.size, ?_, chain HB2.out hbk⟩
      rw [HMF.out]
      exact ho

end Go.Proofs.YtkmjeegnijohmaaGreat

namespace Go.Proofs.YtkmjeegnijohmaaGreat
open Go.RowKit
set_option linter.unusedVariables false

theorem wpList_app_lies {P : Program} (w : World) {ops : Array Oper} {rest : List Oper} {o : Oper} {a : Act} {Q : Exit → Act → World → Prop} (hgd : o.guard = none) (s x : Operand) (t : TypeId)
    (ho : o.op = .call { callee := .builtin .append, args := #[s, x], argTypes := #[t, t] })
    (base : Nat) (e : TypeId) (z : Value) (size bytes : Nat) (ht : P.underlying t = some (.slice e)) (hinfo : (P.info? e).map (fun i => (i.zero, i.size, i.bytes)) = some (some z, size, bytes))
    (hzs : z.cells.size = size) (hsz : 0 < size)
    (v : Value) (n : Nat) (xs : List Value) (hs : a.eval s = v) (hown : w.ownsRow base e size v n xs)
    (ad : Addr) (m c : Nat) (news : List Value) (hx : a.eval x = .slice (some ad) m c) (hl : news.length = m * size)
    (hnews : ∀ j u, news[j]? = some u → w.cell? (ad.add j) = some u) (h1 : ∀ u ∈ news, u.oneCell' = true)
    (h63 : n + m ≤ maxLen) (hbytes : (n + m) * bytes ≤ 140737488355328) (hbase : base ≤ w.heap.size)
    (h : ∀ a' c' w', w'.ownsRow base e size (.slice a' (n + m) c') (n + m) (xs ++ news) → w.grownBy w' v.ownBlock → ((Value.slice a' (n + m) c').ownBlock = v.ownBlock ∨ (Value.slice a' (n + m) c').ownBlock = some w.heap.size) → wpList P ops Q rest (a.put o.dst (.slice a' (n + m) c')) w') : wpList P ops Q (o :: rest) a w := by
  obtain ⟨i, hi, hz, h2, h3⟩ := info_parts hinfo
  refine wpList_append_own_at w hgd s x t ho base e i z size bytes ht hi hz h2 h3 hzs hsz v n xs hs hown ad m c news hx hl hnews h1 h63 hbytes hbase ?_
  intro v' w' ho' hg _ hat
  obtain ⟨a', c', rfl⟩ := ownsRow_slice ho'
  exact h a' c' w' ho' hg hat

theorem own_typed {W : World} {b E n k : Nat} {v : Value} {xs : List Value} (h : W.ownsRow b E 1 v n xs) (hk : v.ownBlock = some k) : ∃ c f, W.heap[k]? = some (.cells c E f) := by
  rcases h.2 with ⟨rfl, _⟩ | ⟨g, cap, cur, rfl, _, hgg, _⟩
  · simp [Value.ownBlock] at hk
  · obtain rfl : g = k := by simpa [Value.ownBlock] using hk
    exact ⟨_, _, hgg⟩

structure DcdI (w w3 : World) (ob : Nat) (fp : Nat → Prop) (S : Nat → Prop) (L : List (Option (List Int))) (Z : World) : Prop where
  b : Below w.heap.size w Z
  f : Keep fp w3 Z
  o : ∃ v v2, Boxed Z ob 22 v ∧ Boxed Z (ob + 1) 39 v2 ∧ PicsO Z (w3.heap.size + 2) (fun q => ¬ S q ∧ q ≠ ob ∧ q ≠ ob + 1 ∧ q ≠ w3.heap.size ∧ q ≠ w3.heap.size + 1) v L ∧
    Z.ownsRow (w3.heap.size + 2) 4 1 v2 L.length ((L.map (·.isSome)).map Value.bool) ∧ ∀ q, v2.ownBlock = some q → ¬ S q ∧ q ≠ ob ∧ q ≠ ob + 1 ∧ q ≠ w3.heap.size ∧ q ≠ w3.heap.size + 1
  z : w3.heap.size + 2 ≤ Z.heap.size

theorem DcdI.keep {w w3 : World} {ob : Nat} {fp S S' : Nat → Prop} {L : List (Option (List Int))} {A B : World} (h : DcdI w w3 ob fp S L A) (h1 : ∀ k, S k → S' k) (h2 : ∀ k, S' k → S k ∨ A.heap.size ≤ k) (h3 : ∀ k, S' k → w3.heap.size + 2 ≤ k)
    (hob : ob + 1 < w3.heap.size) (hfp : ∀ k, fp k → k < w3.heap.size) (hw : w.heap.size ≤ w3.heap.size) (hk : Keep (fun k => k ≠ w3.heap.size ∧ k ≠ w3.heap.size + 1 ∧ ¬ S' k) A B) : DcdI w w3 ob fp S' L B where
  b := by
    have hz := h.z
    exact hk.below h.b (Nat.le_trans hw (by omega)) (fun k hlt => ⟨by omega, by omega, fun hs => by have := h3 k hs; omega⟩)
  f := h.f.trans (hk.mono fun k hlt => by have := hfp k hlt; exact ⟨by omega, by omega, fun hs => by have := h3 k hs; omega⟩)
  o := by
    obtain ⟨v, v2, hv, hv2, hr, ho, hg⟩ := h.o
    have hS : ∀ q, q < A.heap.size → (¬ S q ∧ q ≠ ob ∧ q ≠ ob + 1 ∧ q ≠ w3.heap.size ∧ q ≠ w3.heap.size + 1) → (q ≠ w3.heap.size ∧ q ≠ w3.heap.size + 1 ∧ ¬ S' q) ∧ (¬ S' q ∧ q ≠ ob ∧ q ≠ ob + 1 ∧ q ≠ w3.heap.size ∧ q ≠ w3.heap.size + 1) := by
      rintro q g5 ⟨g1, g2, g2', g3, g4⟩
      have : ¬ S' q := fun hs => by
        rcases h2 q hs with g | g
        · exact g1 g
        · omega
      exact ⟨⟨g3, g4, this⟩, this, g2, g2', g3, g4⟩
    refine ⟨v, v2, (hk.block ob hv.lt ⟨by omega, by omega, fun hs => by have := h3 _ hs; omega⟩).trans hv, (hk.block (ob + 1) hv2.lt ⟨by omega, by omega, fun hs => by have := h3 _ hs; omega⟩).trans hv2, hr.keep hk (fun q h1 h2 => hS q h2 h1), own_keep2 ho hk (fun q hq => (hS q (ho.lt q hq).2 (hg q hq)).1), fun q hq => (hS q (ho.lt q hq).2 (hg q hq)).2⟩
  z := Nat.le_trans h.z hk.size

theorem DcdI.push {w w3 Z X Y : World} {ob : Nat} {fp Sr : Nat → Prop} {L : List (Option (List Int))} {v v2 v' v2' u : Value} {vs : List Value} {o : Option (List Int)}
    (hI : DcdI w w3 ob fp Sr L Z) (ho : Z.ownsRow (w3.heap.size + 2) 33 1 v L.length vs) (ho2 : Z.ownsRow (w3.heap.size + 2) 4 1 v2 L.length ((L.map (·.isSome)).map Value.bool))
    (hg : ∀ k, v.ownBlock = some k → ¬ Sr k ∧ k ≠ ob ∧ k ≠ ob + 1 ∧ k ≠ w3.heap.size ∧ k ≠ w3.heap.size + 1) (hg2 : ∀ k, v2.ownBlock = some k → ¬ Sr k ∧ k ≠ ob ∧ k ≠ ob + 1 ∧ k ≠ w3.heap.size ∧ k ≠ w3.heap.size + 1)
    (he : ∀ j (hj : j < L.length), ∃ u, vs[j]? = some u ∧ OptV Z (w3.heap.size + 2) (fun q => ¬ Sr q ∧ q ≠ ob ∧ q ≠ ob + 1 ∧ q ≠ w3.heap.size ∧ q ≠ w3.heap.size + 1) L[j] u)
    (hu : OptV Z (w3.heap.size + 2) (fun q => ¬ Sr q) o u)
    (hX : Keep (fun q => some q ≠ v.ownBlock ∧ some q ≠ v2.ownBlock) Z X) (own5 : X.ownsRow (w3.heap.size + 2) 33 1 v' (L.length + 1) (vs ++ [u])) (own6 : X.ownsRow (w3.heap.size + 2) 4 1 v2' (L.length + 1) ((L.map (·.isSome)).map Value.bool ++ [.bool o.isSome]))
    (hat : v'.ownBlock = v.ownBlock ∨ ∃ q, v'.ownBlock = some q ∧ Z.heap.size ≤ q) (hat2 : v2'.ownBlock = v2.ownBlock ∨ ∃ q, v2'.ownBlock = some q ∧ Z.heap.size ≤ q)
    (hY : Keep (fun q => q ≠ ob ∧ q ≠ ob + 1) X Y) (hB : Boxed Y ob 22 v') (hB2 : Boxed Y (ob + 1) 39 v2')
    (hSr : ∀ k, Sr k → w3.heap.size + 2 ≤ k ∧ k < Z.heap.size) (hob : ob + 1 < w3.heap.size) (hfp : ∀ k, fp k → k < w3.heap.size ∧ k ≠ ob ∧ k ≠ ob + 1) (hw : w.heap.size ≤ ob) :
    Z.heap.size ≤ Y.heap.size ∧ (∀ k, (fp k ∨ k = w3.heap.size ∨ k = w3.heap.size + 1 ∨ Sr k) → Y.heap[k]? = Z.heap[k]?) ∧ DcdI w w3 ob fp Sr (L ++ [o]) Y := by
  have hz := hI.z
  have hlo : ∀ k, v.ownBlock = some k → w3.heap.size + 2 ≤ k := fun k hk => (ho.lt k hk).1
  have hlo2 : ∀ k, v2.ownBlock = some k → w3.heap.size + 2 ≤ k := fun k hk => (ho2.lt k hk).1
  have hT : Keep (fun k => k ≠ ob ∧ k ≠ ob + 1 ∧ some k ≠ v.ownBlock ∧ some k ≠ v2.ownBlock) Z Y := (hX.mono fun k hk => ⟨hk.2.2.1, hk.2.2.2⟩).trans (hY.mono fun k hk => ⟨hk.1, hk.2.1⟩)
  have hPk : ∀ k, (fp k ∨ k = w3.heap.size ∨ k = w3.heap.size + 1 ∨ Sr k) → k < Z.heap.size ∧ k ≠ ob ∧ k ≠ ob + 1 ∧ some k ≠ v.ownBlock ∧ some k ≠ v2.ownBlock := fun k hk => by
    rcases hk with h | h | h | h
    · have := hfp k h
      exact ⟨by omega, this.2.1, this.2.2, fun e => by have := hlo k e.symm; omega, fun e => by have := hlo2 k e.symm; omega⟩
    · exact ⟨by omega, by omega, by omega, fun e => (hg k e.symm).2.2.2.1 h, fun e => (hg2 k e.symm).2.2.2.1 h⟩
    · exact ⟨by omega, by omega, by omega, fun e => (hg k e.symm).2.2.2.2 h, fun e => (hg2 k e.symm).2.2.2.2 h⟩
    · have := hSr k h
      exact ⟨this.2, by omega, by omega, fun e => (hg k e.symm).1 h, fun e => (hg2 k e.symm).1 h⟩
  have hnew : ∀ q, Z.heap.size ≤ q → ¬ Sr q ∧ q ≠ ob ∧ q ≠ ob + 1 ∧ q ≠ w3.heap.size ∧ q ≠ w3.heap.size + 1 := fun q hq => ⟨fun h => by have := (hSr _ h).2; omega, by omega, by omega, by omega, by omega⟩
  have hg' : ∀ k, v'.ownBlock = some k → ¬ Sr k ∧ k ≠ ob ∧ k ≠ ob + 1 ∧ k ≠ w3.heap.size ∧ k ≠ w3.heap.size + 1 := fun k hk => by
    rcases hat with e | ⟨q, e, hq⟩
    · exact hg k (by rw [← e]; exact hk)
    · rw [e] at hk; cases hk; exact hnew _ hq
  have hg2' : ∀ k, v2'.ownBlock = some k → ¬ Sr k ∧ k ≠ ob ∧ k ≠ ob + 1 ∧ k ≠ w3.heap.size ∧ k ≠ w3.heap.size + 1 := fun k hk => by
    rcases hat2 with e | ⟨q, e, hq⟩
    · exact hg2 k (by rw [← e]; exact hk)
    · rw [e] at hk; cases hk; exact hnew _ hq
  have hel : ∀ o' u', OptV Z (w3.heap.size + 2) (fun q => ¬ Sr q) o' u' → OptV Y (w3.heap.size + 2) (fun q => ¬ Sr q ∧ q ≠ ob ∧ q ≠ ob + 1 ∧ q ≠ w3.heap.size ∧ q ≠ w3.heap.size + 1) o' u' := by
    rintro o' u' (h | ⟨x, b, cap, e1, e2, h3, h4, h5, h6⟩)
    · exact .inl h
    · have hb : b ≠ ob ∧ b ≠ ob + 1 ∧ some b ≠ v.ownBlock ∧ some b ≠ v2.ownBlock := by
        refine ⟨by omega, by omega, fun e => ?_, fun e => ?_⟩
        · obtain ⟨c, f, h⟩ := own_typed ho e.symm
          obtain ⟨sp, h5⟩ := h5
          rw [h5] at h; cases h
        · obtain ⟨c, f, h⟩ := own_typed ho2 e.symm
          obtain ⟨sp, h5⟩ := h5
          rw [h5] at h; cases h
      exact .inr ⟨x, b, cap, e1, e2, h3, ⟨h4, by omega, by omega, by omega, by omega⟩, h5.keep (hT.block b h5.lt hb), h6⟩
  have hvl : vs.length = L.length := by have := ho.1; omega
  refine ⟨hT.size, fun k hk => hT.block k (hPk k hk).1 (hPk k hk).2, ⟨hT.below hI.b (by have := hI.b.size; omega) (fun k hlt => ⟨by omega, by omega, fun e => by have := hlo k e.symm; omega, fun e => by have := hlo2 k e.symm; omega⟩), hI.f.trans (hT.mono fun k hk => (hPk k (.inl hk)).2), ⟨v', v2', hB, hB2, ⟨vs ++ [u], ?_, hg', ?_⟩, ?_, hg2'⟩, Nat.le_trans hz hT.size⟩⟩
  · rw [List.length_append]
    exact own_keep2 own5 hY (fun q hq => ⟨(hg' q hq).2.1, (hg' q hq).2.2.1⟩)
  · intro j hj
    by_cases e : j < L.length
    · obtain ⟨u', h1, h2⟩ := he j e
      refine ⟨u', by rw [List.getElem?_append_left (by omega)]; exact h1, ?_⟩
      rw [List.getElem_append_left e]
      exact hel _ _ (h2.mono (Nat.le_refl _) (fun b _ h => h.1))
    · have : j = L.length := by simp at hj; omega
      subst this
      refine ⟨u, by rw [List.getElem?_append_right (by omega), hvl]; simp, ?_⟩
      simp only [List.getElem_append_right (Nat.le_refl _), Nat.sub_self, List.getElem_cons_zero]
      exact hel _ _ hu
  · rw [List.length_append, List.map_append, List.map_append]
    exact own_keep2 own6 hY (fun q hq => ⟨(hg2' q hq).2.1, (hg2' q hq).2.2.1⟩)
end Go.Proofs.YtkmjeegnijohmaaGreat

namespace Go.Proofs.YtkmjeegnijohmaaGreat
open Go.RowKit
set_option linter.unusedVariables false
attribute [local go_sem] Oper.semAt_some

theorem news_one {X : World} {g : Nat} {u : Value} {T : TypeId} (h : X.heap[g]? = some (.cells #[u] T (0, 0))) : ∀ j u', [u][j]? = some u' → X.cell? ((⟨g, 0, none⟩ : Addr).add j) = some u' := by
  intro j u' hu
  obtain rfl : j = 0 := by
    obtain ⟨hj, _⟩ := List.getElem?_eq_some_iff.1 hu
    simpa using hj
  rw [Addr.add_lit]
  simp [World.cell?, h]
  simpa using hu
theorem ne_of_at {Zs : Nat} {v v2 v' : Value} (hlt : ∀ k, v.ownBlock = some k → k < Zs) (hne : ∀ g, v2.ownBlock = some g → some g ≠ v.ownBlock) (h : v'.ownBlock = v2.ownBlock ∨ ∃ q, v'.ownBlock = some q ∧ Zs ≤ q) : ∀ g, v'.ownBlock = some g → some g ≠ v.ownBlock := by
  intro g hg
  rcases h with e | ⟨q, e, hq⟩
  · exact hne g (by rw [← e]; exact hg)
  · rw [e] at hg; cases hg
    intro e2
    have := hlt _ e2.symm; omega
theorem round_cut {P : Program} {ops : Array Oper} {Q : Exit → Act → World → Prop} (R : World → Prop) (T : Nat → World → Prop) (l n : Nat) {id : Nat} {a : Act} {w : World} (hm : P.follows .mixedOrders = true) (hd : noDefer ops = true)
    (h : AnyT P .any ops (fun e _ w' => e = .normal ∧ R w') T ops.size (Array.replicate ops.size false) a w.drew) (h2 : ∀ a' w', R w' → Q .normal a' w') : (Code.region id ops true).wpIn (Fence.wide.inRound l) n P Q a w :=
  wpIn_mono (round_region T l n hm hd (fun ⟨_, _, h⟩ => by cases h.1) h) (by rintro e a w ⟨rfl, h⟩; exact h2 a w h)
theorem AnyT.weak {P : Program} {md : Region.Mode} {ops : Array Oper} {Q : Exit → Act → World → Prop} {T T' : Nat → World → Prop} (hT : ∀ j w, T' j w → T j w) : ∀ (fuel : Nat) (listed : Array Bool) (a : Act) (w : World), AnyT P md ops Q T' fuel listed a w → AnyT P md ops Q T fuel listed a w
  | 0, _, _, _, h => h
  | fuel + 1, listed, a, w, h => ⟨h.1, fun i hi => wpOp_mono (fun a' w' h' => ⟨hT _ _ h'.1, AnyT.weak hT fuel _ _ _ h'.2⟩) (h.2 i hi)⟩
theorem AnyT.takeG {P : Program} {md : Region.Mode} {ops : Array Oper} {Q : Exit → Act → World → Prop} {S : World → Prop} {T : Nat → World → Prop} {i d : Nat} {oi : Oper} {v : Value} {fuel : Nat} {listed : Array Bool} {a : Act} {w : World} {Wf : Nat → Bool} (hT : ∀ j w, T j w → Wf j = true → S w) (hTi : ∀ w, S w → T i w) (hi : ops[i]? = some oi) (hd : oi.dst = some d)
    (hs : Region.noSelect ops = true) (hf : Region.free md ops listed i = true) (hr : (Region.ready md ops listed).contains i = true)
    (hQ : ∀ c a w, Q (.panic c) (a.put (some d) v) w → Q (.panic c) a w)
    (hW : (List.range ops.size).all (fun j => waits md ops i j || Wf j) = true) (hw : Region.wanted oi (yielded ops a.tmps) = true) (hy : ∀ w, S w → (execOp a.eval oi).run P w = .ok (.value v) w) (hS : S w)
    (h : AnyT P md ops Q T fuel (listed.setIfInBounds i true) (a.put (some d) v) w) : AnyT P md ops Q T (fuel + 1) listed a w :=
  AnyT.take hi hs hf hr (by rw [hd]; exact hQ) (fun j hj w hT' => hT j w hT' (by
    by_cases e : j < ops.size
    · have := List.all_eq_true.1 hW j (List.mem_range.2 e)
      rw [hj] at this; simpa using this
    · unfold waits at hj; rw [Array.getElem?_eq_none (by omega)] at hj; cases hj)) hTi (.inl ⟨hw, hy⟩) hS (by rw [hd]; exact h)
theorem results_cells2 {fn : Func} {p q u : Tmp} {t1 t2 : TypeId} (h : fn.results = #[.cell p t1, .cell q t2, .tmp u]) {tmps : Array Value} {P : Program} {w : World} {a1 a2 : Addr} {x y : Value} (hp : tmps.getD p undef = .pointer (some a1)) (hq : tmps.getD q undef = .pointer (some a2))
    (hx : (loadVar t1 a1).run P w = .ok x w) (hy : (loadVar t2 a2).run P w = .ok y w) : (results fn tmps).run P w = .ok (.tuple #[x, y, tmps.getD u undef]) w := by
  have hp' : tmps[p]?.getD undef = .pointer (some a1) := by simpa using hp
  have hq' : tmps[q]?.getD undef = .pointer (some a2) := by simpa using hq
  simp [results, h, hp', hq', asAddr, hx, hy]
theorem load_ints {W : World} {b : Nat} {a : Option Addr} {n c : Nat} (h : W.cell? ⟨b, 0, none⟩ = some (.slice a n c)) : (loadVar 22 ⟨b, 0, none⟩).run Tryz.prog W = .ok (.slice a n c) W := by
  go_simp
theorem load_bools {W : World} {b : Nat} {a : Option Addr} {n c : Nat} (h : W.cell? ⟨b, 0, none⟩ = some (.slice a n c)) : (loadVar 39 ⟨b, 0, none⟩).run Tryz.prog W = .ok (.slice a n c) W := by
  go_simp

set_option maxRecDepth 100000 in
set_option maxHeartbeats 4000000 in
theorem sDecode_c (w : World) (a a2 : Option Addr) (n cap n2 cap2 : Nat) (M : Mask) (F : List Frm) (k : Int) (hn : M.length = n) (hm : n ≤ maxLen) (H : RowsAt w a M) (hn2 : F.length = n2) (hm2 : n2 ≤ maxLen) (H2 : FramesAt w a2 F) :
    Calls Tryz.prog 16 #[.slice a n cap, .slice a2 n2 cap2, .int .i64 k] w fun e w' => ∃ va vc ta tc, e = .returned (.tuple #[.slice va (decF M F k).length vc, .slice ta (toldL M F k).length tc, .int .i64 (askE M F k)]) ∧ OptsAt w' va (decF M F k) ∧ BoolsAt w' ta (toldL M F k) ∧ Below w.heap.size w w' := by
  have hneq := fun (w : World) (a : Option Addr) (n c : Nat) => run_neq_slice_nil_any (P := Tryz.prog) w 33 3 a n c 0 0 Tryz.underlying33
  obtain ⟨w1, hw1⟩ : ∃ w1, w1 = (w.alloc (.cells #[.slice none 0 0] 22)).alloc (.cells #[.slice none 0 0] 39) := ⟨_, rfl⟩
  have hb1 : Below w.heap.size w w1 := by rw [hw1]; exact ((Below.refl _ _).alloc (Nat.le_refl _) _).alloc (by simp) _
  have bx : Boxed w1 w.heap.size 22 (.slice none 0 0) := by rw [hw1]; exact (Boxed.new w _ _).alloc _
  have by' : Boxed w1 (w.heap.size + 1) 39 (.slice none 0 0) := by rw [hw1]; have := Boxed.new (w.alloc (.cells #[.slice none 0 0] 22)) 39 (.slice none 0 0); rwa [World.size_alloc] at this
  have hs1 : w1.heap.size = w.heap.size + 2 := by rw [hw1]; simp
  have HA := hid (asked_c w1 a a2 n cap n2 cap2 M F k hn hm (H.below hb1) hn2 hm2 (H2.below hb1))
  have HW1 := hid hw1
  by_cases h0 : askE M F k = 0
  rotate_left
  · have hL : decF M F k = [] := by unfold decF; rw [if_neg h0]
    have hT : toldL M F k = [] := by unfold toldL; rw [hL]; rfl
    rw [hL, hT]
    obtain ⟨E, hE⟩ : ∃ E, E = askE M F k := ⟨_, rfl⟩
    rw [← hE] at HA h0 ⊢
    have hne : (E != 0) = true := by simpa using h0
    have HB1 := hid hb1
    have BX := hid bx
    have BY := hid by'
    have HS1 := hid hs1
    clear hn hm H hn2 hm2 H2 hL hT h0 hE hb1 bx by' hw1 hs1
    refine callsIn_wide (n := 0) |>.1 ?_
    refine callsIn_of_wp_marks Tryz.func16 rfl trivial ?_ rfl
    simp only [Tryz.ntmps16, List.size_toArray, List.length_cons, List.length_nil, Nat.reduceAdd, Nat.reduceSub, Array.replicate_succ, Array.replicate_zero, List.push_toArray, List.append_toArray, List.nil_append, List.cons_append]
    gi_wp2_with fail
    rw [← HW1.out]
    gi_wp2_with (refine ⟨trivial, rfl, ?_⟩; gi_at_call 39; refine (callsIn_wide.2 HA.out).mono ?_; rintro e w2 ⟨rfl, hb2⟩; refine Stop.of ?_)
    refine Stop.go ?_
    have b1 : Boxed w2 w.heap.size 22 (.slice none 0 0) := (hb2.block _ (by have := HS1.out; omega)).trans BX.out
    have b2 : Boxed w2 (w.heap.size + 1) 39 (.slice none 0 0) := (hb2.block _ (by have := HS1.out; omega)).trans BY.out
    have c1 := b1.cell
    have f1 := b1.frozen
    have l1 := b1.lt
    have c2 := b2.cell
    have f2 := b2.frozen
    have l2 := b2.lt
    gi_wp2
    have hk : Keep (fun q => q ≠ w.heap.size ∧ q ≠ w.heap.size + 1) w2 ((w2.setCell ⟨w.heap.size, 0, none⟩ (.slice none 0 0)).setCell ⟨w.heap.size + 1, 0, none⟩ (.slice none 0 0)) := ((Keep.set _ _ _ _).mono fun q hq => hq.1).trans ((Keep.set _ _ _ _).mono fun q hq => hq.2)
    have d1 : Boxed ((w2.setCell ⟨w.heap.size, 0, none⟩ (.slice none 0 0)).setCell ⟨w.heap.size + 1, 0, none⟩ (.slice none 0 0)) w.heap.size 22 (.slice none 0 0) :=
      ((Keep.set (w2.setCell ⟨w.heap.size, 0, none⟩ (.slice none 0 0)) (w.heap.size + 1) 0 (.slice none 0 0)).block w.heap.size (by simp [World.setCell]; omega) (by omega)).trans (Boxed.set _ b1)
    have d2 : Boxed ((w2.setCell ⟨w.heap.size, 0, none⟩ (.slice none 0 0)).setCell ⟨w.heap.size + 1, 0, none⟩ (.slice none 0 0)) (w.heap.size + 1) 39 (.slice none 0 0) :=
      Boxed.set _ (((Keep.set w2 w.heap.size 0 (.slice none 0 0)).block (w.heap.size + 1) b2.lt (by omega)).trans b2)
    have hb := hk.below (chain HB1.out hb2) (by omega) (fun q hq => by constructor <;> omega)
    generalize (w2.setCell ⟨w.heap.size, 0, none⟩ (.slice none 0 0)).setCell ⟨w.heap.size + 1, 0, none⟩ (.slice none 0 0) = wz at d1 d2 hb ⊢
    exact ⟨_, results_cells2 rfl rfl rfl (load_ints d1.cell) (load_bools d2.cell), none, 0, none, 0, rfl, fun j hj => by simp at hj, fun j hj => by simp at hj, hb⟩
  · have hV := (askE_ok h0).1
    obtain ⟨hM, h1, h60, _⟩ := validB_ok hV
    have hfv : ∀ f ∈ F, frB M f = true := by
      unfold validB at hV
      simp only [Bool.and_eq_true, List.all_eq_true] at hV
      exact hV.2
    have hL : decF M F k = decL M k F n2 := by unfold decF; rw [if_pos h0, hn2]
    have hT : toldL M F k = (decL M k F n2).map (·.isSome) := by unfold toldL; rw [hL]
    have hlen := decL_len M k F n2
    rw [hL, hT, h0, List.length_map, hlen]
    rw [h0] at HA
    have hn60 : n2 ≤ 60 := by omega
    have HPR := hid (fun (pre : List Nat) (t : Nat) (h : pre ++ [t] <+: List.range n2) => missTo_snoc M k F pre (by rw [hn2]; exact h))
    have HIT := hid (fun (w2 : World) (hb2 : Below w1.heap.size w1 w2) (w3 : World) (hw3 : w3 = ((w2.alloc (.cells #[.slice a n cap] 23)).alloc (.cells #[.slice a2 n2 cap2] 37)).alloc (.cells #[.int .i64 k] 3)) => by
      have c1 : Boxed w3 w2.heap.size 23 (.slice a n cap) := by rw [hw3]; exact ((Boxed.new w2 _ _).alloc _).alloc _
      have c2 : Boxed w3 (w2.heap.size + 1) 37 (.slice a2 n2 cap2) := by rw [hw3]; have := (Boxed.new (w2.alloc (.cells #[.slice a n cap] 23)) 37 (.slice a2 n2 cap2)).alloc (.cells #[.int .i64 k] 3); simpa using this
      have c3 : Boxed w3 (w2.heap.size + 2) 3 (.int .i64 k) := by rw [hw3]; have := Boxed.new ((w2.alloc (.cells #[.slice a n cap] 23)).alloc (.cells #[.slice a2 n2 cap2] 37)) 3 (.int .i64 k); simpa using this
      have hs3 : w3.heap.size = w2.heap.size + 3 := by rw [hw3]; simp
      have hb3 : Below w2.heap.size w2 w3 := by rw [hw3]; exact (((Below.refl _ _).alloc (Nat.le_refl _) _).alloc (by simp) _).alloc (by simp; omega) _
      have hs2 := hb2.size
      have hB3 : Below w.heap.size w w3 := chain (chain hb1 hb2) hb3
      have hB13 : Below w1.heap.size w1 w3 := chain hb2 hb3
      have bx3 : Boxed w3 w.heap.size 22 (.slice none 0 0) := (hB13.block _ (by omega)).trans bx
      have by3 : Boxed w3 (w.heap.size + 1) 39 (.slice none 0 0) := (hB13.block _ (by omega)).trans by'
      obtain ⟨fp, hfp⟩ : ∃ fp : Nat → Prop, fp = fun q => q < w3.heap.size ∧ q ≠ w.heap.size ∧ q ≠ w.heap.size + 1 := ⟨_, rfl⟩
      have hIT := dec_iter w3 fp (w2.heap.size + 1) w2.heap.size (w2.heap.size + 2) a a2 n cap n2 cap2 M F k hn hM hn2 (by omega) hfv (by rw [hfp]; exact fun q h => h.1)
        (fun X hX hq => by
          rw [hfp] at hq
          have hqq : ∀ q, q < w.heap.size → X.heap[q]? = w.heap[q]? := fun q hlt => (hq q ⟨by omega, by omega, by omega⟩).trans (hB3.block q hlt)
          refine ⟨⟨RowsAt.blk H hqq, ?_⟩, cell_blk c2.cell (hq _ ⟨by omega, by omega, by omega⟩), cell_blk c1.cell (hq _ ⟨by omega, by omega, by omega⟩), cell_blk c3.cell (hq _ ⟨by omega, by omega, by omega⟩)⟩
          intro j hj
          obtain ⟨b, off, ra, rn, rc, e, hlt, k0, k1, hn', hm', hi⟩ := H2 j hj
          refine ⟨b, off, ra, rn, rc, e, lt_blk hlt (hqq b hlt), cell_blk k0 (hqq b hlt), cell_blk k1 (hqq b hlt), hn', hm', hi.blk hqq⟩)
      exact (show ∃ fp : Nat → Prop, (fp = fun q => q < w3.heap.size ∧ q ≠ w.heap.size ∧ q ≠ w.heap.size + 1) ∧ Below w.heap.size w w3 ∧ w3.heap.size = w2.heap.size + 3 ∧ w.heap.size + 2 ≤ w2.heap.size ∧ Boxed w3 w.heap.size 22 (.slice none 0 0) ∧ Boxed w3 (w.heap.size + 1) 39 (.slice none 0 0) ∧
        IterP Tryz.prog 61 #[.pointer (some ⟨w2.heap.size + 1, 0, none⟩), .pointer (some ⟨w2.heap.size, 0, none⟩), .pointer (some ⟨w2.heap.size + 2, 0, none⟩)] (DecV M k F) (List.range n2) fp w3 from ⟨fp, hfp, hB3, hs3, by omega, bx3, by3, hIT⟩))
    have HDC := hid (fun (X : World) => decoded_c X a a2 n cap n2 cap2 k)
    clear hn hm H hn2 hm2 H2 h0 hV hM h1 h60 hfv hL hT hlen hb1 bx by' hw1
    refine callsIn_wide (n := 0) |>.1 ?_
    refine callsIn_of_wp_marks Tryz.func16 rfl trivial ?_ rfl
    simp only [Tryz.ntmps16, List.size_toArray, List.length_cons, List.length_nil, Nat.reduceAdd, Nat.reduceSub, Array.replicate_succ, Array.replicate_zero, List.push_toArray, List.append_toArray, List.nil_append, List.cons_append]
    gi_wp2_with fail
    rw [← HW1.out]
    gi_wp2_with (refine ⟨trivial, rfl, ?_⟩; gi_at_call 39; refine (callsIn_wide.2 HA.out).mono ?_; rintro e w2 ⟨rfl, hb2⟩; refine Stop.of ?_)
    refine Stop.go ?_
    gi_wp2_with (refine ⟨trivial, rfl, ?_⟩; gi_at_call 40; refine (callsIn_wide.2 (HDC.out w2)).mono ?_; rintro e w3 ⟨rfl, hw3⟩; have HW3 := hid hw3; clear hw3; refine Stop.of ?_)
    refine Stop.go ?_
    obtain ⟨fp, hfp, hB3, hs3, hs2, bx3, by3, hIT⟩ := HIT.out w2 hb2 w3 HW3.out
    have HFP := hid hfp
    have HB3 := hid hB3
    have HS3 := hid hs3
    have HS2 := hid hs2
    have BX3 := hid bx3
    have BY3 := hid by3
    clear hb2 HW3 hfp hB3 hs3 hs2 bx3 by3 HIT HDC HA
    gi_wp2
    refine range_p (gf := 61) (lb := #[.pointer (some ⟨w2.heap.size + 1, 0, none⟩), .pointer (some ⟨w2.heap.size, 0, none⟩), .pointer (some ⟨w2.heap.size + 2, 0, none⟩)]) (xs := List.range n2) (fp := fp) (V := DecV M k F) rfl (enters_of Tryz.func61 (by kernel_rfl) rfl)
      hIT (Below.refl _ _) (by rw [HFP.out]; exact fun q h => h.1)
      (fun Sr pre Z => DcdI w w3 w.heap.size fp Sr (decL M k F pre.length) Z)
      (fun _ _ _ _ => False) ?hI (fun _ _ _ _ _ _ h => h.elim) ?hV ?h0
      (fun v u a' Z => a' = { tmps := #[.slice a n cap, .slice a2 n2 cap2, .int .i64 k, undef, undef, undef, .pointer (some ⟨w.heap.size, 0, none⟩), .pointer (some ⟨w.heap.size + 1, 0, none⟩), .int .i64 0, .int .i64 0, undef, u, .slice a n cap, .slice a2 n2 cap2, .int .i64 k, .int .i64 0, .int .i64 0, .bool false, undef, .slice a n cap, .slice a2 n2 cap2, .int .i64 k, .func (.func 61) #[] #[.pointer (some ⟨w2.heap.size + 1, 0, none⟩), .pointer (some ⟨w2.heap.size, 0, none⟩), .pointer (some ⟨w2.heap.size + 2, 0, none⟩)], v, u, undef, undef, undef, undef, undef, undef, undef, undef, undef, undef, undef], defers := [] }) ?hAx ?hassign ?hbody ?hdone ?hstop
    case hI =>
      intro Sr Sr' s A B hIA h1 h2 h3 h4 hk
      have := HS3.out
      have := HS2.out
      exact hIA.keep h1 h2 h3 (by omega) (by rw [HFP.out]; exact fun q h => h.1) (HB3.out.size) hk
    case hV =>
      intro Sr x v u A B hv hk
      exact hv.keep hk (fun q hq => ⟨by omega, by omega⟩)
    case h0 =>
      intro Z hk hZ
      have := HS3.out
      have := HS2.out
      exact ⟨hk.below HB3.out HB3.out.size (fun q hq => by show q < w3.heap.size; omega), hk.mono (by rw [HFP.out]; exact fun q h => h.1), ⟨_, _, (hk.block _ BX3.out.lt (by show w.heap.size < w3.heap.size; omega)).trans BX3.out, (hk.block _ BY3.out.lt (by show w.heap.size + 1 < w3.heap.size; omega)).trans BY3.out, PicsO.nil _ _ _, World.ownsRow_nil _ _ _ _, fun q hq => by simp [Value.ownBlock] at hq⟩, hZ⟩
    case hAx =>
      intro v u a' A B h _
      exact h
    case hassign =>
      rintro l Sr x v u Z K hZ hv hK
      gi_wp2
      exact hK _ _ (Below.refl _ _) rfl
    case hbody =>
      rintro l' Sr pre t _ u _ Z hpre hSr hI ⟨rfl, ho⟩ rfl hZ hDo hLo
      obtain ⟨hpr, ht⟩ := HPR.out pre t hpre
      have htn : t < n2 := List.mem_range.1 (hpre.subset (List.mem_append_right _ (List.mem_singleton.2 rfl)))
      have hlen : pre.length = t := by rw [hpr]; simp
      have hlen1 : (pre ++ [t]).length = t + 1 := by rw [List.length_append, hlen]; rfl
      rw [hlen] at hI
      obtain ⟨v, v2, hv, hv2, hpo, hbo, hbg⟩ := hI.o
      obtain ⟨vs, hvo, hvg, hve⟩ := hpo
      have hll := decL_len M k F t
      have hdl := decL_succ M k F t
      obtain ⟨L, hL⟩ : ∃ L, L = decL M k F t := ⟨_, rfl⟩
      rw [← hL] at hvo hve hbo hll hdl hI
      obtain ⟨va, vc, rfl⟩ := ownsRow_slice hvo
      obtain ⟨ta, tc, rfl⟩ := ownsRow_slice hbo
      obtain ⟨o, hoo⟩ : ∃ o, o = decAt M k F (t + 1) := ⟨_, rfl⟩
      rw [← hoo] at ho hdl
      obtain ⟨ln, hln⟩ : ∃ ln, ln = L.length := ⟨_, rfl⟩
      rw [← hln] at hvo hbo hv hv2 hvg hbg
      have hln60 : ln ≤ 60 := by omega
      have hfp' : ∀ q, fp q → q < w3.heap.size ∧ q ≠ w.heap.size ∧ q ≠ w.heap.size + 1 := by rw [HFP.out]; exact fun q h => h
      have ho' : OptV Z (w3.heap.size + 2) (fun q => ¬ Sr q) o u := ho
      obtain ⟨xa, xc, rfl, _, _, hnn⟩ := ho.slice
      obtain ⟨xn, hxn⟩ : ∃ xn, xn = (o.getD []).length := ⟨_, rfl⟩
      rw [← hxn] at ho' ⊢
      have hBs : (!xa.isNone) = o.isSome := by
        cases ho2 : o with
        | none => rw [hnn.2 ho2]; rfl
        | some y => cases xa with
          | none => rw [hnn.1 rfl] at ho2; cases ho2
          | some z => rfl
      obtain ⟨B, hB⟩ : ∃ B, B = o.isSome := ⟨_, rfl⟩
      rw [← hB] at hBs
      have hob : w.heap.size + 1 < w3.heap.size := by have := HS3.out; have := HS2.out; omega
      have HFIN := hid (fun (X : World) (va5 : Option Addr) (vc5 : Nat) (ta5 : Option Addr) (tc5 : Nat) (hX : Keep (fun q => some q ≠ (Value.slice va ln vc).ownBlock ∧ some q ≠ (Value.slice ta ln tc).ownBlock) Z X) (own5 : X.ownsRow (w3.heap.size + 2) 33 1 (.slice va5 (ln + 1) vc5) (ln + 1) (vs ++ [.slice xa xn xc])) (own6 : X.ownsRow (w3.heap.size + 2) 4 1 (.slice ta5 (ln + 1) tc5) (ln + 1) ((L.map (·.isSome)).map Value.bool ++ [.bool B]))
          (hat : (Value.slice va5 (ln + 1) vc5).ownBlock = (Value.slice va ln vc).ownBlock ∨ ∃ q, (Value.slice va5 (ln + 1) vc5).ownBlock = some q ∧ Z.heap.size ≤ q) (hat2 : (Value.slice ta5 (ln + 1) tc5).ownBlock = (Value.slice ta ln tc).ownBlock ∨ ∃ q, (Value.slice ta5 (ln + 1) tc5).ownBlock = some q ∧ Z.heap.size ≤ q) =>
        show Z.heap.size ≤ ((X.setCell ⟨w.heap.size, 0, none⟩ (.slice va5 (ln + 1) vc5)).setCell ⟨w.heap.size + 1, 0, none⟩ (.slice ta5 (ln + 1) tc5)).heap.size ∧ (∀ k, (fp k ∨ k = w3.heap.size ∨ k = w3.heap.size + 1 ∨ Sr k) → ((X.setCell ⟨w.heap.size, 0, none⟩ (.slice va5 (ln + 1) vc5)).setCell ⟨w.heap.size + 1, 0, none⟩ (.slice ta5 (ln + 1) tc5)).heap[k]? = Z.heap[k]?) ∧ DcdI w w3 w.heap.size fp Sr (L ++ [o]) ((X.setCell ⟨w.heap.size, 0, none⟩ (.slice va5 (ln + 1) vc5)).setCell ⟨w.heap.size + 1, 0, none⟩ (.slice ta5 (ln + 1) tc5)) from by
          have hBX : ∀ q, q < w3.heap.size → some q ≠ (Value.slice va ln vc).ownBlock ∧ some q ≠ (Value.slice ta ln tc).ownBlock := fun q hq => ⟨fun e => by have := (hvo.lt q e.symm).1; omega, fun e => by have := (hbo.lt q e.symm).1; omega⟩
          have b1 : Boxed X w.heap.size 22 (.slice va ln vc) := (hX.block _ hv.lt (hBX _ (by omega))).trans hv
          have b2 : Boxed X (w.heap.size + 1) 39 (.slice ta ln tc) := (hX.block _ hv2.lt (hBX _ (by omega))).trans hv2
          refine DcdI.push hI (by rw [← hln]; exact hvo) (by rw [← hln]; exact hbo) hvg hbg hve ho' hX (by rw [← hln]; exact own5) (by rw [← hln, ← hB]; exact own6) hat hat2 (((Keep.set _ _ _ _).mono fun q hq => hq.1).trans ((Keep.set _ _ _ _).mono fun q hq => hq.2)) ?_ ?_ hSr hob hfp' (Nat.le_refl _)
          · exact ((Keep.set (X.setCell ⟨w.heap.size, 0, none⟩ (.slice va5 (ln + 1) vc5)) (w.heap.size + 1) 0 (.slice ta5 (ln + 1) tc5)).block w.heap.size (by have := b1.lt; simpa [World.setCell] using this) (by omega)).trans (Boxed.set _ b1)
          · exact Boxed.set _ (((Keep.set X w.heap.size 0 (.slice va5 (ln + 1) vc5)).block (w.heap.size + 1) b2.lt (by omega)).trans b2))
      have HBX := hid (show ∀ X : World, Keep (fun q => some q ≠ (Value.slice va ln vc).ownBlock ∧ some q ≠ (Value.slice ta ln tc).ownBlock) Z X → Boxed X w.heap.size 22 (.slice va ln vc) ∧ Boxed X (w.heap.size + 1) 39 (.slice ta ln tc) from fun X hX => by
          have hBX : ∀ q, q < w3.heap.size → some q ≠ (Value.slice va ln vc).ownBlock ∧ some q ≠ (Value.slice ta ln tc).ownBlock := fun q hq => ⟨fun e => by have := (hvo.lt q e.symm).1; omega, fun e => by have := (hbo.lt q e.symm).1; omega⟩
          exact ⟨(hX.block _ hv.lt (hBX _ (by omega))).trans hv, (hX.block _ hv2.lt (hBX _ (by omega))).trans hv2⟩)
      have HTX := hid (show ∀ X : World, Keep (fun q => some q ≠ (Value.slice va ln vc).ownBlock ∧ some q ≠ (Value.slice ta ln tc).ownBlock) Z X → X.cell? ⟨w.heap.size, 0, none⟩ = some (.slice va ln vc) ∧ X.cell? ⟨w.heap.size + 1, 0, none⟩ = some (.slice ta ln tc) from fun X hX => ⟨(HBX.out X hX).1.cell, (HBX.out X hX).2.cell⟩)
      have HLT := hid (show ∀ q, (Value.slice va ln vc).ownBlock = some q → q < Z.heap.size from fun q hq => (hvo.lt q hq).2)
      have HLT2 := hid (show ∀ q, (Value.slice ta ln tc).ownBlock = some q → q < Z.heap.size from fun q hq => (hbo.lt q hq).2)
      have HNE1 := hid (show ∀ g, (Value.slice va ln vc).ownBlock = some g → some g ≠ (Value.slice ta ln tc).ownBlock from fun g hg e => by
        obtain ⟨c, f, h1⟩ := own_typed hvo hg
        obtain ⟨c', f', h2⟩ := own_typed hbo e.symm
        rw [h1] at h2; cases h2)
      have HNE2 := hid (show ∀ g, (Value.slice ta ln tc).ownBlock = some g → some g ≠ (Value.slice va ln vc).ownBlock from fun g hg e => HNE1.out g e.symm (by rw [hg]))
      have M1 := hid (show ln + 1 ≤ maxLen by unfold maxLen; omega)
      have M2 := hid (show (ln + 1) * 24 ≤ 140737488355328 by omega)
      have M4 := hid (show (ln + 1) * 1 ≤ 140737488355328 by omega)
      have M3 := hid hZ
      have HVO := hid hvo
      have HBO := hid hbo
      have HL1 := hid hlen1
      have HDL := hid hdl
      have HBS := hid (show xa.isSome = B by rw [← hBs]; cases xa <;> rfl)
      have hobZ : w.heap.size + 1 < Z.heap.size := by omega
      clear hpr htn hlen hlen1 hpre hSr hI hDo hLo hv hv2 hvo hbo hbg hvg hve hll hdl hL hoo hln hfp' ho' ho hnn hxn hBs hB hob
      gi_wp2_with fail
      refine round_cut (fun Y => Z.heap.size ≤ Y.heap.size ∧ (∀ k, (fp k ∨ k = w3.heap.size ∨ k = w3.heap.size + 1 ∨ Sr k) → Y.heap[k]? = Z.heap[k]?) ∧ DcdI w w3 w.heap.size fp Sr (L ++ [o]) Y)
        (fun j w' => decide (j < 10) = true → w'.cell? ⟨w.heap.size + 1, 0, none⟩ = some (.slice ta ln tc)) l' 0 (by kernel_rfl) (by kernel_rfl) ?_ ?_
      · have HK0 := hid (show Keep (fun q => some q ≠ (Value.slice va ln vc).ownBlock ∧ some q ≠ (Value.slice ta ln tc).ownBlock) Z Z.drew from Keep.of_below (Below.refl _ _).drew)
        have HP0 := hid (show Z.drew.ownsRow (w3.heap.size + 2) 33 1 (.slice va ln vc) ln vs from HVO.out)
        have HB0 := hid (show Z.drew.ownsRow (w3.heap.size + 2) 4 1 (.slice ta ln tc) ln ((L.map (·.isSome)).map Value.bool) from HBO.out)
        have hS := HTX.out _ HK0.out
        generalize Z.drew = x0 at HK0 HP0 HB0 hS ⊢
        refine AnyT.takeD (i := 1) (v := .slice xa xn xc) rfl rfl (by kernel_rfl) (by kernel_rfl) (by kernel_rfl) (by first | exact (fun _ _ _ h => h) | exact (fun _ _ _ h => absurd h.1 (by simp))) (by kernel_rfl) (by rfl) (by rintro w' q2; go_simp) hS.2 ?_; go_frame
        refine AnyT.takeD (i := 4) (v := .slice ta ln tc) rfl rfl (by kernel_rfl) (by kernel_rfl) (by kernel_rfl) (by first | exact (fun _ _ _ h => h) | exact (fun _ _ _ h => absurd h.1 (by simp))) (by kernel_rfl) (by rfl) (by rintro w' q2; go_simp) hS.2 ?_; go_frame
        refine AnyT.takeD (i := 5) (v := .slice xa xn xc) rfl rfl (by kernel_rfl) (by kernel_rfl) (by kernel_rfl) (by first | exact (fun _ _ _ h => h) | exact (fun _ _ _ h => absurd h.1 (by simp))) (by kernel_rfl) (by rfl) (by rintro w' q2; go_simp) hS.2 ?_; go_frame
        refine AnyT.takeD (i := 6) (v := .bool B) rfl rfl (by kernel_rfl) (by kernel_rfl) (by kernel_rfl) (by first | exact (fun _ _ _ h => h) | exact (fun _ _ _ h => absurd h.1 (by simp))) (by kernel_rfl) (by rfl) (by rintro w' hw'; go_simp; exact HBS.out) hS.2 ?_; go_frame
        refine AnyT.weak (T' := fun j w' => (decide (j < 9) = true → w'.cell? ⟨w.heap.size, 0, none⟩ = some (.slice va ln vc)) ∧ (decide (j < 10) = true → w'.cell? ⟨w.heap.size + 1, 0, none⟩ = some (.slice ta ln tc))) (fun j w' h => h.2) _ _ _ _ ?_
        refine AnyT.takeG (i := 0) (v := .slice va ln vc) (S := fun w' => w'.cell? ⟨w.heap.size, 0, none⟩ = some (.slice va ln vc) ∧ w'.cell? ⟨w.heap.size + 1, 0, none⟩ = some (.slice ta ln tc)) (Wf := fun j => decide (j < 9)) (fun j w' h hj => ⟨h.1 hj, h.2 (by have := of_decide_eq_true hj; exact decide_eq_true (by omega))⟩) (fun w' h => ⟨fun _ => h.1, fun _ => h.2⟩) rfl rfl (by kernel_rfl) (by kernel_rfl) (by kernel_rfl) (by first | exact (fun _ _ _ h => h) | exact (fun _ _ _ h => absurd h.1 (by simp))) (by kernel_rfl) (by rfl) (by rintro w' ⟨q1, q2⟩; go_simp) hS ?_; go_frame
        clear hS
        refine AnyT.next2 (i := 2) (j := 7) (by kernel_rfl) (wpOp_of_list rfl ?_) (wpOp_of_list rfl ?_)
        · go_wp2
          have hw1 : (x0.alloc (.cells #[.slice xa xn xc] 33)).heap[x0.heap.size]? = some (.cells #[.slice xa xn xc] 33 (0, 0)) := World.alloc_heap_new _ _
          have hb1 : Below x0.heap.size x0 (x0.alloc (.cells #[.slice xa xn xc] 33)) := (Below.refl _ _).alloc (Nat.le_refl _) _
          have HK1 := hid (HK0.out.trans (Keep.of_below hb1))
          have HP1 := hid (HP0.out.alloc (.cells #[.slice xa xn xc] 33))
          have HB1 := hid (HB0.out.alloc (.cells #[.slice xa xn xc] 33))
          generalize x0.alloc (.cells #[.slice xa xn xc] 33) = x1 at hw1 hb1 HK1 HP1 HB1 ⊢
          have HA1 := hid hw1
          clear hw1 hb1
          refine ⟨⟨fun _ => (HTX.out _ HK1.out).1, fun _ => (HTX.out _ HK1.out).2⟩, ?_⟩
          refine AnyT.next2 (i := 3) (j := 7) (by kernel_rfl) (wpOp_of_list rfl ?_) (wpOp_of_list rfl ?_)
          · (refine wpList_app_lies _ rfl (.tmp 25) (.tmp 27) 22 rfl (w3.heap.size + 2) 33 (.slice none 0 0) 1 24 Tryz.underlying22 info_ints rfl Nat.one_pos (.slice va ln vc) ln vs rfl HP1.out ⟨x0.heap.size, 0, none⟩ 1 1 [.slice xa xn xc] rfl rfl (news_one HA1.out) (slice_oneCell _ _ _) M1.out M2.out (Nat.le_trans M3.out HK1.out.size) ?_)
            intro va5 vc5 x2 own5 g5 hat5
            have HPat := hid (hat5.imp id (fun h => ⟨_, h, HK1.out.size⟩) : (Value.slice va5 (ln + 1) vc5).ownBlock = (Value.slice va ln vc).ownBlock ∨ ∃ q, (Value.slice va5 (ln + 1) vc5).ownBlock = some q ∧ Z.heap.size ≤ q)
            have HK2 := hid (HK1.out.trans ((Keep.grown g5).mono fun q hq => hq.1))
            have HB2 := hid (own_keep2 HB1.out (Keep.grown g5) (HNE2.out))
            have HP2 := hid own5
            clear own5 g5 hat5
            refine And.intro ⟨fun _ => (HTX.out _ HK2.out).1, fun _ => (HTX.out _ HK2.out).2⟩ ?_
            refine AnyT.next (i := 7) (by kernel_rfl) rfl (wpOp_of_list rfl ?_)
            go_wp2
            have hw3 : (x2.alloc (.cells #[.bool B] 4)).heap[x2.heap.size]? = some (.cells #[.bool B] 4 (0, 0)) := World.alloc_heap_new _ _
            have hb3 : Below x2.heap.size x2 (x2.alloc (.cells #[.bool B] 4)) := (Below.refl _ _).alloc (Nat.le_refl _) _
            have HK3 := hid (HK2.out.trans (Keep.of_below hb3))
            have HP3 := hid (HP2.out.alloc (.cells #[.bool B] 4))
            have HB3 := hid (HB2.out.alloc (.cells #[.bool B] 4))
            generalize x2.alloc (.cells #[.bool B] 4) = x3 at hw3 hb3 HK3 HP3 HB3 ⊢
            have HC3 := hid hw3
            clear hw3 hb3
            refine ⟨⟨fun _ => (HTX.out _ HK3.out).1, fun _ => (HTX.out _ HK3.out).2⟩, ?_⟩
            refine AnyT.next (i := 8) (by kernel_rfl) rfl (wpOp_of_list rfl ?_)
            (refine wpList_app_lies _ rfl (.tmp 29) (.tmp 32) 39 rfl (w3.heap.size + 2) 4 (.bool false) 1 1 Tryz.underlying39 info_truth rfl Nat.one_pos (.slice ta ln tc) ln _ rfl HB3.out ⟨x2.heap.size, 0, none⟩ 1 1 [.bool B] rfl rfl (news_one HC3.out) (fun u hu => by rw [List.mem_singleton.1 hu]; rfl) M1.out M4.out (Nat.le_trans M3.out HK3.out.size) ?_)
            intro ta5 tc5 x4 own6 g6 hat6
            have HBat := hid (hat6.imp id (fun h => ⟨_, h, HK3.out.size⟩) : (Value.slice ta5 (ln + 1) tc5).ownBlock = (Value.slice ta ln tc).ownBlock ∨ ∃ q, (Value.slice ta5 (ln + 1) tc5).ownBlock = some q ∧ Z.heap.size ≤ q)
            have HK4 := hid (HK3.out.trans ((Keep.grown g6).mono fun q hq => hq.2))
            have HP4 := hid (own_keep2 HP3.out (Keep.grown g6) (ne_of_at HLT2.out HNE1.out HPat.out))
            have HB4 := hid own6
            clear own6 g6 hat6
            refine And.intro ⟨fun _ => (HTX.out _ HK4.out).1, fun _ => (HTX.out _ HK4.out).2⟩ ?_
            obtain ⟨b1, b2⟩ := HBX.out _ HK4.out
            have c1 := b1.cell
            have f1 := b1.frozen
            have l1 := b1.lt
            have hfin := hid (HFIN.out x4 va5 vc5 ta5 tc5 HK4.out HP4.out HB4.out HPat.out HBat.out)
            have b2' : Boxed (x4.setCell ⟨w.heap.size, 0, none⟩ (.slice va5 (ln + 1) vc5)) (w.heap.size + 1) 39 (.slice ta ln tc) := ((Keep.set x4 w.heap.size 0 (.slice va5 (ln + 1) vc5)).block (w.heap.size + 1) b2.lt (by omega)).trans b2
            refine AnyT.next (i := 9) (by kernel_rfl) rfl (wpOp_of_list rfl ?_)
            go_wp2
            refine ⟨⟨fun h => absurd h (by decide), fun _ => b2'.cell⟩, ?_⟩
            generalize x4.setCell ⟨w.heap.size, 0, none⟩ (.slice va5 (ln + 1) vc5) = xz at b2' hfin ⊢
            have c2 := b2'.cell
            have f2 := b2'.frozen
            have l2 := b2'.lt
            clear c1 f1 l1 b1 b2 b2'
            refine AnyT.next (i := 10) (by kernel_rfl) rfl (wpOp_of_list rfl ?_)
            go_wp2
            exact ⟨⟨fun h => absurd h (by decide), fun h => absurd h (by decide)⟩, by kernel_rfl, rfl, hfin.out⟩
          · go_wp2
            have hw2 : (x1.alloc (.cells #[.bool B] 4)).heap[x1.heap.size]? = some (.cells #[.bool B] 4 (0, 0)) := World.alloc_heap_new _ _
            have hb2 : Below x1.heap.size x1 (x1.alloc (.cells #[.bool B] 4)) := (Below.refl _ _).alloc (Nat.le_refl _) _
            have HK2 := hid (HK1.out.trans (Keep.of_below hb2))
            have HP2 := hid (HP1.out.alloc (.cells #[.bool B] 4))
            have HB2 := hid (HB1.out.alloc (.cells #[.bool B] 4))
            have HA2 := hid ((hb2.block _ (Array.getElem?_eq_some_iff.1 HA1.out).1).trans HA1.out)
            generalize x1.alloc (.cells #[.bool B] 4) = x2 at hw2 hb2 HK2 HP2 HB2 HA2 ⊢
            have HC2 := hid hw2
            clear hw2 hb2
            refine ⟨⟨fun _ => (HTX.out _ HK2.out).1, fun _ => (HTX.out _ HK2.out).2⟩, ?_⟩
            refine AnyT.next (i := 3) (by kernel_rfl) rfl (wpOp_of_list rfl ?_)
            (refine wpList_app_lies _ rfl (.tmp 25) (.tmp 27) 22 rfl (w3.heap.size + 2) 33 (.slice none 0 0) 1 24 Tryz.underlying22 info_ints rfl Nat.one_pos (.slice va ln vc) ln vs rfl HP2.out ⟨x0.heap.size, 0, none⟩ 1 1 [.slice xa xn xc] rfl rfl (news_one HA2.out) (slice_oneCell _ _ _) M1.out M2.out (Nat.le_trans M3.out HK2.out.size) ?_)
            intro va5 vc5 x3 own5 g5 hat5
            have HPat := hid (hat5.imp id (fun h => ⟨_, h, HK2.out.size⟩) : (Value.slice va5 (ln + 1) vc5).ownBlock = (Value.slice va ln vc).ownBlock ∨ ∃ q, (Value.slice va5 (ln + 1) vc5).ownBlock = some q ∧ Z.heap.size ≤ q)
            have HK3 := hid (HK2.out.trans ((Keep.grown g5).mono fun q hq => hq.1))
            have HB3 := hid (own_keep2 HB2.out (Keep.grown g5) (HNE2.out))
            have HC3 := hid ((g5.block _ (Array.getElem?_eq_some_iff.1 HC2.out).1 (fun h => by have := HLT.out _ h.symm; have := HK1.out.size; omega)).trans HC2.out)
            have HP3 := hid own5
            clear own5 g5 hat5
            refine And.intro ⟨fun _ => (HTX.out _ HK3.out).1, fun _ => (HTX.out _ HK3.out).2⟩ ?_
            refine AnyT.next (i := 8) (by kernel_rfl) rfl (wpOp_of_list rfl ?_)
            (refine wpList_app_lies _ rfl (.tmp 29) (.tmp 32) 39 rfl (w3.heap.size + 2) 4 (.bool false) 1 1 Tryz.underlying39 info_truth rfl Nat.one_pos (.slice ta ln tc) ln _ rfl HB3.out ⟨x1.heap.size, 0, none⟩ 1 1 [.bool B] rfl rfl (news_one HC3.out) (fun u hu => by rw [List.mem_singleton.1 hu]; rfl) M1.out M4.out (Nat.le_trans M3.out HK3.out.size) ?_)
            intro ta5 tc5 x4 own6 g6 hat6
            have HBat := hid (hat6.imp id (fun h => ⟨_, h, HK3.out.size⟩) : (Value.slice ta5 (ln + 1) tc5).ownBlock = (Value.slice ta ln tc).ownBlock ∨ ∃ q, (Value.slice ta5 (ln + 1) tc5).ownBlock = some q ∧ Z.heap.size ≤ q)
            have HK4 := hid (HK3.out.trans ((Keep.grown g6).mono fun q hq => hq.2))
            have HP4 := hid (own_keep2 HP3.out (Keep.grown g6) (ne_of_at HLT2.out HNE1.out HPat.out))
            have HB4 := hid own6
            clear own6 g6 hat6
            refine And.intro ⟨fun _ => (HTX.out _ HK4.out).1, fun _ => (HTX.out _ HK4.out).2⟩ ?_
            obtain ⟨b1, b2⟩ := HBX.out _ HK4.out
            have c1 := b1.cell
            have f1 := b1.frozen
            have l1 := b1.lt
            have hfin := hid (HFIN.out x4 va5 vc5 ta5 tc5 HK4.out HP4.out HB4.out HPat.out HBat.out)
            have b2' : Boxed (x4.setCell ⟨w.heap.size, 0, none⟩ (.slice va5 (ln + 1) vc5)) (w.heap.size + 1) 39 (.slice ta ln tc) := ((Keep.set x4 w.heap.size 0 (.slice va5 (ln + 1) vc5)).block (w.heap.size + 1) b2.lt (by omega)).trans b2
            refine AnyT.next (i := 9) (by kernel_rfl) rfl (wpOp_of_list rfl ?_)
            go_wp2
            refine ⟨⟨fun h => absurd h (by decide), fun _ => b2'.cell⟩, ?_⟩
            generalize x4.setCell ⟨w.heap.size, 0, none⟩ (.slice va5 (ln + 1) vc5) = xz at b2' hfin ⊢
            have c2 := b2'.cell
            have f2 := b2'.frozen
            have l2 := b2'.lt
            clear c1 f1 l1 b1 b2 b2'
            refine AnyT.next (i := 10) (by kernel_rfl) rfl (wpOp_of_list rfl ?_)
            go_wp2
            exact ⟨⟨fun h => absurd h (by decide), fun h => absurd h (by decide)⟩, by kernel_rfl, rfl, hfin.out⟩
        · go_wp2
          have hw1 : (x0.alloc (.cells #[.bool B] 4)).heap[x0.heap.size]? = some (.cells #[.bool B] 4 (0, 0)) := World.alloc_heap_new _ _
          have hb1 : Below x0.heap.size x0 (x0.alloc (.cells #[.bool B] 4)) := (Below.refl _ _).alloc (Nat.le_refl _) _
          have HK1 := hid (HK0.out.trans (Keep.of_below hb1))
          have HP1 := hid (HP0.out.alloc (.cells #[.bool B] 4))
          have HB1 := hid (HB0.out.alloc (.cells #[.bool B] 4))
          generalize x0.alloc (.cells #[.bool B] 4) = x1 at hw1 hb1 HK1 HP1 HB1 ⊢
          have HC1 := hid hw1
          clear hw1 hb1
          refine ⟨⟨fun _ => (HTX.out _ HK1.out).1, fun _ => (HTX.out _ HK1.out).2⟩, ?_⟩
          refine AnyT.next (i := 2) (by kernel_rfl) rfl (wpOp_of_list rfl ?_)
          go_wp2
          have hw2 : (x1.alloc (.cells #[.slice xa xn xc] 33)).heap[x1.heap.size]? = some (.cells #[.slice xa xn xc] 33 (0, 0)) := World.alloc_heap_new _ _
          have hb2 : Below x1.heap.size x1 (x1.alloc (.cells #[.slice xa xn xc] 33)) := (Below.refl _ _).alloc (Nat.le_refl _) _
          have HK2 := hid (HK1.out.trans (Keep.of_below hb2))
          have HP2 := hid (HP1.out.alloc (.cells #[.slice xa xn xc] 33))
          have HB2 := hid (HB1.out.alloc (.cells #[.slice xa xn xc] 33))
          have HC2 := hid ((hb2.block _ (Array.getElem?_eq_some_iff.1 HC1.out).1).trans HC1.out)
          generalize x1.alloc (.cells #[.slice xa xn xc] 33) = x2 at hw2 hb2 HK2 HP2 HB2 HC2 ⊢
          have HA2 := hid hw2
          clear hw2 hb2
          refine ⟨⟨fun _ => (HTX.out _ HK2.out).1, fun _ => (HTX.out _ HK2.out).2⟩, ?_⟩
          refine AnyT.next (i := 3) (by kernel_rfl) rfl (wpOp_of_list rfl ?_)
          (refine wpList_app_lies _ rfl (.tmp 25) (.tmp 27) 22 rfl (w3.heap.size + 2) 33 (.slice none 0 0) 1 24 Tryz.underlying22 info_ints rfl Nat.one_pos (.slice va ln vc) ln vs rfl HP2.out ⟨x1.heap.size, 0, none⟩ 1 1 [.slice xa xn xc] rfl rfl (news_one HA2.out) (slice_oneCell _ _ _) M1.out M2.out (Nat.le_trans M3.out HK2.out.size) ?_)
          intro va5 vc5 x3 own5 g5 hat5
          have HPat := hid (hat5.imp id (fun h => ⟨_, h, HK2.out.size⟩) : (Value.slice va5 (ln + 1) vc5).ownBlock = (Value.slice va ln vc).ownBlock ∨ ∃ q, (Value.slice va5 (ln + 1) vc5).ownBlock = some q ∧ Z.heap.size ≤ q)
          have HK3 := hid (HK2.out.trans ((Keep.grown g5).mono fun q hq => hq.1))
          have HB3 := hid (own_keep2 HB2.out (Keep.grown g5) (HNE2.out))
          have HC3 := hid ((g5.block _ (Array.getElem?_eq_some_iff.1 HC2.out).1 (fun h => by have := HLT.out _ h.symm; have := HK0.out.size; omega)).trans HC2.out)
          have HP3 := hid own5
          clear own5 g5 hat5
          refine And.intro ⟨fun _ => (HTX.out _ HK3.out).1, fun _ => (HTX.out _ HK3.out).2⟩ ?_
          refine AnyT.next (i := 8) (by kernel_rfl) rfl (wpOp_of_list rfl ?_)
          (refine wpList_app_lies _ rfl (.tmp 29) (.tmp 32) 39 rfl (w3.heap.size + 2) 4 (.bool false) 1 1 Tryz.underlying39 info_truth rfl Nat.one_pos (.slice ta ln tc) ln _ rfl HB3.out ⟨x0.heap.size, 0, none⟩ 1 1 [.bool B] rfl rfl (news_one HC3.out) (fun u hu => by rw [List.mem_singleton.1 hu]; rfl) M1.out M4.out (Nat.le_trans M3.out HK3.out.size) ?_)
          intro ta5 tc5 x4 own6 g6 hat6
          have HBat := hid (hat6.imp id (fun h => ⟨_, h, HK3.out.size⟩) : (Value.slice ta5 (ln + 1) tc5).ownBlock = (Value.slice ta ln tc).ownBlock ∨ ∃ q, (Value.slice ta5 (ln + 1) tc5).ownBlock = some q ∧ Z.heap.size ≤ q)
          have HK4 := hid (HK3.out.trans ((Keep.grown g6).mono fun q hq => hq.2))
          have HP4 := hid (own_keep2 HP3.out (Keep.grown g6) (ne_of_at HLT2.out HNE1.out HPat.out))
          have HB4 := hid own6
          clear own6 g6 hat6
          refine And.intro ⟨fun _ => (HTX.out _ HK4.out).1, fun _ => (HTX.out _ HK4.out).2⟩ ?_
          obtain ⟨b1, b2⟩ := HBX.out _ HK4.out
          have c1 := b1.cell
          have f1 := b1.frozen
          have l1 := b1.lt
          have hfin := hid (HFIN.out x4 va5 vc5 ta5 tc5 HK4.out HP4.out HB4.out HPat.out HBat.out)
          have b2' : Boxed (x4.setCell ⟨w.heap.size, 0, none⟩ (.slice va5 (ln + 1) vc5)) (w.heap.size + 1) 39 (.slice ta ln tc) := ((Keep.set x4 w.heap.size 0 (.slice va5 (ln + 1) vc5)).block (w.heap.size + 1) b2.lt (by omega)).trans b2
          refine AnyT.next (i := 9) (by kernel_rfl) rfl (wpOp_of_list rfl ?_)
          go_wp2
          refine ⟨⟨fun h => absurd h (by decide), fun _ => b2'.cell⟩, ?_⟩
          generalize x4.setCell ⟨w.heap.size, 0, none⟩ (.slice va5 (ln + 1) vc5) = xz at b2' hfin ⊢
          have c2 := b2'.cell
          have f2 := b2'.frozen
          have l2 := b2'.lt
          clear c1 f1 l1 b1 b2 b2'
          refine AnyT.next (i := 10) (by kernel_rfl) rfl (wpOp_of_list rfl ?_)
          go_wp2
          exact ⟨⟨fun h => absurd h (by decide), fun h => absurd h (by decide)⟩, by kernel_rfl, rfl, hfin.out⟩
      · intro a' w' h
        obtain ⟨r1, r2, r3⟩ := h
        simp only [Exit.inBlock]
        refine ⟨r1, r2, ?_⟩
        show DcdI w w3 w.heap.size fp Sr (decL M k F (pre ++ [t]).length) w'
        rw [HL1.out, HDL.out]
        exact r3
    case hdone =>
      intro Sr Z hZ hSr hI hmk
      rw [List.length_range] at hI
      obtain ⟨v, v2, hv, hv2, hpo, hbo, hbg⟩ := hI.o
      have hlen := decL_len M k F n2
      obtain ⟨D, hD⟩ : ∃ D, D = decL M k F n2 := ⟨_, rfl⟩
      rw [← hD] at hpo hbo hlen hI
      rw [hlen] at hbo
      obtain ⟨va, vc, rfl⟩ := hpo.slice
      obtain ⟨ta, tc, rfl⟩ := ownsRow_slice hbo
      rw [hlen] at hv
      have HV := hid hv
      have HV2 := hid hv2
      have HPO := hid hpo
      have HBO := hid hbo
      have HBG := hid hbg
      have HLN := hid hlen
      have HI := hid hI
      have HMR := hid hmk
      have hobz : w.heap.size + 1 < Z.heap.size := hv2.lt
      have HD := hid hD
      clear hv hv2 hpo hbo hbg hlen hI hmk hSr hD
      gi_wp2_with fail
      refine wide_regionK (fun j w' => decide (j < 3) = true → w'.cell? ⟨w.heap.size + 1, 0, none⟩ = some (.slice ta n2 tc)) 0 (by kernel_rfl) ?_
      have b1 : Boxed Z.drew w.heap.size 22 (.slice va n2 vc) := HV.out
      have b2 : Boxed Z.drew (w.heap.size + 1) 39 (.slice ta n2 tc) := HV2.out
      have HK := hid (show Keep (fun _ => True) Z Z.drew from Keep.of_below (Below.refl _ _).drew)
      generalize Z.drew = x0 at b1 b2 HK ⊢
      have hS := And.intro b1.cell b2.cell
      refine AnyT.takeD (i := 1) (v := .slice ta n2 tc) rfl rfl (by kernel_rfl) (by kernel_rfl) (by kernel_rfl) (by first | exact (fun _ _ _ h => h) | exact (fun _ _ _ h => absurd h.1 (by simp))) (by kernel_rfl) (by rfl) (by rintro w' q2; go_simp) hS.2 ?_; go_frame
      refine AnyT.weak (T' := fun j w' => (decide (j < 2) = true → w'.cell? ⟨w.heap.size, 0, none⟩ = some (.slice va n2 vc)) ∧ (decide (j < 3) = true → w'.cell? ⟨w.heap.size + 1, 0, none⟩ = some (.slice ta n2 tc))) (fun j w' h => h.2) _ _ _ _ ?_
      refine AnyT.takeG (i := 0) (v := .slice va n2 vc) (S := fun w' => w'.cell? ⟨w.heap.size, 0, none⟩ = some (.slice va n2 vc) ∧ w'.cell? ⟨w.heap.size + 1, 0, none⟩ = some (.slice ta n2 tc)) (Wf := fun j => decide (j < 2)) (fun j w' h hj => ⟨h.1 hj, h.2 (by have := of_decide_eq_true hj; exact decide_eq_true (by omega))⟩) (fun w' h => ⟨fun _ => h.1, fun _ => h.2⟩) rfl rfl (by kernel_rfl) (by kernel_rfl) (by kernel_rfl) (by first | exact (fun _ _ _ h => h) | exact (fun _ _ _ h => absurd h.1 (by simp))) (by kernel_rfl) (by rfl) (by rintro w' ⟨q1, q2⟩; go_simp) hS ?_; go_frame
      clear hS
      have c1 := b1.cell
      have f1 := b1.frozen
      have l1 := b1.lt
      have k1 : Keep (fun q => q ≠ w.heap.size ∧ q ≠ w.heap.size + 1) Z (x0.setCell ⟨w.heap.size, 0, none⟩ (.slice va n2 vc)) := (HK.out.mono fun q hq => trivial).trans ((Keep.set _ _ _ _).mono fun q hq => hq.1)
      have b1' : Boxed (x0.setCell ⟨w.heap.size, 0, none⟩ (.slice va n2 vc)) w.heap.size 22 (.slice va n2 vc) := Boxed.set _ b1
      have b2' : Boxed (x0.setCell ⟨w.heap.size, 0, none⟩ (.slice va n2 vc)) (w.heap.size + 1) 39 (.slice ta n2 tc) := ((Keep.set x0 w.heap.size 0 (.slice va n2 vc)).block (w.heap.size + 1) b2.lt (by omega)).trans b2
      refine AnyT.next (i := 2) (by kernel_rfl) rfl (wpOp_of_list rfl ?_)
      go_wp2
      refine ⟨⟨fun h => absurd h (by decide), fun _ => b2'.cell⟩, ?_⟩
      generalize x0.setCell ⟨w.heap.size, 0, none⟩ (.slice va n2 vc) = x1 at k1 b1' b2' ⊢
      clear c1 f1 l1 b1 b2
      have c2 := b2'.cell
      have f2 := b2'.frozen
      have l2 := b2'.lt
      have k2 : Keep (fun q => q ≠ w.heap.size ∧ q ≠ w.heap.size + 1) Z (x1.setCell ⟨w.heap.size + 1, 0, none⟩ (.slice ta n2 tc)) := k1.trans ((Keep.set _ _ _ _).mono fun q hq => hq.2)
      have b1'' : Boxed (x1.setCell ⟨w.heap.size + 1, 0, none⟩ (.slice ta n2 tc)) w.heap.size 22 (.slice va n2 vc) := ((Keep.set x1 (w.heap.size + 1) 0 (.slice ta n2 tc)).block w.heap.size b1'.lt (by omega)).trans b1'
      have b2'' : Boxed (x1.setCell ⟨w.heap.size + 1, 0, none⟩ (.slice ta n2 tc)) (w.heap.size + 1) 39 (.slice ta n2 tc) := Boxed.set _ b2'
      refine AnyT.next (i := 3) (by kernel_rfl) rfl (wpOp_of_list rfl ?_)
      go_wp2
      refine ⟨⟨fun h => absurd h (by decide), fun h => absurd h (by decide)⟩, ?_⟩
      generalize x1.setCell ⟨w.heap.size + 1, 0, none⟩ (.slice ta n2 tc) = x2 at k2 b1'' b2'' ⊢
      clear c2 f2 l2 b1' b2' k1
      refine AnyT.next (i := 4) (by kernel_rfl) rfl (wpOp_of_list rfl ?_)
      go_wp2
      refine ⟨⟨fun h => absurd h (by decide), fun h => absurd h (by decide)⟩, by kernel_rfl, ?_⟩
      have HK2 := hid k2
      have B1 := hid b1''
      have B2 := hid b2''
      clear k2 b1'' b2''
      gi_wp2
      have hob := HS3.out
      have hob2 := HS2.out
      have hmk : x2.heap[w3.heap.size]? = some (.deferred (some [])) := (HK2.out.block _ (Array.getElem?_eq_some_iff.1 HMR.out).1 ⟨by omega, by omega⟩).trans HMR.out
      refine marks_leave [w3.heap.size] x2 (by simp) (fun h hh => by rw [List.mem_singleton.1 hh]; exact hmk) fun w' hk => ?_
      have hkz : Keep (fun q => q ≠ w.heap.size ∧ q ≠ w.heap.size + 1 ∧ q ≠ w3.heap.size) Z w' := (HK2.out.mono fun q hq => ⟨hq.1, hq.2.1⟩).trans (hk.mono fun q hq => by simpa using hq.2.2)
      have d1 : Boxed w' w.heap.size 22 (.slice va n2 vc) := (hk.block _ B1.out.lt (by simp; omega)).trans B1.out
      have d2 : Boxed w' (w.heap.size + 1) 39 (.slice ta n2 tc) := (hk.block _ B2.out.lt (by simp; omega)).trans B2.out
      have hp := HPO.out.keep (S' := fun _ => True) hkz (fun q hq _ => ⟨⟨hq.2.1, hq.2.2.1, hq.2.2.2.1⟩, trivial⟩)
      have hbl := own_keep2 HBO.out hkz (fun q hq => ⟨(HBG.out q hq).2.1, (HBG.out q hq).2.2.1, (HBG.out q hq).2.2.2.1⟩)
      obtain ⟨va', vc', e1, _, hop⟩ := hp.reads
      obtain ⟨ta', tc', e2, hbo, _⟩ := bools_of_own hbl (by rw [List.length_map, HLN.out])
      cases e1; cases e2
      rw [← HD.out]
      exact ⟨_, results_cells2 rfl rfl rfl (load_ints d1.cell) (load_bools d2.cell), va, vc, ta, tc, rfl, hop, hbo, hkz.below HI.out.b HI.out.b.size (fun q hq => ⟨by omega, by omega, by omega⟩)⟩
    case hstop =>
      intro Sr c pre Z hpre hSr hI hmk
      exact hI.elim
end Go.Proofs.YtkmjeegnijohmaaGreat

namespace Go.Proofs.YtkmjeegnijohmaaGreat
open Go.RowKit
set_option linter.unusedVariables false

def TruthB (e : Ending) : Prop := ∃ b, e = .returned (.bool b)
theorem TruthB.mk (b : Bool) : TruthB (.returned (.bool b)) := ⟨b, rfl⟩

set_option maxHeartbeats 1000000 in
theorem l8fit_c (w : World) (a : Option Addr) (n cap : Nat) (M : Mask) (hn : M.length = n) (hm : n ≤ maxLen) (H : RowsAt w a M) :
    Calls Tryz.prog 6 #[.slice a n cap] w fun e w' => TruthB e ∧ w = w' := by
  have HN := hid hn
  have HH := hid H
  unfold maxLen at hm
  clear hn H
  go_enter Tryz.func6, Tryz.ntmps6
  go_wp2
  go_loop [7] (fun i => ∃ k : Nat, k ≤ n ∧ i = .int .i64 k) (fun i => n - (intOf i).toNat)
  case atStart => exact ⟨0, Nat.zero_le _, rfl⟩
  case round =>
    obtain ⟨k, hk, rfl⟩ := hrel
    by_cases hlt : k < n
    · obtain ⟨b, off, ra, rn, rc, rfl, hbs, hc, hrn, hrm, hri⟩ := HH.out k (by rw [HN.out]; exact hlt)
      clear hrn hri
      by_cases h1 : (6 : Int) < (rn : Int) <;> by_cases h2 : (rn : Int) ≤ 10 <;> by_cases h3 : (20 : Int) < (rn : Int)
      all_goals
        go_wp2
        first
          | (go_round
             case rel => exact ⟨k + 1, by omega, by go_num⟩
             case measure => simp [intOf]; omega)
          | (go_ret
             exact ⟨TruthB.mk _, rfl⟩)
    · go_wp2
      go_ret
      exact ⟨TruthB.mk _, rfl⟩

set_option maxHeartbeats 1000000 in
theorem l8frames_c (w : World) (a2 : Option Addr) (n2 cap2 : Nat) (L : List Frm) (hn2 : L.length = n2) (hm2 : n2 ≤ maxLen) (H2 : FramesAt w a2 L) (most : Nat) :
    Calls Tryz.prog 15 #[.slice a2 n2 cap2, .int .i64 most] w fun e w' => TruthB e ∧ Below w.heap.size w w' := by
  have HN := hid hn2
  have HH := hid H2
  unfold maxLen at hm2
  clear hn2 H2
  go_enter Tryz.func15, Tryz.ntmps15
  go_wp2
  go_loopw [9] (fun i wr => ∃ k : Nat, k ≤ n2 ∧ i = .int .i64 k ∧ Below w.heap.size w wr) (fun i _ => n2 - (intOf i).toNat)
  case atStart => exact ⟨0, Nat.zero_le _, rfl, Below.refl _ _⟩
  case round =>
    obtain ⟨k, hk, rfl, hb⟩ := hrel
    by_cases hlt : k < n2
    · obtain ⟨b, off, ra, rn, rc, rfl, hbs, h0, hc, hrn, hrm, hri⟩ := (HH.out.below hb) k (by rw [HN.out]; exact hlt)
      obtain ⟨K, hK⟩ : ∃ K, K = (L[k]'(by rw [HN.out]; exact hlt)).1 := ⟨_, rfl⟩
      rw [← hK] at h0
      have hba : ∀ o : Obj, Below w.heap.size w (wr.alloc o) := fun o => hb.alloc hb.size o
      have HBA := hid hba
      clear hrn hri hK hb hba
      by_cases h3 : (20 : Int) < (rn : Int)
      · go_wp2
        go_ret
        exact ⟨TruthB.mk _, HBA.out _⟩
      · go_wp2
        exact ⟨⟨k + 1, by omega, by go_num, HBA.out _⟩, by simp [intOf]; omega⟩
    · obtain rfl : k = n2 := by omega
      have HB := hid hb
      clear hb
      by_cases h1 : (k : Int) ≤ (most : Int) <;> by_cases h2 : (60 : Int) < (k : Int) <;> by_cases h3 : (k : Int) < 64
      all_goals
        go_wp2
        go_ret
        exact ⟨TruthB.mk _, HB.out⟩
end Go.Proofs.YtkmjeegnijohmaaGreat

namespace Go.Proofs.YtkmjeegnijohmaaGreat
open Go.ChangeShapes Go.WideShapes Go.ChangeAt Go.RowKit Go.Deep
set_option linter.unusedVariables false

def Fits64 (n : Int) : Prop := -9223372036854775808 ≤ n ∧ n ≤ 9223372036854775807
theorem fits64 {n : Int} (h : (Lit.int .i64 n).wf = true) : Fits64 n := by
  simpa [Fits64, Lit.wf, IntKind.min, IntKind.max, IntKind.signed, IntKind.bits] using h

theorem cell_plain {w : World} {a : Addr} {v : Value} (h : w.cell? a = some v) : a = ⟨a.block, a.off, none⟩ ∧ a.block < w.heap.size := by
  unfold World.cell? at h
  split at h
  · rename_i c _ _ hb
    obtain ⟨b, o, s⟩ := a
    cases s with
    | none => exact ⟨rfl, (Array.getElem?_eq_some_iff.1 hb).1⟩
    | some s => simp at h
  · simp at h

theorem add_plain (b o : Nat) (i : Nat) : (Addr.mk b o none).add i = ⟨b, o + i, none⟩ := by
  unfold Addr.add
  split
  · rename_i h; rw [h]; rfl
  · rfl

section
variable {H : Type} {enc : TypeId × Value → H} {P : Program} {w : World} {base : Nat} {held : Bool}

theorem ints_opened {e q : TypeId} {fuel : Nat} {a : Option Addr} {n cap : Nat} {x : DataW H × List MemPlace} (he : P.underlying e = some (.slice q)) (hq : P.underlying q = some (.int .i64)) (cq : P.cellsOf q = 1)
    (h : DataW.trod enc P w base (fun _ => true) held fuel e [.slice a n cap] = some x) : ∃ l : List Int, l.length = n ∧ n ≤ maxLen ∧ IntsAt w a l ∧ ∀ y ∈ l, Fits64 y := by
  rcases open_ints he hq cq h with ⟨hcs, _⟩ | ⟨x, l, c, zs, hcs, _, hl, hm, hz, _, hcell, hwz⟩
  · simp at hcs
    obtain ⟨rfl, rfl, rfl⟩ := hcs
    exact ⟨[], rfl, by decide, fun j hj => by simp at hj, fun y hy => by simp at hy⟩
  · simp at hcs
    obtain ⟨rfl, rfl, rfl⟩ := hcs
    simp only [if_true] at hz
    refine ⟨zs.take n, by rw [List.length_take]; omega, by omega, fun j hj => ?_, fun y hy => fits64 (hwz y (List.mem_of_mem_take hy))⟩
    rw [List.length_take] at hj
    have h0 := cell_plain (hcell 0 (by omega))
    simp only [Addr.add, if_true] at h0
    obtain ⟨b, o, s⟩ := x
    have hs : s = none := by have := h0.1; simp at this; exact this
    subst hs
    refine ⟨b, o, rfl, h0.2, ?_⟩
    have := hcell j (by omega)
    rw [add_plain] at this
    rw [this]
    simp [List.getElem?_take, show j < n by omega, List.getD]

theorem arg_rows {r : Reach} {b0 : Nat} {t e q : TypeId} {v : Value} {d : DataW H} {p : List MemPlace} (ht : P.underlying t = some (.slice e)) (ce : P.cellsOf e = 1) (he : P.underlying e = some (.slice q)) (hq : P.underlying q = some (.int .i64)) (cq : P.cellsOf q = 1)
    (hv : Value.okWide P w r b0 t v) (h : DataW.Trod enc P w base (fun _ => true) held t v d p) : ∃ a n cap, ∃ l : List (List Int), v = .slice a n cap ∧ l.length = n ∧ n ≤ maxLen ∧ RowsAt w a l ∧ ∀ y ∈ l, ∀ z ∈ y, Fits64 z := by
  obtain ⟨a, n, cap, rfl⟩ := okWide_slice ht hv
  obtain ⟨fuel, hf⟩ := h
  rcases open_slice1 ht ce (by simpa [Value.cells] using hf) with ⟨hcs, _⟩ | ⟨x, len, c', m, nn, V, D, Pl, hcs, _, hl, hm, hmm, _, hx⟩
  · simp at hcs
    obtain ⟨rfl, rfl, rfl⟩ := hcs
    exact ⟨none, 0, 0, [], rfl, rfl, by decide, fun j hj => by simp at hj, fun y hy => by simp at hy⟩
  simp at hcs
  obtain ⟨rfl, rfl, rfl⟩ := hcs
  simp only [if_true] at hmm
  have each : ∀ i, i < n → ∃ y : List Int × Option Addr × Nat × Nat, w.cell? (x.add i) = some (.slice y.2.1 y.2.2.1 y.2.2.2) ∧ y.1.length = y.2.2.1 ∧ y.2.2.1 ≤ maxLen ∧ IntsAt w y.2.1 y.1 ∧ (∀ z ∈ y.1, Fits64 z) := by
    intro i hi
    obtain ⟨hc, t0⟩ := hx i (by omega)
    have hsl : ∃ ra rn rc, V i = .slice ra rn rc := by
      rcases open_ints he hq cq t0 with ⟨hcs, _⟩ | ⟨x, l, c, zs, hcs, _⟩
      · simp at hcs; exact ⟨_, _, _, hcs⟩
      · simp at hcs; exact ⟨_, _, _, hcs⟩
    obtain ⟨ra, rn, rc, hV⟩ := hsl
    rw [hV] at hc t0
    obtain ⟨l, q1, q2, q3, q4⟩ := ints_opened he hq cq t0
    exact ⟨(l, ra, rn, rc), hc, q1, q2, q3, q4⟩
  haveI : Inhabited (List Int × Option Addr × Nat × Nat) := ⟨([], none, 0, 0)⟩
  obtain ⟨y, hy⟩ := choose_lt each
  refine ⟨some x, n, cap, (List.range n).map fun i => (y i).1, rfl, by simp, by omega, fun j hj => ?_, fun z hz => ?_⟩
  · have hjn : j < n := by simpa using hj
    have hp := cell_plain (hy 0 (by omega)).1
    simp only [Addr.add, if_true] at hp
    obtain ⟨b, o, s⟩ := x
    have hs' : s = none := by have := hp.1; simp at this; exact this
    subst hs'
    obtain ⟨r0, r3, r4, r5, r6⟩ := hy j hjn
    rw [add_plain] at r0
    refine ⟨b, o, (y j).2.1, (y j).2.2.1, (y j).2.2.2, rfl, hp.2, r0, ?_, r4, ?_⟩ <;> simp only [List.getElem_map, List.getElem_range] <;> assumption
  · obtain ⟨i, hi, rfl⟩ := List.mem_map.1 hz
    exact (hy i (List.mem_range.1 hi)).2.2.2.2
end
end Go.Proofs.YtkmjeegnijohmaaGreat

namespace Go.Proofs.YtkmjeegnijohmaaGreat
open Go.RowKit
set_option linter.unusedVariables false

theorem told_get {M : Mask} {F : List Frm} {k : Int} (h : askE M F k = 0) : decF M F k = decL M k F F.length ∧ (toldL M F k).length = F.length ∧ ∀ t, (ht : t < (toldL M F k).length) → (toldL M F k)[t] = (decAt M k F (t + 1)).isSome := by
  have e : decF M F k = decL M k F F.length := by unfold decF; rw [if_pos h]
  refine ⟨e, by unfold toldL; rw [e, List.length_map, decL_len], fun t ht => ?_⟩
  have e2 : toldL M F k = (decL M k F F.length).map (·.isSome) := by unfold toldL; rw [e]
  have : (toldL M F k)[t]? = some (decAt M k F (t + 1)).isSome := by
    rw [e2, List.getElem?_map, List.getElem?_eq_getElem (by rw [e2, List.length_map] at ht; exact ht), decL_get]; rfl
  rw [List.getElem?_eq_getElem ht] at this
  exact Option.some.inj this

end Go.Proofs.YtkmjeegnijohmaaGreat

namespace Go.Proofs.YtkmjeegnijohmaaGreat
open Go.RowKit
set_option linter.unusedVariables false

def loseE (M : Mask) (F : List Frm) (i : Int) : Int := if validB M F = true then (if inB i 0 ((F.length : Int) - 1) = true then 0 else 5) else 1
def loseL (M : Mask) (F : List Frm) (i : Int) : List Frm := if loseE M F i = 0 then loseF F i else []

theorem slose_q (w : World) (a : Option Addr) (n cap : Nat) (F : List Frm) (i : Nat) (hn : F.length = n) (hm : n ≤ 1000) (hl : ∀ f ∈ F, f.2.length ≤ 1000) (H : FramesAt w a F) (hi : i < n) :
    Calls Tryz.prog 46 #[.slice a n cap, .int .i64 i] w fun e w' => ∃ va vc, e = .returned (.slice va (loseF F i).length vc) ∧ (loseF F i).length ≤ maxLen ∧ FramesAt w' va (loseF F i) ∧ Below w.heap.size w w' :=
  (lose_c w a n cap F i hn hm hl H hi).mono fun e w' ⟨v, h1, h2, h3⟩ => by
    obtain ⟨va, vc, rfl, h4, h5⟩ := h2.reads
    exact ⟨va, vc, h1, h4, h5, h3⟩
theorem r8lose_q (w : World) (a : Option Addr) (n cap : Nat) (F : List Frm) (i : Nat) (hn : F.length = n) (hm : n ≤ 1000) (hl : ∀ f ∈ F, f.2.length ≤ 1000) (H : FramesAt w a F) (hi : i < n) :
    Calls Tryz.prog 48 #[.slice a n cap, .int .i64 i] w fun e w' => ∃ va vc, e = .returned (.slice va (loseF F i).length vc) ∧ (loseF F i).length ≤ maxLen ∧ FramesAt w' va (loseF F i) ∧ Below w.heap.size w w' :=
  (r8lose_c w a n cap F i hn hm hl H).mono fun e w' ⟨v, h1, h2, h3⟩ => by
    obtain ⟨va, vc, rfl, h4, h5⟩ := h2.reads
    exact ⟨va, vc, h1, h4, h5, h3⟩

theorem sLose_c (w : World) (a a2 : Option Addr) (n cap n2 cap2 : Nat) (M : Mask) (F : List Frm) (i : Int) (hn : M.length = n) (hm : n ≤ maxLen) (H : RowsAt w a M) (hn2 : F.length = n2) (hm2 : n2 ≤ maxLen) (H2 : FramesAt w a2 F) :
    Calls Tryz.prog 23 #[.slice a n cap, .slice a2 n2 cap2, .int .i64 i] w fun e w' => ∃ va vc, e = .returned (.tuple #[.slice va (loseL M F i).length vc, .int .i64 (loseE M F i)]) ∧ (loseL M F i).length ≤ maxLen ∧ FramesAt w' va (loseL M F i) ∧ Below w.heap.size w w' := by
  have HV := hid (svalid_c w a n cap M hn hm H a2 n2 cap2 F hn2 hm2 H2)
  cases hV : validB M F
  · have e1 : loseE M F i = 1 := by unfold loseE; rw [hV]; rfl
    have e2 : loseL M F i = [] := by unfold loseL; rw [e1]; rfl
    rw [hV] at HV
    rw [e1, e2]
    clear hn H hn2 H2 hV e1 e2
    go_enter Tryz.func23, Tryz.ntmps23
    go_wp2_with (go_at_call 45; refine HV.out.mono ?_; rintro e w1 ⟨rfl, hb1⟩)
    go_ret2
    exact ⟨none, 0, rfl, by decide, frames_nil, hb1⟩
  · rw [hV] at HV
    obtain ⟨_, h1, h60, hl⟩ := validB_ok hV
    have hn60 : n2 ≤ 60 := by omega
    have HW := hid (fun X => swithin_c i 0 ((n2 : Int) - 1) X)
    have hE : loseE M F i = if inB i 0 ((n2 : Int) - 1) = true then 0 else 5 := by unfold loseE; rw [if_pos hV, hn2]
    have hw : wrap64 ((n2 : Int) - 1) = (n2 : Int) - 1 := by unfold wrap64; omega
    have hw2 : IntKind.i64.wrap ((n2 : Int) - 1) = (n2 : Int) - 1 := by rw [IntWalk.i64_left]; exact hw
    cases hI : inB i 0 ((n2 : Int) - 1)
    · rw [hI] at HW hE
      have e1 : loseE M F i = 5 := by rw [hE]; rfl
      have e2 : loseL M F i = [] := by unfold loseL; rw [e1]; rfl
      rw [e1, e2]
      clear hn H hn2 H2 hV hE e1 e2 hI h1 h60 hl
      go_enter Tryz.func23, Tryz.ntmps23
      go_wp2_with first
        | (go_at_call 45; refine HV.out.mono ?_; rintro e w1 ⟨rfl, hb1⟩)
        | (go_at_call 32; refine (HW.out _).mono ?_; rintro e w2 ⟨rfl, rfl⟩)
      go_ret2
      exact ⟨none, 0, rfl, by decide, frames_nil, hb1⟩
    · have e1 : loseE M F i = 0 := by rw [hE, hI]; rfl
      have e2 : loseL M F i = loseF F i := by unfold loseL; rw [if_pos e1]
      rw [hI] at HW
      rw [e1, e2]
      have hi' : 0 ≤ i ∧ i ≤ (n2 : Int) - 1 := by unfold inB at hI; simpa using hI
      obtain ⟨q, rfl⟩ : ∃ q : Nat, i = (q : Int) := ⟨i.toNat, by omega⟩
      have HH := hid (fun (X : World) (hX : Below w.heap.size w X) => slose_q X a2 n2 cap2 F q hn2 (by omega) hl (H2.below hX) (by omega))
      obtain ⟨G, hG⟩ : ∃ G, G = loseF F q := ⟨_, rfl⟩
      rw [← hG] at HH ⊢
      clear hn H hn2 H2 hV hE e1 e2 hI h1 h60 hi' hl hG
      go_enter Tryz.func23, Tryz.ntmps23
      go_wp2_with first
        | (go_at_call 45; refine HV.out.mono ?_; rintro e w1 ⟨rfl, hb1⟩)
        | (go_at_call 32; refine (HW.out _).mono ?_; rintro e w2 ⟨rfl, rfl⟩)
        | (go_at_call 46; refine (HH.out _ hb1).mono ?_; rintro e w3 ⟨va, vc, rfl, hl3, hf3, hb3⟩; refine Stop.of ?_)
      refine Stop.go ?_
      have HF3 := hid hf3
      have HL3 := hid hl3
      have HB := hid (chain hb1 hb3)
      clear hf3 hl3 hb1 hb3 HV HW HH
      go_wp2
      go_ret2
      exact ⟨va, vc, rfl, HL3.out, HF3.out, HB.out⟩
theorem r8Lose_c (w : World) (a a2 : Option Addr) (n cap n2 cap2 : Nat) (M : Mask) (F : List Frm) (i : Int) (hn : M.length = n) (hm : n ≤ maxLen) (H : RowsAt w a M) (hn2 : F.length = n2) (hm2 : n2 ≤ maxLen) (H2 : FramesAt w a2 F) :
    Calls Tryz.prog 24 #[.slice a n cap, .slice a2 n2 cap2, .int .i64 i] w fun e w' => ∃ va vc, e = .returned (.tuple #[.slice va (loseL M F i).length vc, .int .i64 (loseE M F i)]) ∧ (loseL M F i).length ≤ maxLen ∧ FramesAt w' va (loseL M F i) ∧ Below w.heap.size w w' := by
  have HV := hid (r8valid_c w a n cap M hn hm H a2 n2 cap2 F hn2 hm2 H2)
  cases hV : validB M F
  · have e1 : loseE M F i = 1 := by unfold loseE; rw [hV]; rfl
    have e2 : loseL M F i = [] := by unfold loseL; rw [e1]; rfl
    rw [hV] at HV
    rw [e1, e2]
    clear hn H hn2 H2 hV e1 e2
    go_enter Tryz.func24, Tryz.ntmps24
    go_wp2_with (go_at_call 47; refine HV.out.mono ?_; rintro e w1 ⟨rfl, hb1⟩)
    go_ret2
    exact ⟨none, 0, rfl, by decide, frames_nil, hb1⟩
  · rw [hV] at HV
    obtain ⟨_, h1, h60, hl⟩ := validB_ok hV
    have hn60 : n2 ≤ 60 := by omega
    have HW := hid (fun X => r8in_c i 0 ((n2 : Int) - 1) X)
    have hE : loseE M F i = if inB i 0 ((n2 : Int) - 1) = true then 0 else 5 := by unfold loseE; rw [if_pos hV, hn2]
    have hw : wrap64 ((n2 : Int) - 1) = (n2 : Int) - 1 := by unfold wrap64; omega
    have hw2 : IntKind.i64.wrap ((n2 : Int) - 1) = (n2 : Int) - 1 := by rw [IntWalk.i64_left]; exact hw
    cases hI : inB i 0 ((n2 : Int) - 1)
    · rw [hI] at HW hE
      have e1 : loseE M F i = 5 := by rw [hE]; rfl
      have e2 : loseL M F i = [] := by unfold loseL; rw [e1]; rfl
      rw [e1, e2]
      clear hn H hn2 H2 hV hE e1 e2 hI h1 h60 hl
      go_enter Tryz.func24, Tryz.ntmps24
      go_wp2_with first
        | (go_at_call 47; refine HV.out.mono ?_; rintro e w1 ⟨rfl, hb1⟩)
        | (go_at_call 35; refine (HW.out _).mono ?_; rintro e w2 ⟨rfl, rfl⟩)
      go_ret2
      exact ⟨none, 0, rfl, by decide, frames_nil, hb1⟩
    · have e1 : loseE M F i = 0 := by rw [hE, hI]; rfl
      have e2 : loseL M F i = loseF F i := by unfold loseL; rw [if_pos e1]
      rw [hI] at HW
      rw [e1, e2]
      have hi' : 0 ≤ i ∧ i ≤ (n2 : Int) - 1 := by unfold inB at hI; simpa using hI
      obtain ⟨q, rfl⟩ : ∃ q : Nat, i = (q : Int) := ⟨i.toNat, by omega⟩
      have HH := hid (fun (X : World) (hX : Below w.heap.size w X) => r8lose_q X a2 n2 cap2 F q hn2 (by omega) hl (H2.below hX) (by omega))
      obtain ⟨G, hG⟩ : ∃ G, G = loseF F q := ⟨_, rfl⟩
      rw [← hG] at HH ⊢
      clear hn H hn2 H2 hV hE e1 e2 hI h1 h60 hi' hl hG
      go_enter Tryz.func24, Tryz.ntmps24
      go_wp2_with first
        | (go_at_call 47; refine HV.out.mono ?_; rintro e w1 ⟨rfl, hb1⟩)
        | (go_at_call 35; refine (HW.out _).mono ?_; rintro e w2 ⟨rfl, rfl⟩)
        | (go_at_call 48; refine (HH.out _ hb1).mono ?_; rintro e w3 ⟨va, vc, rfl, hl3, hf3, hb3⟩; refine Stop.of ?_)
      refine Stop.go ?_
      have HF3 := hid hf3
      have HL3 := hid hl3
      have HB := hid (chain hb1 hb3)
      clear hf3 hl3 hb1 hb3 HV HW HH
      go_wp2
      go_ret2
      exact ⟨va, vc, rfl, HL3.out, HF3.out, HB.out⟩

theorem r8harm_c (w : World) (a a2 : Option Addr) (n cap n2 cap2 : Nat) (M : Mask) (F : List Frm) (i : Nat) (k : Int) (hn : M.length = n) (hm : n ≤ maxLen) (H : RowsAt w a M) (hn2 : F.length = n2) (H2 : FramesAt w a2 F) (hV : validB M F = true) (hi : i < n2) :
    Calls Tryz.prog 50 #[.slice a n cap, .slice a2 n2 cap2, .int .i64 i, .int .i64 k] w fun e w' => e = .returned (.int .i64 (harmF M F i k)) ∧ Below w.heap.size w w' := by
  obtain ⟨hM, h1, h60, hl⟩ := validB_ok hV
  have HLO := hid (r8lose_c w a2 n2 cap2 F i hn2 (by omega) hl H2)
  have HM1 := hid (fun (X : World) (hX : Below w.heap.size w X) (va : Option Addr) (vn vc : Nat) (hvn : (loseF F i).length = vn) (hf : FramesAt X va (loseF F i)) => r8missing_c X a va n cap vn vc M (loseF F i) k hn hvn hm (H.below hX) hf (lose_valid i hV))
  have HM2 := hid (fun (X : World) (hX : Below w.heap.size w X) => r8missing_c X a a2 n cap n2 cap2 M F k hn hn2 hm (H.below hX) (H2.below hX) hV)
  have hle1 : (missF M k (loseF F i)).length ≤ n2 := by have := missTo_le M k (loseF F i) (loseF F i).length; rw [loseF_len, hn2] at this; unfold missF; rw [loseF_len, hn2]; exact this
  have hle2 : (missF M k F).length ≤ n2 := by have := missTo_le M k F F.length; rw [hn2] at this; unfold missF; rw [hn2]; exact this
  have hll : (loseF F i).length = n2 := by rw [loseF_len, hn2]
  have HF := hid (show harmF M F i k = ((missF M k (loseF F i)).length : Int) - ((missF M k F).length : Int) from rfl)
  obtain ⟨G, hG⟩ : ∃ G, G = loseF F i := ⟨_, rfl⟩
  rw [← hG] at HLO HM1 hle1 HF hll
  obtain ⟨L1, hL1⟩ : ∃ L, L = missF M k G := ⟨_, rfl⟩
  obtain ⟨L2, hL2⟩ : ∃ L, L = missF M k F := ⟨_, rfl⟩
  rw [← hL1] at HM1 hle1 HF
  rw [← hL2] at HM2 hle2 HF
  have hw : wrap64 ((L1.length : Int) - (L2.length : Int)) = harmF M F i k := by rw [HF.out]; unfold wrap64; omega
  obtain ⟨z, hz⟩ : ∃ z, z = harmF M F i k := ⟨_, rfl⟩
  rw [← hz] at hw ⊢
  have hw2 : IntKind.i64.wrap ((L1.length : Int) - (L2.length : Int)) = z := by rw [IntWalk.i64_left]; exact hw
  have HLL := hid hll
  clear hn hm H hn2 H2 hV hi hM h1 h60 hl hle1 hle2 hG hL1 hL2 hz hll HF
  go_enter Tryz.func50, Tryz.ntmps50
  go_wp2_with first
    | (go_at_call 48; refine HLO.out.mono ?_; rintro e w1 ⟨v1, rfl, ho1, hb1⟩; refine Stop.of ?_)
  refine Stop.go ?_
  obtain ⟨va, vc, rfl, _, hf⟩ := ho1.reads
  have HB1 := hid hb1
  have HMM := hid (HM1.out w1 hb1 va G.length vc rfl hf)
  clear ho1 hf hb1 HLO HM1
  go_wp2_with first
    | (go_at_call 44; refine HMM.out.mono ?_; rintro e w2 ⟨v2, base2, rfl, _, ho2, hb2⟩; refine Stop.of ?_)
  refine Stop.go ?_
  obtain ⟨ma, mc, rfl⟩ := ownsRow_slice ho2
  have HB2 := hid (chain HB1.out hb2)
  clear ho2 hb2 HB1 HMM
  go_wp2_with first
    | (go_at_call 44; refine (HM2.out _ HB2.out).mono ?_; rintro e w3 ⟨v3, base3, rfl, _, ho3, hb3⟩; refine Stop.of ?_)
  refine Stop.go ?_
  obtain ⟨na, nc, rfl⟩ := ownsRow_slice ho3
  have HB3 := hid (chain HB2.out hb3)
  clear ho3 hb3 HB2 HM2
  go_wp2
  go_ret
  exact ⟨rfl, HB3.out⟩

theorem r8Harm_c (w : World) (a a2 : Option Addr) (n cap n2 cap2 : Nat) (M : Mask) (F : List Frm) (i k : Int) (hn : M.length = n) (hm : n ≤ maxLen) (H : RowsAt w a M) (hn2 : F.length = n2) (hm2 : n2 ≤ maxLen) (H2 : FramesAt w a2 F) :
    Calls Tryz.prog 26 #[.slice a n cap, .slice a2 n2 cap2, .int .i64 i, .int .i64 k] w fun e w' => e = .returned (.tuple #[.int .i64 (harmV M F i k), .int .i64 (harmE M F i k)]) ∧ Below w.heap.size w w' := by
  have HA := hid (r8asked_c w a a2 n cap n2 cap2 M F k hn hm H hn2 hm2 H2)
  by_cases h0 : askE M F k = 0
  · have hV := (askE_ok h0).1
    obtain ⟨_, h1, h60, _⟩ := validB_ok hV
    have hn60 : n2 ≤ 60 := by omega
    have HW := hid (fun X => r8in_c i 0 ((n2 : Int) - 1) X)
    have hE : harmE M F i k = if inB i 0 ((n2 : Int) - 1) = true then 0 else 5 := by unfold harmE; rw [if_pos h0, hn2]
    have hw : wrap64 ((n2 : Int) - 1) = (n2 : Int) - 1 := by unfold wrap64; omega
    have hw2 : IntKind.i64.wrap ((n2 : Int) - 1) = (n2 : Int) - 1 := by rw [IntWalk.i64_left]; exact hw
    rw [h0] at HA
    cases hI : inB i 0 ((n2 : Int) - 1)
    · rw [hI] at HW hE
      have hE' : harmE M F i k = 5 := by rw [hE]; rfl
      have hV' : harmV M F i k = 0 := by unfold harmV; rw [hE']; rfl
      rw [hE', hV']
      clear hn H hn2 H2 h0 hV hE hE' hV' hI h1 h60
      go_enter Tryz.func26, Tryz.ntmps26
      go_wp2_with first
        | (go_at_call 41; refine HA.out.mono ?_; rintro e w1 ⟨rfl, hb1⟩)
        | (go_at_call 35; refine (HW.out _).mono ?_; rintro e w2 ⟨rfl, rfl⟩)
      go_ret2
      exact ⟨rfl, hb1⟩
    · have hE' : harmE M F i k = 0 := by rw [hE, hI]; rfl
      have hV' : harmV M F i k = harmF M F i k := by unfold harmV; rw [if_pos hE']
      rw [hI] at HW
      rw [hE', hV']
      have hi' : 0 ≤ i ∧ i ≤ (n2 : Int) - 1 := by unfold inB at hI; simpa using hI
      obtain ⟨q, rfl⟩ : ∃ q : Nat, i = (q : Int) := ⟨i.toNat, by omega⟩
      have HH := hid (fun (X : World) (hX : Below w.heap.size w X) => r8harm_c X a a2 n cap n2 cap2 M F q k hn hm (H.below hX) hn2 (H2.below hX) hV (by omega))
      clear hn H hn2 H2 h0 hV hE hE' hV' hI h1 h60 hi'
      go_enter Tryz.func26, Tryz.ntmps26
      go_wp2_with first
        | (go_at_call 41; refine HA.out.mono ?_; rintro e w1 ⟨rfl, hb1⟩)
        | (go_at_call 35; refine (HW.out _).mono ?_; rintro e w2 ⟨rfl, rfl⟩)
        | (go_at_call 50; refine (HH.out _ hb1).mono ?_; rintro e w3 ⟨rfl, hb3⟩)
      go_ret2
      exact ⟨rfl, chain hb1 hb3⟩
  · have hE' : harmE M F i k = askE M F k := by unfold harmE; rw [if_neg h0]
    have hV' : harmV M F i k = 0 := by unfold harmV; rw [hE', if_neg h0]
    have hne : (askE M F k != 0) = true := by simpa using h0
    rw [hE', hV']
    obtain ⟨E, hE⟩ : ∃ E, E = askE M F k := ⟨_, rfl⟩
    rw [← hE] at HA hne ⊢
    clear hn H hn2 H2 h0 hE' hV' hE
    go_enter Tryz.func26, Tryz.ntmps26
    go_wp2_with first
      | (go_at_call 41; refine HA.out.mono ?_; rintro e w1 ⟨rfl, hb1⟩)
    go_ret2
    exact ⟨rfl, hb1⟩
end Go.Proofs.YtkmjeegnijohmaaGreat
