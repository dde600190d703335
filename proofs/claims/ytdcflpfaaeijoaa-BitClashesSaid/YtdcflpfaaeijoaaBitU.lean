/- Walks: sums in a map, and the parts of a list of pictures by a threshold. -/
import Derived.Test.YtdcflpfaaeijoaaBitT
import Derived.Maps.OwnOps
import Derived.Maps.RangeWalk
import Derived.Maps.Views
import Derived.Maps.OwnSet
namespace Go.Proofs.Ytdcflpfaaeijoaa
open Go.RowKit Go.Maps
set_option linter.unusedVariables false

/-- the map of how often each number has come, behind k of them -/
def cntD (ss : List Int) : Nat → DataW Unit
  | 0 => .map []
  | k + 1 => (cntD ss k).put (.int .i64 (ss[k]?.getD 0)) (.lit (.int .i64 (((ss.take (k + 1)).count (ss[k]?.getD 0) : Nat) : Int)))

theorem cntD_isMap (ss : List Int) : ∀ k, IsMap (cntD ss k)
  | 0 => ⟨[], rfl⟩
  | k + 1 => by
    obtain ⟨es, h⟩ := cntD_isMap ss k
    unfold cntD; rw [h]; exact ⟨_, rfl⟩

theorem take_count (ss : List Int) (k : Nat) (hk : k < ss.length) (s : Int) : (ss.take (k + 1)).count s = (ss.take k).count s + if ss[k]?.getD 0 = s then 1 else 0 := by
  rw [List.take_succ_eq_append_getElem hk, List.count_append, List.getElem?_eq_getElem hk]
  simp [List.count_singleton]

theorem cntD_at (ss : List Int) (s : Int) : ∀ k, k ≤ ss.length → (cntD ss k).atKey (.int .i64 s) (.lit (.int .i64 0)) = .lit (.int .i64 (((ss.take k).count s : Nat) : Int))
  | 0, _ => rfl
  | k + 1, hk => by
    have ih := cntD_at ss s k (by omega)
    unfold cntD
    by_cases e : ss[k]?.getD 0 = s
    · rw [e, atKey_put_same (cntD_isMap ss k) (show WideAt.IsKeyLit (.int .i64 s) from trivial)]
    · rw [atKey_put_other (by intro h; apply e; simpa using h.symm), ih, take_count ss k (by omega), if_neg e, Nat.add_zero]

theorem cntD_has (ss : List Int) (s : Int) : ∀ k, k ≤ ss.length → s ∈ ss.take k → Maps.has (cntD ss k) (.int .i64 s) = true
  | 0, _, h => by simp at h
  | k + 1, hk, h => by
    unfold cntD
    by_cases e : ss[k]?.getD 0 = s
    · rw [e]; exact has_put_same (cntD_isMap ss k) (show WideAt.IsKeyLit (.int .i64 s) from trivial) _
    · rw [has_put_other (by intro h; apply e; simpa using h.symm)]
      refine cntD_has ss s k (by omega) ?_
      rw [List.take_succ_eq_append_getElem (show k < ss.length by omega), List.mem_append] at h
      rcases h with h | h
      · exact h
      · exfalso; apply e; rw [List.getElem?_eq_getElem (by omega)]; exact (List.mem_singleton.1 h).symm

theorem law3 : Keyed Try.prog 3 := int_keyed Try.underlying3
theorem zero3 (w : World) : (zeroValue 3).run Try.prog w = .ok (.int .i64 0) w := by kernel_rfl

theorem dot_wf (row x : List Int) : ∀ k, (Lit.int .i64 (dotTo row x k)).wf = true
  | 0 => (by decide : (Lit.int .i64 0).wf = true)
  | k + 1 => wrap64_wf _

/-- how many of the numbers that p takes have come already -/
def come (p : Int → Bool) (left : Lit → Bool) (ss : List Int) : Nat := ss.countP fun s => p s && !left (.int .i64 s)

theorem come_step (p : Int → Bool) (left : Lit → Bool) (x : Int) (hx : left (.int .i64 x) = true) : ∀ ss : List Int, come p (fun z => left z && !z.sameKey (.int .i64 x)) ss = come p left ss + if p x then ss.count x else 0
  | [] => by simp [come]
  | s :: ss => by
    have ih := come_step p left x hx ss
    unfold come at ih ⊢
    rw [List.countP_cons, List.countP_cons, ih, List.count_cons]
    by_cases e : s = x
    · subst e
      cases h : p s <;> simp [hx, Lit.sameKey] <;> omega
    · have e2 : (s == x) = false := by simp [e]
      cases h : p s <;> cases h2 : p x <;> cases h3 : left (.int .i64 s) <;> simp [e, e2, h3, Lit.sameKey] <;> omega

theorem come_none (p : Int → Bool) (left : Lit → Bool) (ss : List Int) (h : ∀ s ∈ ss, left (.int .i64 s) = true) : come p left ss = 0 := by
  unfold come
  rw [List.countP_eq_zero]
  intro s hs
  simp [h s hs]
theorem come_all (p : Int → Bool) (left : Lit → Bool) (ss : List Int) (h : ∀ z, left z = false) : come p left ss = ss.countP p := by
  unfold come
  congr 1
  funext s
  simp [h]

set_option maxHeartbeats 1000000 in
set_option maxRecDepth 100000 in
theorem sums_c (w : World) (a : Option Addr) (n cap : Nat) (F : List (List Int)) (hn : F.length = n) (hm : n ≤ 65536) (H : RowsAt w a F)
    (a2 : Option Addr) (n2 cap2 : Nat) (row : List Int) (hn2 : row.length = n2) (hm2 : n2 ≤ maxLen) (H2 : IntsAt w a2 row) (hle : ∀ x ∈ F, n2 ≤ x.length) :
    Calls Try.prog 68 #[.slice a n cap, .slice a2 n2 cap2] w fun e w' => e = .returned (.map (some w.heap.size)) ∧ w'.ownsMap Try.prog 3 (plainElem Try.prog 3) w.heap.size n (cntD (F.map (dotW row)) n) ∧ Below w.heap.size w w' := by
  have hmm := @run_makeMap Try.prog
  obtain ⟨ss, hss⟩ : ∃ ss, ss = F.map (dotW row) := ⟨_, rfl⟩
  have hsl : ss.length = n := by rw [hss, List.length_map, hn]
  have hsk : ∀ k (hk : k < F.length), ss[k]?.getD 0 = dotW row F[k] := fun k hk => by rw [hss, List.getElem?_map, List.getElem?_eq_getElem hk]; rfl
  rw [← hss]
  have HSL := hid hsl
  have HSK := hid hsk
  have HN := hid hn
  have HH := hid H
  have HS := hid (fun (W : World) (hb : Below w.heap.size w W) (ra : Option Addr) (xn xc : Nat) (x : List Int) (hx : x.length = xn) (hxm : x ∈ F) (hi : IntsAt W ra x) => sum_c W a2 ra n2 cap2 xn xc row x hn2 hx (by rw [← hx]; exact hle x hxm) hm2 (H2.below hb) hi)
  clear hss hsl hsk hn H hn2 H2 hle
  go_enter Try.func68, Try.ntmps68
  go_wp2
  go_loopw [11] (fun i wr => ∃ k : Nat, k ≤ n ∧ i = .int .i64 k ∧ wr.ownsMap Try.prog 3 (plainElem Try.prog 3) w.heap.size k (cntD ss k) ∧ Below w.heap.size w wr) (fun i _ => n - (intOf i).toNat)
  case atStart => exact ⟨0, Nat.zero_le _, rfl, World.ownsMap_made _ _ _ _, (Below.refl _ _).alloc (Nat.le_refl _) _⟩
  case round =>
    obtain ⟨k, hk, rfl, hown, hb⟩ := hrel
    have HO := hid hown
    clear hown
    by_cases hlt : k < n
    · have hkF : k < F.length := by rw [HN.out]; exact hlt
      obtain ⟨b, off, ra, xn, xc, rfl, hbs, hcx0, hxn, hxm, hxi⟩ := rows_elem HH.out (k := k) hkF
      have hcx : wr.cell? ⟨b, off + k, none⟩ = some (.slice ra xn xc) := (hb.cell (p := ⟨b, off + k, none⟩) hbs).trans hcx0
      have hX : F[k]?.getD [] = F[k] := by rw [List.getElem?_eq_getElem hkF]; rfl
      rw [hX] at hxn hxi
      have HSM := hid (HS.out wr hb ra xn xc F[k] hxn (List.getElem_mem _) (hxi.below hb))
      have hS := HSK.out k hkF
      have hWF := dot_wf row F[k] row.length
      have hat0 := cntD_at ss (dotW row F[k]) k (by rw [HSL.out]; omega)
      have hstep : cntD ss (k + 1) = (cntD ss k).put (.int .i64 (dotW row F[k])) (.lit (.int .i64 (((ss.take k).count (dotW row F[k]) : Nat) + 1 : Int))) := by
        rw [cntD, hS, take_count ss k (by rw [HSL.out]; omega), hS, if_pos rfl]
        rfl
      have hcl : (ss.take k).count (dotW row F[k]) ≤ 65536 := by
        have h1 := List.count_le_length (a := dotW row F[k]) (l := ss.take k)
        have h2 := List.length_take_le k ss
        omega
      obtain ⟨S, hSE⟩ : ∃ S, S = dotW row F[k] := ⟨_, rfl⟩
      have hWF' : (Lit.int .i64 S).wf = true := by rw [hSE]; exact hWF
      rw [← hSE] at HSM hat0 hstep hcl
      obtain ⟨C, hC⟩ : ∃ C, C = (ss.take k).count S := ⟨_, rfl⟩
      rw [← hC] at hat0 hstep hcl
      have hkey : keyOf Try.prog 3 (.int .i64 S) = some (.int .i64 S) := keyOf_int_mk Try.underlying3 hWF'
      have hwf1 : (Lit.int .i64 ((C : Int) + 1)).wf = true := by simp [Lit.wf, IntKind.min, IntKind.max, IntKind.signed, IntKind.bits]; omega
      have HKEY := hid hkey
      have HWF1 := hid hwf1
      have HAT := hid (show ∀ c : Int, (cntD ss k).atKey (.int .i64 S) (.lit (.int .i64 0)) = .lit (.int .i64 c) → c = (C : Int) from fun c hc => by rw [hat0] at hc; simpa using hc.symm)
      have HST := hid hstep
      have HLT := hid (show k < maxLen by unfold maxLen; omega)
      clear hcx0 hX hxn hxi hS hWF hWF' hat0 hstep hSE hC hkey hwf1
      go_wp2_with (first
        | (go_at_call 54; refine HSM.out.mono ?_; rintro e w1 ⟨rfl, rfl⟩)
        | (at_lookup; refine wpList_lookup_own_int _ rfl _ _ 79 rfl 3 3 .i64 law3 Try.underlying79 Try.underlying3 (zero3 _) w.heap.size k _ rfl HO.out _ _ rfl HKEY.out ?_; refine Stop.of ?_))
      refine Stop.go ?_
      intro c hat hwc
      obtain rfl := HAT.out c hat
      clear hat hwc
      go_wp2_with (at_mapUpdate; refine wpList_mapUpdate_own _ rfl _ _ _ 79 rfl 3 3 law3 Try.underlying79 _ w.heap.size k _ rfl HO.out HLT.out _ _ _ rfl rfl HKEY.out _ [] (plainElem_int Try.underlying3 HWF1.out) ?_; refine Stop.of ?_)
      refine Stop.go ?_
      intro w1 hown1 hgrow1
      rw [← HST.out] at hown1
      have HO1 := hid hown1
      clear hown1
      go_wp2
      refine ⟨⟨k + 1, by omega, by go_num, HO1.out, hb.grown hgrow1 hb.size (fun j hj => by cases hj; exact Nat.le_refl _)⟩, by simp [intOf]; omega⟩
    · obtain rfl : k = n := by omega
      go_wp2
      go_ret
      exact ⟨rfl, HO.out, hb⟩
end Go.Proofs.Ytdcflpfaaeijoaa
