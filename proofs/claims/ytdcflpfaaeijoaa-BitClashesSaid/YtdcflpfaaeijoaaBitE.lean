/- The iterator of package bit: it hands out the pictures of a field in ascending order. -/
import Derived.Test.YtdcflpfaaeijoaaBitD
import Derived.Test.YtdcflpfaaeijoaaRange
import Derived.Test.YtdcflpfaaeijoaaPics
import Derived.Sort.QuietIn
import Derived.Sort.LoopGhostIn
import Derived.Sort.CutIn
namespace Go.Proofs.Ytdcflpfaaeijoaa
open Go.RowKit
set_option linter.unusedVariables false
attribute [local go_sem] Oper.semAt_some

/-- the number that a row of digits writes -/
def cellsNum (b : Nat) (w : World) (it : Nat) : Nat := match w.heap[it]? with | some (.cells c _ _) => undig b (c.toList.map intOf) | _ => 0
theorem cellsNum_row {b : Nat} {w : World} {E : TypeId} {it : Nat} {l : List Int} (h : IntRow w E it l) : cellsNum b w it = undig b l := by
  unfold cellsNum
  rw [show w.heap[it]? = _ from h]
  have e : ∀ l : List Int, (l.map (Value.int .i64)).map intOf = l := by intro l; induction l <;> simp_all [intOf]
  show undig b ((l.map (Value.int .i64)).map intOf) = undig b l
  rw [e]

theorem info_int : (Try.prog.info? 3).map (fun i => (i.zero, i.size, i.bytes)) = some (some (.int .i64 0), 1, 8) := by kernel_rfl

set_option maxRecDepth 100000 in
theorem iter_pics (w0 : World) (p t fb : Nat) (hp : p ≤ 8) (ht : t ≤ 3) (hfb : fb < w0.heap.size) (hf0 : w0.cell? ⟨fb, 0, none⟩ = some (.int .i64 p)) (hf1 : w0.cell? ⟨fb, 1, none⟩ = some (.int .i64 t)) :
    IterInts Try.prog 3 99 #[.pointer (some ⟨fb, 0, none⟩)] (pics (t + 1) p) (fun k => k = fb) w0 := by
  intro l J Jx W hb hJ hY h0
  have hg0 : W.cell? ⟨fb, 0, none⟩ = some (.int .i64 p) := (hb.cell (p := ⟨fb, 0, none⟩) hfb).trans hf0
  have hg1 : W.cell? ⟨fb, 1, none⟩ = some (.int .i64 t) := (hb.cell (p := ⟨fb, 1, none⟩) hfb).trans hf1
  have hfW : fb < W.heap.size := Nat.lt_of_lt_of_le hfb hb.size
  have HJ := hid hJ
  have HY := hid hY
  have H0 := hid h0
  clear hJ hY h0 hf0 hf1 hb
  have hmk : ∀ w, (Instr.makeSlice 25 (.int .i64 (p : Int)) (.int .i64 (p : Int))).run Try.prog w = .ok (.slice (some ⟨w.heap.size, 0, none⟩) p p) (w.alloc (.cells (madeCells #[.int .i64 0] p) 3)) :=
    fun w => run_make_row' 25 3 (.int .i64 0) 8 Try.underlying25 info_int rfl .i64 .i64 p (by omega) (by omega) w
  refine callsIn_of_wp Try.func99 rfl trivial ?_ rfl
  simp only [Try.ntmps99, List.size_toArray, List.length_cons, List.length_nil, Nat.reduceAdd, Nat.reduceSub, Array.replicate_succ, Array.replicate_zero, List.push_toArray, List.append_toArray, List.nil_append, List.cons_append]
  gi_wp2
  obtain ⟨it, hit⟩ : ∃ it, it = W.heap.size := ⟨_, rfl⟩
  rw [← hit]
  have hrow := IntRow.made W 3 p
  have hkeep : Keep (fun k => k ≠ it) W (W.alloc (.cells (madeCells #[.int .i64 0] p) 3)) := Keep.of_below ((Below.refl _ _).alloc (Nat.le_refl _) _)
  rw [← hit] at hrow hfW
  have HI := hid hit
  clear hit
  have hJ1 : J it [] (W.alloc (.cells (madeCells #[.int .i64 0] p) 3)) := HJ.out it _ _ _ (by have := HI.out; omega) (H0.out it (by have := HI.out; omega)) hkeep
  gi_loopw [] (fun wr => ∃ k : Nat, k < (t + 1) ^ p ∧ J it ((List.range k).map (dig (t + 1) p)) wr ∧ IntRow wr 3 it (dig (t + 1) p k) ∧ wr.heap[fb]? = W.heap[fb]? ∧ W.heap.size ≤ wr.heap.size) (fun wr => (t + 1) ^ p - cellsNum (t + 1) wr it)
  case atStart => exact ⟨0, Nat.pow_pos (by omega), hJ1, by rw [dig_zero]; exact hrow, hkeep.block fb (by have := HI.out; omega) (by omega), hkeep.size⟩
  case round =>
    obtain ⟨k, hk, hJk, hrk, hfbk, hsz⟩ := hrel
    have hyk := HY.out it _ (dig (t + 1) p k) p [] wr (pics_take (t + 1) p k hk) (by have := HI.out; omega) hrk.lt hJk (by simpa [IntRow] using hrk)
    rw [length_dig] at hyk
    have HRK := hid hrk
    have HFK := hid hfbk
    have HJK := hid hJk
    clear hrk hfbk hJk hrow hkeep hJ1
    obtain ⟨fn, tmps, assign, body, hy, hR⟩ := hyk
    gi_wp2
    refine ⟨rfl, hR.mono ?_⟩
    clear hR hy
    rintro e W3 (⟨rfl, hJ3, hs3, hk3⟩ | ⟨rfl, hJx⟩)
    · have hr3 : IntRow W3 3 it (dig (t + 1) p k) := HRK.out.keep (hk3 it (Or.inr rfl))
      have hf3 : W3.heap[fb]? = W.heap[fb]? := (hk3 fb (Or.inl rfl)).trans HFK.out
      have hg30 : W3.cell? ⟨fb, 0, none⟩ = some (.int .i64 p) := (World.cell?_of_block (a := ⟨fb, 0, none⟩) hf3).trans hg0
      have hg31 : W3.cell? ⟨fb, 1, none⟩ = some (.int .i64 t) := (World.cell?_of_block (a := ⟨fb, 1, none⟩) hf3).trans hg1
      have HR3 := hid hr3
      have HF3 := hid hf3
      have HJ3 := hid hJ3
      clear hr3 hf3 hJ3 hk3 hg0 hg1
      obtain ⟨L, hL⟩ : ∃ L, L = dig (t + 1) p k := ⟨_, rfl⟩
      have hLlen : L.length = p := by rw [hL, length_dig]
      have HL := hid hL
      have HLL := hid hLlen
      clear hLlen hL
      gi_wp2
      gi_loopw [4] (fun i wi => ∃ i0 : Int, i = .int .i64 i0 ∧ -1 ≤ i0 ∧ i0 < p ∧ IntRow wi 3 it (L.take (i0 + 1).toNat ++ List.replicate (p - (i0 + 1).toNat) 0) ∧ L = L.take (i0 + 1).toNat ++ List.replicate (p - (i0 + 1).toNat) (t : Int) ∧ Keep (fun k => k ≠ it) W3 wi) (fun i _ => (intOf i + 1).toNat)
      case atStart =>
        refine ⟨p - 1, by first | rfl | (congr 1), by omega, by omega, ?_, ?_, Keep.refl _ _⟩
        · have : ((p : Int) - 1 + 1).toNat = p := by omega
          rw [this, List.take_of_length_le (by have := HLL.out; omega), HL.out]; simpa using HR3.out
        · have : ((p : Int) - 1 + 1).toNat = p := by omega
          rw [this, List.take_of_length_le (by have := HLL.out; omega)]; simp
      case round =>
        obtain ⟨i0, rfl, hi1, hi2, hri, hLi, hki⟩ := hrel
        have HLi := hid hLi
        clear hLi
        have hgi1 : wr.cell? ⟨fb, 1, none⟩ = some (.int .i64 t) := hki.cell hg31 (by omega)
        by_cases h0 : 0 ≤ i0
        · obtain ⟨m, rfl⟩ := Int.eq_ofNat_of_zero_le h0
          have e1 : ((m : Int) + 1).toNat = m + 1 := by omega
          rw [e1] at hri
          have HLi' : Hid (L = L.take (m + 1) ++ List.replicate (p - (m + 1)) (t : Int)) := by have := HLi.out; rw [e1] at this; exact this
          clear e1 HLi
          have hmL : m < L.length := by have := HLL.out; omega
          have hget : (L.take (m + 1) ++ List.replicate (p - (m + 1)) (0 : Int))[m]?.getD 0 = L[m]?.getD 0 := by
            rw [List.getElem?_append_left (by rw [List.length_take]; omega), List.getElem?_take, if_pos (by omega)]
          have hc : wr.cell? ⟨it, m, none⟩ = some (.int .i64 (L[m]?.getD 0)) := by rw [← hget]; exact hri.cell (by rw [List.length_append, List.length_take]; omega)
          have hz : wr.frozen? ⟨it, m, none⟩ = false := hri.frozen m
          have hmp : m < p := by omega
          have HRI := hid hri
          have HML := hid hmL
          clear hri hget hmL hi1 hi2
          have hbd : 0 ≤ L[m]?.getD 0 ∧ L[m]?.getD 0 < ((t + 1 : Nat) : Int) := by
            rw [List.getElem?_eq_getElem HML.out]
            exact dig_mem (by omega) p k _ (by rw [← HL.out]; exact List.getElem_mem HML.out)
          have hwrap : wrap64 (L[m]?.getD 0 + 1) = L[m]?.getD 0 + 1 := by unfold wrap64; omega
          have HW := hid hwrap
          have HBD := hid hbd
          clear hwrap hbd
          cases ht' : (L[m]?.getD 0 == (t : Int))
          · gi_wp2
            gi_quiet (fail)
            gi_wp2
            have hne : L[m]?.getD 0 ≠ ((t + 1 : Nat) : Int) - 1 := by
              intro e; rw [beq_eq_false_iff_ne] at ht'; apply ht'; omega
            have hLd : dig (t + 1) p k = L.take m ++ [L[m]?.getD 0] ++ List.replicate (p - (m + 1)) (((t + 1 : Nat) : Int) - 1) := by
              rw [← HL.out, ← take_one HML.out, show ((t + 1 : Nat) : Int) - 1 = (t : Int) from by omega]; exact HLi'.out
            have hlt1 := dig_not_last (by omega) hk hLd hne
            have hsucc := dig_succ (by omega) _ _ _ _ _ hLd hne
            have hrow : IntRow ((wr.drewN nq).setCell ⟨it, m, none⟩ (.int .i64 (wrap64 (L[m]?.getD 0 + 1)))) 3 it (dig (t + 1) p (k + 1)) := by
              rw [HW.out, hsucc, ← take_set HML.out]
              exact IntRow.set (w := wr.drewN nq) HRI.out m _
            have hkeep : Keep (fun k => k ≠ it) W3 ((wr.drewN nq).setCell ⟨it, m, none⟩ (.int .i64 (wrap64 (L[m]?.getD 0 + 1)))) :=
              (hki.drewN nq).trans (Keep.set (wr.drewN nq) it m _)
            have hsz3 := hkeep.size
            refine ⟨⟨k + 1, hlt1, ?_, hrow, (hkeep.block fb (by have := HI.out; omega) (by omega)).trans HF3.out, by omega⟩, ?_⟩
            · rw [List.range_succ, List.map_append]
              exact HJ.out it _ W3 _ (by have := HI.out; omega) HJ3.out hkeep
            · rw [cellsNum_row hrow, cellsNum_row HRK.out, undig_dig (by omega) _ _ hlt1, undig_dig (by omega) _ _ hk]
              omega
          · gi_wp2
            gi_quiet (fail)
            gi_wp2
            have e2 : ((m : Int) - 1 + 1).toNat = m := by omega
            have htm : L[m]?.getD 0 = (t : Int) := by simpa using ht'
            refine ⟨⟨(m : Int) - 1, rfl, by omega, by omega, ?_, ?_, (hki.drewN nq).trans (Keep.set (wr.drewN nq) it m _)⟩, ?_⟩
            · rw [e2, ← rep_cons p m hmp, ← List.append_assoc, ← take_set HML.out]
              exact IntRow.set (w := wr.drewN nq) HRI.out m _
            · rw [e2, ← rep_cons p m hmp, ← List.append_assoc]
              have := HLi'.out
              rw [take_one HML.out, htm] at this
              exact this
            · simp [intOf]
        · obtain rfl : i0 = -1 := by omega
          have hn0 : decide ((0 : Int) ≤ -1) = false := by decide
          have hLast : dig (t + 1) p k = List.replicate p (((t + 1 : Nat) : Int) - 1) := by
            rw [show ((t + 1 : Nat) : Int) - 1 = (t : Int) from by omega, ← HL.out]
            have := HLi.out
            simpa using this
          have hend := dig_last (by omega) p k hk hLast
          have HEnd := hid hend
          clear hend hLast
          gi_wp2
          gi_quiet (fail)
          gi_wp2
          refine bodyPost_ret (results_none rfl _ _ _) rfl ?_
          refine ⟨⟨_, rfl⟩, .inl ⟨it, by have := HI.out; omega, ?_⟩⟩
          have e : pics (t + 1) p = (List.range k).map (dig (t + 1) p) ++ [dig (t + 1) p k] := by
            unfold pics; rw [← HEnd.out, List.range_succ, List.map_append]; rfl
          rw [e]
          exact HJ.out it _ W3 _ (by have := HI.out; omega) HJ3.out (hki.drewN nq)
    · gi_wp2
      go_end0
      exact ⟨⟨_, rfl⟩, .inr ⟨_, pics_take _ _ _ hk, hJx⟩⟩
end Go.Proofs.Ytdcflpfaaeijoaa
