/- Walks: the reference's list of pictures. -/
import Derived.Test.YtdcflpfaaeijoaaBitI
namespace Go.Proofs.Ytdcflpfaaeijoaa
open Go.RowKit
set_option linter.unusedVariables false

/-- the pictures that begin with a list, one more pixel -/
def exts (b : Nat) (x : List Int) : List (List Int) := (List.range b).map fun (n : Nat) => x ++ [(n : Int)]
/-- what has been made when k pictures are done, and m of the next -/
def part (b : Nat) (ls : List (List Int)) (k m : Nat) : List (List Int) := (ls.take k).flatMap (exts b) ++ (List.range m).map fun (n : Nat) => (ls[k]?.getD []) ++ [(n : Int)]

theorem part_full (b : Nat) (ls : List (List Int)) (k : Nat) (hk : k < ls.length) : part b ls k b = part b ls (k + 1) 0 := by
  unfold part
  rw [List.take_succ_eq_append_getElem hk, List.flatMap_append]
  simp [exts, List.getElem?_eq_getElem hk]
theorem part_snoc (b : Nat) (ls : List (List Int)) (k m : Nat) : part b ls k (m + 1) = part b ls k m ++ [(ls[k]?.getD []) ++ [(m : Int)]] := by
  unfold part
  rw [List.range_succ, List.map_append, List.append_assoc]; rfl
theorem part_zero (b : Nat) (ls : List (List Int)) : part b ls 0 0 = [] := by simp [part]

theorem flatMap_range_map (b q : Nat) (f : Nat → List Int) (hb : 0 < b) : ((List.range q).map f).flatMap (exts b) = (List.range (q * b)).map fun k => f (k / b) ++ [((k % b : Nat) : Int)] := by
  induction q with
  | zero => simp
  | succ q ih =>
    rw [List.range_succ, List.map_append, List.flatMap_append, ih, Nat.succ_mul, List.range_add, List.map_append]
    congr 1
    simp only [List.map_cons, List.map_nil, List.flatMap_cons, List.flatMap_nil, List.append_nil, exts, List.map_map]
    apply List.map_congr_left
    intro n hn
    have hn : n < b := List.mem_range.1 hn
    simp only [Function.comp_apply]
    rw [Nat.mul_comm q b, Nat.mul_add_div hb, Nat.mul_add_mod, Nat.div_eq_of_lt hn, Nat.mod_eq_of_lt hn, Nat.add_zero]

theorem pics_succ (b p : Nat) (hb : 0 < b) : part b (pics b p) (pics b p).length 0 = pics b (p + 1) := by
  unfold part
  rw [List.take_length]
  simp only [List.range_zero, List.map_nil, List.append_nil]
  unfold pics
  rw [flatMap_range_map b _ _ hb, Nat.pow_succ]
  rfl

theorem length_part_le (b : Nat) (ls : List (List Int)) (k m : Nat) : (part b ls k m).length ≤ k * b + m := by
  have h : ∀ l : List (List Int), (l.flatMap (exts b)).length = l.length * b := by
    intro l
    induction l with
    | nil => simp
    | cons x l ih => rw [List.flatMap_cons, List.length_append, ih]; simp [exts, Nat.succ_mul]; omega
  unfold part
  rw [List.length_append, h, List.length_map, List.length_range, List.length_take]
  have := Nat.mul_le_mul_right b (Nat.min_le_left k ls.length)
  omega

theorem rows_elem {W : World} {a : Option Addr} {ls : List (List Int)} (h : RowsAt W a ls) {k : Nat} (hk : k < ls.length) : ∃ b off ra n cap, a = some ⟨b, off, none⟩ ∧ b < W.heap.size ∧ W.cell? ⟨b, off + k, none⟩ = some (.slice ra n cap) ∧ (ls[k]?.getD []).length = n ∧ n ≤ maxLen ∧ IntsAt W ra (ls[k]?.getD []) := by
  have := h k hk
  rw [List.getElem?_eq_getElem hk]
  exact this

theorem RowsO.one (w : World) (E T : TypeId) (base : Nat) (hb : base ≤ w.heap.size) : RowsO E T (w.alloc (.cells #[.slice none 0 0] T)) base (fun _ => True) (.slice (some ⟨w.heap.size, 0, none⟩) 1 1) [[]] := by
  refine ⟨[.slice none 0 0], ⟨rfl, .inr ⟨w.heap.size, 1, _, rfl, hb, World.alloc_heap_new _ _, Nat.le_refl _, by decide, rfl, rfl⟩⟩, fun _ _ => trivial, fun j hj => ?_⟩
  have : j = 0 := by simp at hj; omega
  subst this
  exact ⟨_, rfl, none, 0, 0, rfl, rfl, by decide, fun j hj => by simp at hj⟩

theorem own_ints {W : World} {b0 E : Nat} {v : Value} {n : Nat} {l : List Int} (h : W.ownsRow b0 E 1 v n (l.map (Value.int .i64))) : l.length = n := by have := h.1; simpa using this

set_option maxHeartbeats 4000000 in
theorem refPictures_c (w : World) (p t : Nat) (hp : p ≤ 8) (ht : t ≤ 3) :
    Calls Try.prog 52 #[.agg #[.int .i64 p, .int .i64 t]] w fun e w' => ∃ v base, e = .returned v ∧ w.heap.size ≤ base ∧ RowsO 3 25 w' base (fun _ => True) v (pics (t + 1) p) ∧ Below w.heap.size w w' := by
  obtain ⟨wf, hwf⟩ : ∃ wf, wf = w.alloc (.cells #[.int .i64 (p : Int), .int .i64 (t : Int)] 23) := ⟨_, rfl⟩
  have hbf : Below w.heap.size w wf := by rw [hwf]; exact (Below.refl _ _).alloc (Nat.le_refl _) _
  have hszf : wf.heap.size = w.heap.size + 1 := by rw [hwf]; simp
  have hf0 : wf.cell? ⟨w.heap.size, 0, none⟩ = some (.int .i64 (p : Int)) := by rw [hwf, World.cell?_alloc_at _ _ _ _ rfl]; rfl
  have hf1 : wf.cell? ⟨w.heap.size, 1, none⟩ = some (.int .i64 (t : Int)) := by rw [hwf, World.cell?_alloc_at _ _ _ _ rfl]; rfl
  go_enter Try.func52, Try.ntmps52
  go_wp2
  rw [← hwf]
  clear hwf
  go_loopw [3, 11] (fun o i wr => ∃ (k base : Nat), k ≤ p ∧ i = .int .i64 k ∧ w.heap.size ≤ base ∧ RowsO 3 25 wr base (fun _ => True) o (pics (t + 1) k) ∧ Below wf.heap.size wf wr) (fun _ i _ => p - (intOf i).toNat)
  case atStart =>
    refine ⟨0, w.heap.size, Nat.zero_le _, rfl, Nat.le_refl _, ?_, (Below.refl _ _).alloc (Nat.le_refl _) _⟩
    first
      | exact RowsO.one wf 3 25 w.heap.size (by omega)
      | (have := RowsO.one wf 3 25 w.heap.size (by omega); rw [hszf] at this; exact this)
  case round =>
    obtain ⟨k, base, hk, rfl, hbase, hR, hb⟩ := hrel
    obtain ⟨wo, rfl⟩ : ∃ wo : World, wo = wr := ⟨_, rfl⟩
    have hg1 : wo.cell? ⟨w.heap.size, 1, none⟩ = some (.int .i64 (t : Int)) := (hb.cell (p := ⟨w.heap.size, 1, none⟩) (show w.heap.size < wf.heap.size by omega)).trans hf1
    by_cases hlt : k < p
    · obtain ⟨a, cap, rfl, hlen, hreads, _⟩ := hR.reads
      have hll : (pics (t + 1) k).length = (t + 1) ^ k := length_pics _ _
      have hpw : (t + 1) ^ k ≤ 65536 := pow_le (by omega) ht
      have hpw1 : (t + 1) ^ (k + 1) ≤ 65536 := pow_le (by omega) ht
      have hpwm : (t + 1) ^ k * (t + 1) = (t + 1) ^ (k + 1) := (Nat.pow_succ _ _).symm
      obtain ⟨L, hL⟩ : ∃ L, L = pics (t + 1) k := ⟨_, rfl⟩
      obtain ⟨len, hlenE⟩ : ∃ len, len = L.length := ⟨_, rfl⟩
      rw [← hL] at hreads hlen hll ⊢
      rw [← hlenE] at hll hlen ⊢
      have hlen1 : len * (t + 1) ≤ 65536 := by rw [hll]; omega
      have hlen2 : len ≤ 65536 := by omega
      have HL := hid hL
      have HLE := hid hlenE
      have HRd := hid hreads
      clear hL hlenE hreads hR hpw hpw1 hpwm hll hlen
      go_wp2
      go_loopw [4, 15] (fun v i wi => ∃ kk : Nat, kk ≤ len ∧ i = .int .i64 kk ∧ RowsO 3 25 wi wo.heap.size (fun _ => True) v (part (t + 1) L kk 0) ∧ Below wo.heap.size wo wi) (fun _ i _ => len - (intOf i).toNat)
      case atStart => exact ⟨0, Nat.zero_le _, rfl, by rw [part_zero]; exact RowsO.nil _ _ _ _ _, Below.refl _ _⟩
      case round =>
        obtain ⟨kk, hkk, rfl, hRk, hbk⟩ := hrel
        obtain ⟨wi, rfl⟩ : ∃ wi : World, wi = wr := ⟨_, rfl⟩
        have hh1 : wi.cell? ⟨w.heap.size, 1, none⟩ = some (.int .i64 (t : Int)) := (hbk.cell (p := ⟨w.heap.size, 1, none⟩) (show w.heap.size < wo.heap.size by have := hb.size; omega)).trans hg1
        by_cases hltk : kk < len
        · obtain ⟨b, off, ra, xn, xc, rfl, hbs, hcx0, hxn, hxm, hxi⟩ := rows_elem HRd.out (k := kk) (by rw [← HLE.out]; exact hltk)
          have hcx : wi.cell? ⟨b, off + kk, none⟩ = some (.slice ra xn xc) := (hbk.cell (p := ⟨b, off + kk, none⟩) hbs).trans hcx0
          clear hcx0
          obtain ⟨X, hX⟩ : ∃ X, X = L[kk]?.getD [] := ⟨_, rfl⟩
          rw [← hX] at hxn hxi
          have hxl8 : xn ≤ 8 := by
            have hm : X ∈ pics (t + 1) k := by
              rw [hX, List.getElem?_eq_getElem (by rw [← HLE.out]; exact hltk), ← HL.out]; exact List.getElem_mem _
            have := (mem_pics (by omega) hm).1
            omega
          have hbnd : kk * (t + 1) + (t + 1) ≤ 65536 := by
            have := Nat.mul_le_mul_right (t + 1) (show kk + 1 ≤ len by omega)
            rw [Nat.succ_mul] at this; omega
          have HX := hid hX
          have HXN := hid hxn
          have HXI := hid hxi
          have HRk := hid hRk
          clear hX hxn hxi hRk
          go_wp2
          go_loopw [4, 22] (fun v i wj => ∃ mm : Nat, mm ≤ t + 1 ∧ i = .int .i64 mm ∧ RowsO 3 25 wj wo.heap.size (fun _ => True) v (part (t + 1) L kk mm) ∧ Below wo.heap.size wo wj) (fun _ i _ => t + 1 - (intOf i).toNat)
          case atStart => exact ⟨0, Nat.zero_le _, rfl, HRk.out, hbk⟩
          case round =>
            obtain ⟨mm, hmm, rfl, hRm, hbm⟩ := hrel
            by_cases hltm : mm < t + 1
            · have hxj := (HXI.out.below hbm)
              have HXJ := hid hxj
              clear hxj
              have hbe : Below wr.heap.size wr (wr.alloc (.cells #[] 3)) := (Below.refl _ _).alloc (Nat.le_refl _) _
              have hlp := length_part_le (t + 1) L kk mm
              have HLP := hid hlp
              clear hlp
              have HRm := hid hRm
              clear hRm
              have hszo : wo.heap.size ≤ wr.heap.size := hbm.size
              have L1 := hid (show (X.map (Value.int .i64)).length = xn * 1 by rw [List.length_map, HXN.out]; omega)
              have L2 := hid (show ra = none → xn = 0 from fun h => by rw [← HXN.out]; exact ints_none HXJ.out h)
              have L3 := hid (ints_news (HXJ.out.below hbe))
              have L4 := hid (show xn ≤ maxLen from hxm)
              have hvs : Hid (RowsO 3 25 wr wo.heap.size (fun _ => True) u4 (part (t + 1) L kk mm)) := HRm
              obtain ⟨a4, c4, e4, hl4, _, _⟩ := hvs.out.reads
              subst e4
              have hl5 : (part (t + 1) L kk mm).length ≤ 65536 := by have := HLP.out; omega
              clear hl4
              obtain ⟨PL, hPL⟩ : ∃ PL, PL = (part (t + 1) L kk mm).length := ⟨_, rfl⟩
              rw [← hPL] at hl5 ⊢
              have HPL := hid hPL
              clear hPL
              have M1 := hid (show 0 + xn ≤ maxLen by rw [Nat.zero_add]; exact hxm)
              have M2 := hid (show (0 + xn) * 8 ≤ 140737488355328 by omega)
              have M3 := hid (show wr.heap.size ≤ (wr.alloc (.cells #[] 3)).heap.size by simp)
              have M4 := hid (World.ownsRow_made (base := wr.heap.size) (e := 3) (size := 1) wr #[] 0 (Nat.le_refl _) (Nat.zero_le _) rfl)
              have M5 := hid (show xn + 1 ≤ maxLen by unfold maxLen; omega)
              have M6 := hid (show (xn + 1) * 8 ≤ 140737488355328 by omega)
              have M7 := hid (show PL + 1 ≤ maxLen by unfold maxLen; omega)
              have M8 := hid (show (PL + 1) * 24 ≤ 140737488355328 by omega)
              have HSO := hid hszo
              go_wp2_with (first
                | (at_builtin; refine wpList_app _ rfl (.tmp 26) (.tmp 27) 25 rfl wr.heap.size 3 (.int .i64 0) 1 8 Try.underlying25 info_int rfl Nat.one_pos (.slice (some ⟨wr.heap.size, 0, none⟩) 0 0) 0 [] rfl M4.out ra xn xc (X.map (Value.int .i64)) rfl L1.out L2.out L3.out (ints_oneCell _ _) M1.out M2.out M3.out ?_; intro a1 c1 w1 own1 g1; simp only [Nat.zero_add, List.nil_append] at own1; have hb1 := hbe.grown g1 M3.out (fun k hk => (M4.out.lt k hk).1))
                | (at_builtin; (refine wpList_app _ rfl (.tmp 28) (.tmp 30) 25 rfl wr.heap.size 3 (.int .i64 0) 1 8 Try.underlying25 info_int rfl Nat.one_pos (.slice a1 xn c1) xn (X.map (Value.int .i64)) rfl (own1.alloc _) (some ⟨w1.heap.size, 0, none⟩) 1 1 [.int .i64 (mm : Int)] rfl rfl no_none (one_news w1 _ _) (ints_oneCell .i64 [(mm : Int)]) M5.out M6.out (Nat.le_trans hb1.size (le_alloc _ _)) ?_); refine Stop.of ?_))
              refine Stop.go ?_
              intro a2 c2 w2 own2 g2
              have hb2 := (hb1.alloc hb1.size _).grown g2 (Nat.le_trans hb1.size (le_alloc _ _)) (fun k hk => (own1.lt k hk).1)
              obtain ⟨vs, ho, hg, he⟩ := HRm.out.keep (Keep.of_below hb2)
              rw [← HPL.out] at ho
              have HE := hid he
              clear he hg
              go_wp2_with (first
                | (at_builtin; refine wpList_app _ rfl (.tmp 25) (.tmp 32) 57 rfl wo.heap.size 25 (.slice none 0 0) 1 24 Try.underlying57 info_ints rfl Nat.one_pos (.slice a4 PL c4) PL vs rfl (ho.alloc _) (some ⟨w2.heap.size, 0, none⟩) 1 1 [.slice a2 (xn + 1) c2] rfl rfl no_none (one_news w2 _ _) (slice_oneCell _ _ _) M7.out M8.out (Nat.le_trans HSO.out (Nat.le_trans hb2.size (le_alloc _ _))) ?_; intro a3 c3 w3 own3 g3))
              have hla : Below w2.heap.size w2 (w2.alloc (.cells #[.slice a2 (xn + 1) c2] 25)) := (Below.refl _ _).alloc (Nat.le_refl _) _
              have hEl : ElemI 3 w2 wo.heap.size (fun _ => True) (.slice a2 (xn + 1) c2) (X ++ [(mm : Int)]) := ElemI.own' own2 (by simp) (by have := HXN.out; simp; omega) M5.out (fun _ _ => trivial)
              rw [HPL.out] at ho own3 g3
              have hR3 := RowsO.snoc (by decide) ho HE.out hEl hla g3 own3 (fun _ _ => trivial)
              have hB3 : Below wo.heap.size wo w3 := (hbm.trans (hb2.mono hszo)).trans ((hla.mono (Nat.le_trans hszo hb2.size)).grown g3 (Nat.le_trans (Nat.le_trans hszo hb2.size) (le_alloc _ _)) (fun k hk => (ho.lt k hk).1))
              refine ⟨⟨mm + 1, by omega, by go_num, ?_, hB3⟩, by simp [intOf]; omega⟩
              rw [part_snoc, ← HX.out, HPL.out]
              exact hR3
            · have hmt : mm = t + 1 := by omega
              have HMT := hid hmt
              have HRm := hid hRm
              clear hmt hRm
              have hmi : ((t : Int) + 1 ≤ (mm : Int)) := by omega
              go_wp2
              refine ⟨⟨kk + 1, by omega, by go_num, ?_, hbm⟩, by simp [intOf]; omega⟩
              have hRm := HRm.out
              rw [HMT.out] at hRm
              rw [← part_full _ _ _ (by rw [← HLE.out]; exact hltk)]
              exact hRm
        · have hkl : kk = len := by omega
          have HKL := hid hkl
          have HRk := hid hRk
          clear hkl hRk
          go_wp2
          refine ⟨⟨k + 1, wo.heap.size, by omega, by go_num, by have := hb.size; omega, ?_, hb.trans (hbk.mono hb.size)⟩, by simp [intOf]; omega⟩
          rw [← pics_succ _ _ (by omega), ← HL.out, ← HLE.out, ← HKL.out]
          exact HRk.out
    · obtain rfl : k = p := by omega
      go_wp2
      go_ret
      exact ⟨_, base, rfl, hbase, hR, chain hbf hb⟩
end Go.Proofs.Ytdcflpfaaeijoaa
