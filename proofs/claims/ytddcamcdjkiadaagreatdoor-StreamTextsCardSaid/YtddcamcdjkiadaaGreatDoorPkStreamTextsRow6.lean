/- Walks and plain laws for StreamTextsRow, part 6. -/
import Derived.Test.YtddcamcdjkiadaaGreatDoorShelfB
import Derived.Shelf.Strings.Builder1
import Derived.Lib.ItoaLen
import Derived.Lib.AppendIntMem
import Derived.Lib.LaidTab
import Derived.Lib.AtoiAllCases
import Derived.Test.YtddcamcdjkiadaaGreatDoorPkStreamTextsRow5
namespace Go.Proofs.YtddcamcdjkiadaaGreatDoor
open Go.RowKit
set_option linter.unusedVariables false

def changeF (a b : List Int) : List Int := (List.range b.length).map (fun i => vec b i - vec a i)
theorem changeF_len (a b : List Int) : (changeF a b).length = b.length := by simp [changeF]
theorem changeF_take (a b : List Int) {k : Nat} (hk : k < b.length) : (changeF a b).take (k + 1) = (changeF a b).take k ++ [vec b k - vec a k] := by
  have hc : k < (changeF a b).length := by rw [changeF_len]; exact hk
  rw [List.take_succ_eq_append_getElem hc]
  simp [changeF]

theorem schange_c (w : World) (a a2 : Option Addr) (n cap cap2 : Nat) (x y : List Int) (hn : x.length = n) (hn2 : y.length = n) (hm : n ≤ 1000) (H : IntsAt w a x) (H2 : IntsAt w a2 y) (hx : BndL 67108864 x) (hy : BndL 67108864 y) :
    Calls Tryz.prog 105 #[.slice a n cap, .slice a2 n cap2] w fun e w' => ∃ v, e = .returned v ∧ w'.ownsRow w.heap.size 3 1 v n ((changeF x y).map (Value.int .i64)) ∧ Below w.heap.size w w' := by
  have HN := hid hn
  have HN2 := hid hn2
  have HH := hid H
  have HH2 := hid H2
  have HCT := hid (fun (k : Nat) (hk : k < y.length) => changeF_take x y hk)
  have HCL := hid (show (changeF x y).length = n by rw [changeF_len, hn2])
  have HX := hid hx
  have HY := hid hy
  obtain ⟨C, hC⟩ : ∃ C, C = changeF x y := ⟨_, rfl⟩
  rw [← hC] at HCT HCL ⊢
  clear hn hn2 H H2 hx hy hC
  go_enter Tryz.func105, Tryz.ntmps105
  go_wp2
  go_loopw [5, 10] (fun v i wr => ∃ k : Nat, k ≤ n ∧ i = .int .i64 k ∧ wr.ownsRow w.heap.size 3 1 v k ((C.take k).map (Value.int .i64)) ∧ Below w.heap.size w wr) (fun _ i _ => n - (intOf i).toNat)
  case atStart => exact ⟨0, Nat.zero_le _, rfl, World.ownsRow_nil _ _ _ _, Below.refl _ _⟩
  case round =>
    obtain ⟨k, hk, rfl, ho, hbk⟩ := hrel
    by_cases hlt : k < n
    · obtain ⟨b, off, rfl, hbs, hc⟩ := (HH.out.below hbk) k (by rw [HN.out]; exact hlt)
      obtain ⟨b2, off2, rfl, hbs2, hc2⟩ := (HH2.out.below hbk) k (by rw [HN2.out]; exact hlt)
      have htk := HCT.out k (by rw [HN2.out]; exact hlt)
      have e1 : x[k]?.getD 0 = vec x k := rfl
      have e2 : y[k]?.getD 0 = vec y k := rfl
      rw [e1] at hc
      rw [e2] at hc2
      have b1 := HX.out (vec x k) (by have hk' : k < x.length := by rw [HN.out]; exact hlt
                                      unfold vec; rw [List.getElem?_eq_getElem hk']; exact List.getElem_mem hk')
      have b2' := HY.out (vec y k) (by have hk' : k < y.length := by rw [HN2.out]; exact hlt
                                       unfold vec; rw [List.getElem?_eq_getElem hk']; exact List.getElem_mem hk')
      obtain ⟨p, hp⟩ : ∃ p, p = vec x k := ⟨_, rfl⟩
      obtain ⟨q, hq⟩ : ∃ q, q = vec y k := ⟨_, rfl⟩
      rw [← hp] at hc htk b1
      rw [← hq] at hc2 htk b2'
      obtain ⟨z, hz⟩ : ∃ z, z = q - p := ⟨_, rfl⟩
      rw [← hz] at htk
      have hw : wrap64 (q - p) = z := by rw [hz]; unfold wrap64; omega
      have hw2 : IntKind.i64.wrap (q - p) = z := by rw [IntWalk.i64_left]; exact hw
      obtain ⟨la, lc, rfl⟩ := ownsRow_slice ho
      have HTK := hid htk
      have HO := hid ho
      have M1 := hid (show k + 1 ≤ maxLen by unfold maxLen; omega)
      have M2 := hid (show (k + 1) * 8 ≤ 140737488355328 by omega)
      have M3 := hid (Nat.le_trans hbk.size (le_alloc wr (.cells #[.int .i64 z] 3)))
      have HBK := hid hbk
      have hki : (k : Int) < (n : Int) := by omega
      have hki0 : (0 : Int) ≤ (k : Int) := by omega
      clear htk e1 e2 hp hq hz b1 b2' ho hbk hbs hbs2
      go_wp2_with (at_builtin; refine wpList_app _ rfl (.tmp 15) (.tmp 22) 30 rfl w.heap.size 3 (.int .i64 0) 1 8 Tryz.underlying30 li_int rfl Nat.one_pos (.slice la k lc) k _ rfl (HO.out.alloc _) (some ⟨wr.heap.size, 0, none⟩) 1 1 [.int .i64 z] rfl rfl no_none (one_news wr _ _) (li_one _) M1.out M2.out M3.out ?_; refine Stop.of ?_)
      refine Stop.go ?_
      intro a3 c3 w3 own3 g3
      have hB3 : Below w.heap.size w w3 := (HBK.out.alloc HBK.out.size _).grown g3 M3.out (fun k hk => (HO.out.lt k hk).1)
      go_wp2
      refine ⟨⟨k + 1, by omega, by go_num, ?_, hB3⟩, by simp [intOf]; omega⟩
      rw [HTK.out]
      simpa using own3
    · obtain rfl : n = k := by omega
      rw [List.take_of_length_le (by rw [HCL.out]; exact Nat.le_refl _)] at ho
      go_wp2
      go_ret
      exact ⟨_, rfl, ho, hbk⟩

end Go.Proofs.YtddcamcdjkiadaaGreatDoor

namespace Go.Proofs.YtddcamcdjkiadaaGreatDoor
open Go.RowKit
set_option linter.unusedVariables false

theorem rows_two {w : World} {a1 a2 : Option Addr} {n1 c1 n2 c2 : Nat} {x y : List Int} (T : TypeId) (h1 : x.length = n1) (h2 : y.length = n2) (m1 : n1 ≤ maxLen) (m2 : n2 ≤ maxLen) (H1 : IntsAt w a1 x) (H2 : IntsAt w a2 y) :
    RowsAt (w.alloc (.cells #[.slice a1 n1 c1, .slice a2 n2 c2] T)) (some ⟨w.heap.size, 0, none⟩) [x, y] := by
  have hb : Below w.heap.size w (w.alloc (.cells #[.slice a1 n1 c1, .slice a2 n2 c2] T)) := (Below.refl _ _).alloc (Nat.le_refl _) _
  intro j hj
  match j, hj with
  | 0, _ => exact ⟨w.heap.size, 0, a1, n1, c1, rfl, by simp, by rw [World.cell?_alloc_at _ _ _ _ rfl]; rfl, h1, m1, H1.below hb⟩
  | 1, _ => exact ⟨w.heap.size, 0, a2, n2, c2, rfl, by simp, by rw [World.cell?_alloc_at _ _ _ _ rfl]; rfl, h2, m2, H2.below hb⟩

theorem pic_bnd {M : Mask} {x : List Int} (h : picB M x = true) : x.length = colsM M ∧ BndL 67108864 x := by
  unfold picB at h
  simp only [Bool.and_eq_true, decide_eq_true_eq, List.all_eq_true] at h
  refine ⟨h.1, fun v hv => ?_⟩
  have := h.2 v hv
  unfold inB at this
  simp at this
  omega

end Go.Proofs.YtddcamcdjkiadaaGreatDoor

namespace Go.Proofs.YtddcamcdjkiadaaGreatDoor
open Go.RowKit
set_option linter.unusedVariables false

abbrev Frm := Bool × List Int
def FramesAt (w : World) (a : Option Addr) (fs : List Frm) : Prop :=
  ∀ j (hj : j < fs.length), ∃ b off ra n cap, a = some ⟨b, off, none⟩ ∧ b < w.heap.size ∧ w.cell? ⟨b, off + j * 2, none⟩ = some (.bool fs[j].1) ∧ w.cell? ⟨b, off + j * 2 + 1, none⟩ = some (.slice ra n cap) ∧ fs[j].2.length = n ∧ n ≤ maxLen ∧ IntsAt w ra fs[j].2
theorem FramesAt.below {w w' : World} {a : Option Addr} {l : List Frm} (h : FramesAt w a l) (hb : Below w.heap.size w w') : FramesAt w' a l := by
  intro j hj
  obtain ⟨b, off, ra, n, cap, e, hlt, h0, h1, hn, hm, hi⟩ := h j hj
  exact ⟨b, off, ra, n, cap, e, Nat.lt_of_lt_of_le hlt hb.size, (hb.cell (p := ⟨b, _, none⟩) hlt).trans h0, (hb.cell (p := ⟨b, _, none⟩) hlt).trans h1, hn, hm, hi.below hb⟩
def frB (M : Mask) (f : Frm) : Bool := decide (f.2.length = 0) || (f.1 && picB M f.2) || (!f.1 && (decide (f.2.length = M.length) && milB f.2))
def validB (M : Mask) (fs : List Frm) : Bool := okM M && inB fs.length 1 60 && (fs[0]?.getD (false, [])).1 && fs.all (frB M)

theorem lost_c (w : World) (kf : Bool) (a : Option Addr) (n cap : Nat) :
    Calls Tryz.prog 81 #[.agg #[.bool kf, .slice a n cap]] w fun e w' => e = .returned (.bool (decide (n = 0))) ∧ Below w.heap.size w w' := by
  have hd : ((n : Int) == 0) = decide (n = 0) := by rw [Bool.eq_iff_iff]; simp
  obtain ⟨D, hD⟩ : ∃ D, D = decide (n = 0) := ⟨_, rfl⟩
  rw [← hD] at hd ⊢
  clear hD
  go_enter Tryz.func81, Tryz.ntmps81
  go_wp2
  go_ret
  exact ⟨rfl, (Below.refl _ _).alloc (Nat.le_refl _) _⟩

theorem frv11 (w : World) : PredI Tryz.prog 80 #[] w (fun n => !inB n (-1000000) 1000000) := by
  intro x W hb
  obtain ⟨b, hbb⟩ : ∃ b, b = inB x (-1000000) 1000000 := ⟨_, rfl⟩
  have HW := hid (fun X => swithin_c x (-1000000) 1000000 X)
  show Calls _ _ #[.int .i64 x] W fun e W' => e = .returned (.bool (!inB x (-1000000) 1000000)) ∧ Below W.heap.size W W'
  rw [← hbb] at HW ⊢
  clear hbb
  go_enter Tryz.func80, Tryz.ntmps80
  go_wp2_with (go_at_call 45; refine (HW.out _).mono ?_; rintro e w1 ⟨rfl, rfl⟩)
  go_ret
  exact ⟨rfl, Below.refl _ _⟩

def readB (M : Mask) (l : List Int) : Bool := decide (l.length = M.length) && milB l

theorem frv1_c (w : World) (fb mb : Nat) (kf : Bool) (a2 a : Option Addr) (n2 cap2 n cap : Nat) (M : Mask) (l : List Int) (hn : M.length = n) (hn2 : l.length = n2) (hm2 : n2 ≤ maxLen) (H2 : IntsAt w a2 l)
    (hf1 : w.cell? ⟨fb, 1, none⟩ = some (.slice a2 n2 cap2)) (hm0 : w.cell? ⟨mb, 0, none⟩ = some (.slice a n cap)) :
    Calls Tryz.prog 78 #[.pointer (some ⟨fb, 0, none⟩), .pointer (some ⟨mb, 0, none⟩)] w fun e w' => e = .returned (.bool (readB M l)) ∧ Below w.heap.size w w' := by
  have HC := hid (containsI w a2 n2 cap2 l hn2 hm2 H2 80 #[] _ (enters_of Tryz.func80 (by kernel_rfl) rfl) (frv11 w))
  have hp : readB M l = (decide (n2 = n) && !(l.any (fun n => !inB n (-1000000) 1000000))) := by
    unfold readB milB
    rw [hn, hn2, List.all_eq_not_any_not]
  rw [hp]
  obtain ⟨A, hA⟩ : ∃ A, A = l.any (fun n => !inB n (-1000000) 1000000) := ⟨_, rfl⟩
  rw [← hA] at HC ⊢
  clear hp hA hn hn2 H2
  by_cases h : n2 = n
  · subst h
    have hd : (((n2 : Nat) : Int) == (n2 : Int)) = true := by simp
    go_enter Tryz.func78, Tryz.ntmps78
    go_wp2_with (go_at_call 79; refine HC.out.mono ?_; rintro e w1 ⟨rfl, hb1⟩)
    go_ret
    exact ⟨by simp, hb1⟩
  · have hd : (((n2 : Nat) : Int) == (n : Int)) = false := by simp; omega
    rw [decide_eq_false h, Bool.false_and]
    clear h
    go_enter Tryz.func78, Tryz.ntmps78
    go_wp2_with fail
    go_ret
    exact ⟨rfl, Below.refl _ _⟩

theorem frv_c (w : World) (kf : Bool) (a2 a : Option Addr) (n2 cap2 n cap : Nat) (M : Mask) (l : List Int) (hn : M.length = n) (h1 : 1 ≤ n) (H : RowsAt w a M) (hn2 : l.length = n2) (hm2 : n2 ≤ maxLen) (H2 : IntsAt w a2 l) :
    Calls Tryz.prog 48 #[.agg #[.bool kf, .slice a2 n2 cap2], .slice a n cap] w fun e w' => e = .returned (.bool (frB M (kf, l))) ∧ Below w.heap.size w w' := by
  have hmf : ∀ (fn : Fn) (first cap : Array Value) (w : World), (Instr.makeFunc fn first cap).run Tryz.prog w = .ok (.func fn first cap) w := fun _ _ _ _ => rfl
  obtain ⟨wz, hwz⟩ : ∃ wz, wz = (w.alloc (.cells #[.bool kf, .slice a2 n2 cap2] 86)).alloc (.cells #[.slice a n cap] 35) := ⟨_, rfl⟩
  have hbz : Below w.heap.size w wz := by rw [hwz]; exact ((Below.refl _ _).alloc (Nat.le_refl _) _).alloc (by simp) _
  have c0 : wz.cell? ⟨w.heap.size, 0, none⟩ = some (.bool kf) := by rw [hwz, World.cell?_alloc_past _ _ _ (by simp), World.cell?_alloc_at _ _ _ _ rfl]; rfl
  have c1 : wz.cell? ⟨w.heap.size, 1, none⟩ = some (.slice a2 n2 cap2) := by rw [hwz, World.cell?_alloc_past _ _ _ (by simp), World.cell?_alloc_at _ _ _ _ rfl]; rfl
  have c2 : wz.cell? ⟨w.heap.size + 1, 0, none⟩ = some (.slice a n cap) := by rw [hwz, World.cell?_alloc_at _ _ _ _ (by simp)]; rfl
  have hs : wz.heap.size = w.heap.size + 2 := by rw [hwz]; simp
  have HL := hid (fun (X : World) => lost_c X kf a2 n2 cap2)
  have HP := hid (fun (X : World) (hX : Below w.heap.size w X) => picture_c X a n cap M hn h1 (H.below hX) a2 n2 cap2 l hn2 hm2 (H2.below hX))
  have HV := hid (fun (X : World) (hX : Below w.heap.size w X) (h1 : X.cell? ⟨w.heap.size, 1, none⟩ = some (.slice a2 n2 cap2)) (h2 : X.cell? ⟨w.heap.size + 1, 0, none⟩ = some (.slice a n cap)) => frv1_c X w.heap.size (w.heap.size + 1) kf a2 a n2 cap2 n cap M l hn hn2 hm2 (H2.below hX) h1 h2)
  have hp : frB M (kf, l) = (decide (n2 = 0) || (kf && picB M l) || (!kf && readB M l)) := by unfold frB readB; rw [hn2]
  rw [hp]
  obtain ⟨D, hD⟩ : ∃ D, D = decide (n2 = 0) := ⟨_, rfl⟩
  obtain ⟨A, hA⟩ : ∃ A, A = picB M l := ⟨_, rfl⟩
  obtain ⟨R, hR⟩ : ∃ R, R = readB M l := ⟨_, rfl⟩
  rw [← hD] at HL
  rw [← hA] at HP
  rw [← hR] at HV
  rw [← hD, ← hA, ← hR]
  have HBZ := hid hbz
  clear hp hD hA hR hn hn2 H H2 hbz
  go_enter Tryz.func48, Tryz.ntmps48
  go_wp2_with fail
  rw [← hwz]
  have HWZ := hid hwz
  clear hwz
  cases D <;> cases kf <;> cases A <;> cases R
  all_goals
    go_wp2_with first
      | (go_at_call 81; refine (HL.out wz).mono ?_; rintro e w1 ⟨rfl, hb1⟩; have d0 := (hb1.cell (p := ⟨w.heap.size, 0, none⟩) (by rw [hs]; exact Nat.lt_add_of_pos_right (by decide))).trans c0; have d1 := (hb1.cell (p := ⟨w.heap.size, 1, none⟩) (by rw [hs]; exact Nat.lt_add_of_pos_right (by decide))).trans c1; have d2 := (hb1.cell (p := ⟨w.heap.size + 1, 0, none⟩) (by rw [hs]; exact Nat.lt_succ_self _)).trans c2; have HB1 := hid (chain HBZ.out hb1))
      | (go_at_call 82; refine (HP.out _ HB1.out).mono ?_; rintro e w2 ⟨rfl, hb2⟩; have e0 := (hb2.cell (p := ⟨w.heap.size, 0, none⟩) (World.block_lt_of_cell? _ ⟨w.heap.size, 0, none⟩ d0)).trans d0)
      | (go_at_call 78; refine (HV.out _ HB1.out d1 d2).mono ?_; rintro e w3 ⟨rfl, hb3⟩)
    go_ret
    first
      | exact ⟨rfl, HB1.out⟩
      | exact ⟨rfl, chain HB1.out hb2⟩
      | exact ⟨rfl, chain HB1.out hb3⟩
end Go.Proofs.YtddcamcdjkiadaaGreatDoor

namespace Go.Proofs.YtddcamcdjkiadaaGreatDoor
open Go.Lib
set_option linter.unusedVariables false

def keyW : List UInt8 := [107, 101, 121]
def readW : List UInt8 := [114, 101, 97, 100]
def wordK (b : Bool) : List UInt8 := if b then keyW else readW
def lineS (x : Frm) : List UInt8 := wordK x.1 ++ x.2.flatMap (fun n => 32 :: itoa n)
def lineL (x : Frm) : List UInt8 := lineS x ++ [10]

theorem join_flat : ∀ (l : List (List UInt8)) (a : List UInt8), joinW (a :: l) = a ++ l.flatMap (fun w => 32 :: w)
  | [], a => by simp [joinW]
  | b :: l, a => by rw [joinW, join_flat l b]; simp
theorem lineS_join (x : Frm) : lineS x = joinW (wordK x.1 :: x.2.map itoa) := by
  rw [join_flat]; unfold lineS; rw [List.flatMap_map]
theorem wordK_free (b : Bool) : (32 : UInt8) ∉ wordK b ∧ (10 : UInt8) ∉ wordK b := by cases b <;> decide
theorem itoa_free2 (n : Int) : (32 : UInt8) ∉ itoa n ∧ (10 : UInt8) ∉ itoa n := ⟨itoa_no n 32 (by decide), itoa_no n 10 (by decide)⟩
theorem words_lineS (x : Frm) : wordsF (lineS x) = wordK x.1 :: x.2.map itoa := by
  rw [lineS_join]
  refine words_join _ (by simp) fun w hw => ?_
  rcases List.mem_cons.1 hw with rfl | hw
  · exact (wordK_free _).1
  · obtain ⟨n, _, rfl⟩ := List.mem_map.1 hw; exact (itoa_free2 n).1
theorem lineS_no10 (x : Frm) : (10 : UInt8) ∉ lineS x := by
  unfold lineS
  intro h
  rcases List.mem_append.1 h with h | h
  · exact (wordK_free _).2 h
  · obtain ⟨n, _, h⟩ := List.mem_flatMap.1 h
    rcases List.mem_cons.1 h with h | h
    · simp at h
    · exact (itoa_free2 n).2 h
theorem cut_lineS (x : Frm) (r : List UInt8) : cut (lineL x ++ r) [10] = (lineS x, r, true) := by
  have e : lineL x ++ r = lineS x ++ 10 :: r := by simp [lineL]
  rw [e]; exact cut_one _ _ _ (lineS_no10 x)
def frW (ws : List (List UInt8)) : Frm := (decide (ws[0]?.getD [] = keyW), ws.tail.map atV)
theorem frame_bd {M : Mask} {x : Frm} (h : frB M x = true) : ∀ n ∈ x.2, -9223372036854775808 ≤ n ∧ n ≤ 9223372036854775807 := by
  intro n hn
  unfold frB at h
  simp only [Bool.or_eq_true, Bool.and_eq_true, decide_eq_true_eq] at h
  rcases h with (h | h) | h
  · rw [List.eq_nil_of_length_eq_zero h] at hn; cases hn
  · have h2 := h.2
    unfold picB at h2
    simp only [Bool.and_eq_true, List.all_eq_true] at h2
    have := h2.2 n hn
    simp [inB] at this; omega
  · have h2 := h.2.2
    unfold milB at h2
    rw [List.all_eq_true] at h2
    have := h2 n hn
    simp [inB] at this; omega
theorem valid_last {M : Mask} {acc : List Frm} {x : Frm} (h : validB M (acc ++ [x]) = true) : frB M x = true := by
  unfold validB at h
  simp only [Bool.and_eq_true, List.all_eq_true] at h
  exact h.2 x (by simp)
theorem frW_line {x : Frm} (h : ∀ n ∈ x.2, -9223372036854775808 ≤ n ∧ n ≤ 9223372036854775807) : frW (wordsF (lineS x)) = x := by
  rw [words_lineS]
  obtain ⟨b, l⟩ := x
  unfold frW
  simp only [List.getElem?_cons_zero, Option.getD_some, List.tail_cons, List.map_map]
  congr 1
  · cases b <;> simp [wordK, keyW, readW]
  · conv => rhs; rw [← List.map_id l]
    exact List.map_congr_left fun n hn => atV_itoa n (h n hn).1 (h n hn).2
theorem word_line (x : Frm) : (wordsF (lineS x))[0]?.getD [] = wordK x.1 := by rw [words_lineS]; rfl
def stepS (M : Mask) (acc : List Frm) (s : List UInt8) : Option (Frm × List UInt8) :=
  let ws := wordsF (cut s [10]).1
  if (ws[0]?.getD [] = keyW ∨ ws[0]?.getD [] = readW) ∧ hasPrefix s (lineL (frW ws)) = true ∧ validB M (acc ++ [frW ws]) = true then some (frW ws, (cut s [10]).2.1) else none
def rstepS (M : Mask) (acc : List Frm) (s : List UInt8) : Option (Frm × List UInt8) :=
  let ws := wordsF (cut s [10]).1
  if (cut s [10]).2.2 = true ∧ validB M (acc ++ [frW ws]) = true ∧ lineS (frW ws) = (cut s [10]).1 then some (frW ws, (cut s [10]).2.1) else none
theorem stepS_iff (M : Mask) (acc : List Frm) (s : List UInt8) (x : Frm) (r : List UInt8) : stepS M acc s = some (x, r) ↔ validB M (acc ++ [x]) = true ∧ s = lineL x ++ r := by
  unfold stepS
  simp only []
  constructor
  · intro h
    split at h
    · rename_i hc
      obtain ⟨_, h1, h2⟩ := hc
      obtain ⟨e1, e2⟩ := Prod.mk.inj (Option.some.inj h)
      obtain ⟨u, hu⟩ := List.isPrefixOf_iff_prefix.1 h1
      rw [e1] at hu h2
      have e := cut_lineS x u
      rw [hu] at e
      rw [e] at e2
      simp only [] at e2
      subst e2
      exact ⟨h2, hu.symm⟩
    · cases h
  · rintro ⟨h, rfl⟩
    rw [cut_lineS]
    simp only []
    rw [frW_line (frame_bd (valid_last h)), word_line, if_pos]
    refine ⟨?_, List.isPrefixOf_iff_prefix.2 ⟨r, rfl⟩, h⟩
    unfold wordK
    cases x.1
    · exact .inr rfl
    · exact .inl rfl
theorem cut_hit2 {s sep : List UInt8} (h : (cut s sep).2.2 = true) : s = (cut s sep).1 ++ sep ++ (cut s sep).2.1 :=
  cut_hit (sep := sep) (Prod.ext rfl (Prod.ext rfl h))
theorem rstepS_iff (M : Mask) (acc : List Frm) (s : List UInt8) (x : Frm) (r : List UInt8) : rstepS M acc s = some (x, r) ↔ validB M (acc ++ [x]) = true ∧ s = lineL x ++ r := by
  unfold rstepS
  simp only []
  constructor
  · intro h
    split at h
    · rename_i hc
      obtain ⟨h1, h2, h3⟩ := hc
      obtain ⟨e1, e2⟩ := Prod.mk.inj (Option.some.inj h)
      rw [e1] at h2 h3
      have e := cut_hit2 h1
      rw [← h3, e2] at e
      refine ⟨h2, ?_⟩
      rw [e]; simp [lineL]
    · cases h
  · rintro ⟨h, rfl⟩
    rw [cut_lineS]
    simp only []
    rw [frW_line (frame_bd (valid_last h)), if_pos ⟨trivial, h, rfl⟩]
theorem steps_same (M : Mask) (acc : List Frm) (s : List UInt8) : rstepS M acc s = stepS M acc s := by
  apply Option.ext
  rintro ⟨x, r⟩
  rw [rstepS_iff, stepS_iff]
theorem lineL_ne (x : Frm) : lineL x ≠ [] := by simp [lineL]
theorem stepS_less {M : Mask} {acc : List Frm} {s r : List UInt8} {x : Frm} (h : stepS M acc s = some (x, r)) : r.length < s.length := by
  obtain ⟨_, rfl⟩ := (stepS_iff M acc s x r).1 h
  simp [lineL]; omega
def parseS (M : Mask) : Nat → List Frm → List UInt8 → List Frm × Nat × Int
  | 0, acc, s => if s = [] ∧ acc ≠ [] then (acc, 0, 0) else ([], acc.length, 2)
  | f + 1, acc, s => if s = [] ∧ acc ≠ [] then (acc, 0, 0) else match stepS M acc s with | none => ([], acc.length, 2) | some (x, r) => parseS M f (acc ++ [x]) r
theorem parseS_end (M : Mask) (f : Nat) {acc : List Frm} (h : acc ≠ []) : parseS M f acc [] = (acc, 0, 0) := by cases f <;> simp [parseS, h]
theorem parseS_bad {M : Mask} {f : Nat} {acc : List Frm} {s : List UInt8} (h : ¬ (s = [] ∧ acc ≠ [])) (hs : stepS M acc s = none) : parseS M f acc s = ([], acc.length, 2) := by
  cases f with
  | zero => rw [parseS, if_neg h]
  | succ f => rw [parseS, if_neg h, hs]
theorem parseS_step {M : Mask} {f : Nat} {acc : List Frm} {s r : List UInt8} {x : Frm} (h : ¬ (s = [] ∧ acc ≠ [])) (hs : stepS M acc s = some (x, r)) : parseS M (f + 1) acc s = parseS M f (acc ++ [x]) r := by
  rw [parseS, if_neg h, hs]
def parseSF (M : Mask) (s : List UInt8) : List Frm × Nat × Int := if okM M = true then (if 65536 < s.length then ([], 0, 3) else parseS M s.length [] s) else ([], 0, 1)
def formatS (M : Mask) (f : List Frm) : List UInt8 := if validB M f = true then f.flatMap lineL else []
theorem valid_pre {M : Mask} {a b : List Frm} (h : validB M (a ++ b) = true) (ha : a ≠ []) : validB M a = true := by
  unfold validB inB at h ⊢
  simp only [Bool.and_eq_true, List.all_eq_true, decide_eq_true_eq] at h ⊢
  obtain ⟨⟨⟨h1, h2⟩, h3⟩, h4⟩ := h
  have hl : 0 < a.length := List.length_pos_iff.2 ha
  rw [List.length_append] at h2
  rw [List.getElem?_append_left hl] at h3
  exact ⟨⟨⟨h1, by omega⟩, h3⟩, fun x hx => h4 x (by simp [hx])⟩
theorem parseS_lines (M : Mask) : ∀ (g acc : List Frm) (f : Nat), validB M (acc ++ g) = true → g.length ≤ f → parseS M f acc (g.flatMap lineL) = (acc ++ g, 0, 0)
  | [], acc, f, h, _ => by
    have hne : acc ≠ [] := by
      intro e; subst e
      simp [validB, inB] at h
    rw [List.flatMap_nil, parseS_end M f hne]; simp
  | x :: g, acc, f, h, hf => by
    cases f with
    | zero => simp at hf
    | succ f =>
      have e : acc ++ x :: g = (acc ++ [x]) ++ g := by simp
      rw [e] at h ⊢
      have hs : stepS M acc ((x :: g).flatMap lineL) = some (x, g.flatMap lineL) := (stepS_iff _ _ _ _ _).2 ⟨valid_pre h (by simp), by simp⟩
      rw [parseS_step (by simp [lineL_ne]) hs, parseS_lines M g (acc ++ [x]) f h (by simpa using hf)]
theorem lines_len : ∀ g : List Frm, g.length ≤ (g.flatMap lineL).length
  | [] => by simp
  | x :: g => by
    have := lines_len g
    rw [List.flatMap_cons, List.length_append, List.length_cons]
    have h : 0 < (lineL x).length := List.length_pos_iff.2 (lineL_ne x)
    omega
theorem parseSF_back {M : Mask} {f : List Frm} (h : validB M f = true) (hl : (formatS M f).length ≤ 65536) : parseSF M (formatS M f) = (f, 0, 0) := by
  have hM : okM M = true := by unfold validB at h; simp only [Bool.and_eq_true] at h; exact h.1.1.1
  have e : formatS M f = f.flatMap lineL := by unfold formatS; rw [if_pos h]
  unfold parseSF
  rw [if_pos hM, if_neg (by omega), e, parseS_lines M f [] _ (by simpa using h) (lines_len f)]
  simp
theorem parseS_few (M : Mask) : ∀ (f : Nat) (acc : List Frm) (s : List UInt8), acc.length ≤ 60 → (parseS M f acc s).1.length ≤ 60
  | 0, acc, s, h => by unfold parseS; split <;> simp <;> omega
  | f + 1, acc, s, h => by
    unfold parseS
    split
    · exact h
    · cases hp : stepS M acc s with
      | none => simp
      | some q =>
        obtain ⟨x, r⟩ := q
        have := ((stepS_iff _ _ _ _ _).1 hp).1
        unfold validB inB at this
        simp only [Bool.and_eq_true, decide_eq_true_eq] at this
        have h5 := this.1.1.2.2
        exact parseS_few M f _ r (by omega)
theorem parseSF_few (M : Mask) (s : List UInt8) : (parseSF M s).1.length ≤ 60 := by
  unfold parseSF
  split
  · split
    · simp
    · exact parseS_few M _ _ _ (by simp)
  · simp
end Go.Proofs.YtddcamcdjkiadaaGreatDoor

namespace Go.Proofs.YtddcamcdjkiadaaGreatDoor
open Go.RowKit Go.Shelf
set_option linter.unusedVariables false

def Tab (w : World) : Prop := Lib.TabIs Tryz.prog w "internal/strconv.uint64pow10" .u64 Lib.pow10Tab
theorem tabNamed : Tryz.prog.globalNamed "internal/strconv.uint64pow10" = some 5 := by kernel_rfl
theorem Tab.below {w w' : World} (h : Tab w) (hb : Below w.heap.size w w') : Tab w' := by
  unfold Tab Lib.TabIs World.var? at h ⊢
  rw [tabNamed] at h ⊢
  simp only [Option.bind_some] at h ⊢
  have hlt : 5 < w.heap.size := by
    rcases Nat.lt_or_ge 5 w.heap.size with h' | h'
    · exact h'
    · rw [Array.getElem?_eq_none h'] at h; cases h
  rw [hb.block 5 hlt]
  exact h
def isInt (n : Int) : Prop := -9223372036854775808 ≤ n ∧ n ≤ 9223372036854775807
theorem itoa_c (n : Int) (hn : isInt n) (w : World) (ht : Tab w) : Calls Tryz.prog 59 #[.int .i64 n] w fun e w' => e = .returned (.string ⟨(Lib.itoa n).toArray⟩) ∧ Below w.heap.size w w' :=
  (Tryz.strconv_Itoa n hn.1 hn.2 w ht).mono fun e w' ⟨h, k, os, e2⟩ => ⟨h, by rw [e2]; exact Lib.below_grow _ w (Nat.le_refl _) k os⟩
theorem infoByte : (Tryz.prog.info? 5).map (fun i => (i.zero, i.size, i.bytes)) = some (some (.int .u8 0), 1, 1) := by kernel_rfl
theorem sizeBuilder : (Tryz.prog.info? 70).map (·.size) = some 2 := by kernel_rfl
theorem liesBuilder : liesAt Tryz.prog Tryz.prog.depth 70 (2 / Tryz.prog.cellsOf 70) 0 70 1 = true := by kernel_rfl
set_option maxHeartbeats 1000000 in
set_option maxRecDepth 100000 in
theorem copyCheck_used (b : Nat) (w : World) (h0 : w.cell? ⟨b, 0, none⟩ = some (.pointer (some ⟨b, 0, none⟩))) :
    Calls Tryz.prog 62 #[.pointer (some ⟨b, 0, none⟩)] w fun e w' => e = .returned (.tuple #[]) ∧ w' = w := by
  obtain ⟨j, hj, _⟩ := Option.map_eq_some_iff.1 sizeBuilder
  go_enter Tryz.func62, Tryz.ntmps62
  go_wp2
  rw [Lib.run_neq_ptr_same w _ Tryz.underlying67 hj]
  go_wp2
  go_end0
  exact ⟨rfl, rfl⟩
set_option maxHeartbeats 1000000 in
set_option maxRecDepth 100000 in
theorem copyCheck_fresh (b : Nat) (w : World) (h0 : w.cell? ⟨b, 0, none⟩ = some (.pointer none)) (hsh : w.shape? b = some (70, 2)) (hfz : w.frozen? ⟨b, 0, none⟩ = false) :
    Calls Tryz.prog 62 #[.pointer (some ⟨b, 0, none⟩)] w fun e w' => e = .returned (.tuple #[]) ∧ w' = w.setCell ⟨b, 0, none⟩ (.pointer (some ⟨b, 0, none⟩)) := by
  obtain ⟨j, hj, hjs⟩ := Option.map_eq_some_iff.1 sizeBuilder
  go_enter Tryz.func62, Tryz.ntmps62
  go_wp2
  rw [Lib.run_to_unsafe w ⟨b, 0, none⟩ Tryz.underlying67 Tryz.underlying127 hj (by rw [hjs]; decide) hsh (Nat.zero_lt_succ 1)]
  simp only [Result.andThen]
  rw [Oper.upon_value]
  go_wp2
  rw [run_callFunc_extern Tryz.func99 (by kernel_rfl) (by kernel_rfl) (by kernel_rfl) (e := Extern.AbiNoEscape.same) (by kernel_rfl)]
  rw [Lib.run_noEscape]
  simp only [Result.andThen]
  rw [Oper.upon_value]
  go_wp2
  rw [Lib.run_from_unsafe w ⟨b, 0, none⟩ Tryz.underlying127 Tryz.underlying67 hj hsh liesBuilder]
  simp only [Result.andThen]
  rw [Oper.upon_value]
  go_wp2
  go_end0
  exact ⟨rfl, rfl⟩
theorem copyCheck_c (B b : Nat) (bs : List Value) (w : World) (h : Lib.IsBuilder 70 5 B b bs w) :
    Calls Tryz.prog 62 #[.pointer (some ⟨b, 0, none⟩)] w fun e w' => e = .returned (.tuple #[]) ∧ (Lib.BuilderAt 70 5 B b (.pointer (some ⟨b, 0, none⟩)) bs w' ∧ Below B w w') := by
  rcases h with h | h
  · refine (copyCheck_fresh b w h.cell0 h.shape h.frozen0).mono ?_
    rintro e w' ⟨rfl, rfl⟩
    exact ⟨rfl, h.used _, (Below.refl B w).setCell (p := ⟨b, 0, none⟩) h.1 _⟩
  · refine (copyCheck_used b w h.cell0).mono ?_
    rintro e w' ⟨rfl, rfl⟩
    exact ⟨rfl, h, Below.refl B _⟩
theorem cell_inT {w : World} {a : Addr} {v : Value} (h : w.cell? a = some v) : a.block < w.heap.size := by
  unfold World.cell? at h
  split at h
  · rename_i c _ _ hb
    exact (Array.getElem?_eq_some_iff.1 hb).1
  · simp at h
set_option maxHeartbeats 2000000 in
set_option maxRecDepth 100000 in
theorem writeString_c (B b : Nat) (bs : List Value) (s : ByteArray) (w : World) (h : Lib.IsBuilder 70 5 B b bs w) (hlen : bs.length + s.size ≤ 140737488355328) (hBw : B ≤ w.heap.size) :
    Calls Tryz.prog 33 #[.pointer (some ⟨b, 0, none⟩), .string s] w fun e w' => e = .returned (.tuple #[.int .i64 s.size, .nilIface]) ∧ (Lib.IsBuilder 70 5 B b (bs ++ Lib.strCells s) w' ∧ Below B w w') := by
  obtain ⟨i0, hi, hz0, hz1, hz2⟩ := info_parts infoByte
  go_enter Tryz.func33, Tryz.ntmps33
  go_wp2_with (go_at_call 62; refine (copyCheck_c B b bs _ h).mono ?_)
  rintro e w1 ⟨rfl, h1, hb1⟩
  obtain ⟨hB, v, hbk, hown, hne⟩ := h1
  have c0 : w1.cell? ⟨b, 0, none⟩ = some (.pointer (some ⟨b, 0, none⟩)) := by rw [Lib.cell_of_heap hbk]; rfl
  have c1 : w1.cell? ⟨b, 1, none⟩ = some v := by rw [Lib.cell_of_heap hbk]; rfl
  go_wp2_with (at_builtin; refine Lib.wpList_append_own_string _ rfl _ _ 68 9 rfl B 5 i0 Tryz.underlying68 Tryz.underlying9 hi hz0 hz1 hz2 _ _ _ rfl hown s rfl ?c3 ?c4 ?c5 ?_)
  case c3 => unfold maxLen; omega
  case c4 => omega
  case c5 => have := hb1.size; omega
  intro v' w2 hown' hgrow _
  have hlt : b < w1.heap.size := by
    rcases Nat.lt_or_ge b w1.heap.size with h' | h'
    · exact h'
    · simp [Array.getElem?_eq_none h'] at hbk
  have hb2 : w2.heap[b]? = some (.cells #[.pointer (some ⟨b, 0, none⟩), v] 70 (0, 0)) := by
    rw [hgrow.block b hlt (fun e => hne e.symm)]
    exact hbk
  have d0 : w2.cell? ⟨b, 0, none⟩ = some (.pointer (some ⟨b, 0, none⟩)) := by rw [Lib.cell_of_heap hb2]; rfl
  have d1 : w2.cell? ⟨b, 1, none⟩ = some v := by rw [Lib.cell_of_heap hb2]; rfl
  have f1 : w2.frozen? ⟨b, 1, none⟩ = false := Lib.frozen_of_heap hb2 1
  obtain ⟨ao, n', cap, rfl⟩ : ∃ ao n' cap, v' = .slice ao n' cap := by
    rcases hown'.2 with ⟨hv, _⟩ | ⟨g, cap, cur, hv, _⟩
    · exact ⟨_, _, _, hv⟩
    · exact ⟨_, _, _, hv⟩
  go_wp2
  go_ret2
  refine ⟨rfl, ?_, ?_⟩
  · exact .inr (Lib.BuilderAt.put (T := 70) (e := 5) hB hb2 (bs' := bs ++ Lib.strCells s) (by simpa [Lib.strCells_length] using hown') (by decide))
  · exact (hb1.grown hgrow (by have := hb1.size; omega) (fun k hk => (hown.lt k hk).1)).setCell (p := ⟨b, 1, none⟩) hB _
theorem bytes_app (l m : List UInt8) : (⟨l.toArray⟩ ++ ⟨m.toArray⟩ : ByteArray) = ⟨(l ++ m).toArray⟩ := ByteArray.mk_append_mk l m
theorem bytes_size (l : List UInt8) : (⟨l.toArray⟩ : ByteArray).size = l.length := by simp [ByteArray.size]
theorem isB_below {T e : TypeId} {B b : Nat} {bs : List Value} {w w' : World} (h : Lib.IsBuilder T e B b bs w) (hb : Below w.heap.size w w') : Lib.IsBuilder T e B b bs w' := by
  have key : ∀ p, Lib.BuilderAt T e B b p bs w → Lib.BuilderAt T e B b p bs w' := by
    rintro p ⟨hB, v, hbk, hown, hne⟩
    exact ⟨hB, v, (hb.block b (Array.getElem?_eq_some_iff.1 hbk).1).trans hbk, own_below hown hb, hne⟩
  rcases h with h | h
  · exact .inl (key _ h)
  · exact .inr (key _ h)
def TabX (w : World) : Prop := Tab w ∧ (∃ m, w.cell? ⟨0, 0, none⟩ = some (.int .i64 m)) ∧ (∃ ev, w.cell? ⟨1, 0, none⟩ = some ev ∧ (ev = .nilIface ∨ ∃ te pe, ev = .iface te pe)) ∧ (∃ ev, w.cell? ⟨2, 0, none⟩ = some ev ∧ (ev = .nilIface ∨ ∃ te pe, ev = .iface te pe))
theorem TabX.below {w w' : World} (h : TabX w) (hb : Below w.heap.size w w') : TabX w' := by
  obtain ⟨h1, ⟨m, h2⟩, ⟨e1, h3, h4⟩, e2, h5, h6⟩ := h
  exact ⟨h1.below hb, ⟨m, (hb.cell (cell_inT h2)).trans h2⟩, ⟨e1, (hb.cell (cell_inT h3)).trans h3, h4⟩, e2, (hb.cell (cell_inT h5)).trans h5, h6⟩
theorem atV_isInt (l : List UInt8) : isInt (atV l) := by
  unfold atV
  rcases h : Lib.atoiAll l with v | _ | _
  · exact Lib.atoiAll_bounds h
  · show isInt 0; unfold isInt; omega
  · exact Lib.atoiSat_bounds l
theorem atoi_c (w : World) (hX : TabX w) (s : ByteArray) (hs : s.size ≤ 281474976710656) :
    Calls Tryz.prog 25 #[.string s] w fun e w' => ∃ ev, e = .returned (.tuple #[.int .i64 (atV s.data.toList), ev]) ∧ Below w.heap.size w w' := by
  obtain ⟨_, _, ⟨e1, h3, h4⟩, e2, h5, h6⟩ := hX
  unfold atV
  rcases h : Lib.atoiAll s.data.toList with v | _ | _
  · refine (Tryz.strconv_Atoi_ok s (by omega) v h w).mono ?_
    rintro e w' ⟨rfl, hw⟩
    refine ⟨_, rfl, ?_⟩
    rcases hw with rfl | ⟨t, rfl⟩
    · exact Below.refl _ _
    · exact Lib.bytesWorld_below _ _ _
  · refine (Tryz.strconv_Atoi_syntax s hs h e1 w h3 h4).mono ?_
    rintro e w' ⟨N, rfl, _, _, hb⟩
    exact ⟨_, rfl, hb⟩
  · refine (Tryz.strconv_Atoi_range s hs h e2 w h5 h6).mono ?_
    rintro e w' ⟨N, rfl, _, _, hb⟩
    exact ⟨_, rfl, hb⟩
theorem split_c (w : World) (hX : TabX w) (s : ByteArray) (hs : s.size ≤ 65536) :
    Calls Tryz.prog 24 #[.string s, .string ⟨#[32]⟩] w fun e w' => ∃ L : List ByteArray, L.map (fun b => b.data.toList) = wordsF s.data.toList ∧ e = .returned (.slice (some ⟨w.heap.size, 0, none⟩) L.length L.length) ∧ w' = w.alloc (.cells (L.map Value.string).toArray 9) := by
  obtain ⟨_, ⟨m, h2⟩, _⟩ := hX
  refine (Tryz.strings_Split s ⟨#[32]⟩ m w (by omega) h2 (by decide)).mono ?_
  rintro e w' ⟨rfl, rfl⟩
  have hl := Lib.splitB_all ⟨#[32]⟩ (by decide) 0 _ s rfl
  exact ⟨_, splitB_words s, by rw [hl], rfl⟩
theorem cut_c (w : World) (hX : TabX w) (s sep : ByteArray) (hs : s.size ≤ 65536) :
    Calls Tryz.prog 23 #[.string s, .string sep] w fun e w' => e = .returned (.tuple #[.string ⟨(Lib.cut s.data.toList sep.data.toList).1.toArray⟩, .string ⟨(Lib.cut s.data.toList sep.data.toList).2.1.toArray⟩, .bool (Lib.cut s.data.toList sep.data.toList).2.2]) ∧ Below w.heap.size w w' := by
  obtain ⟨_, ⟨m, h2⟩, _⟩ := hX
  refine (Tryz.strings_Cut s sep m w (by omega) h2).mono ?_
  rintro e w' ⟨rfl, k, rfl⟩
  exact ⟨rfl, below_drewN (Below.refl _ _) _⟩
theorem words_le : ∀ s : List UInt8, (wordsF s).length ≤ s.length + 1
  | [] => by simp [wordsF]
  | b :: r => by
    have ih := words_le r
    unfold wordsF
    split
    · simp; omega
    · split
      · simp
      · rename_i h; rw [h] at ih; simp at ih ⊢; omega
theorem word_le : ∀ (s w : List UInt8), w ∈ wordsF s → w.length ≤ s.length
  | [], w, h => by simp [wordsF] at h; subst h; simp
  | b :: r, w, h => by
    unfold wordsF at h
    split at h
    · rcases List.mem_cons.1 h with h | h
      · subst h; simp
      · have := word_le r w h; simp; omega
    · split at h
      · simp at h; subst h; simp
      · rename_i v ws hw
        rcases List.mem_cons.1 h with h | h
        · subst h
          have := word_le r v (by rw [hw]; simp)
          simp; omega
        · have := word_le r w (by rw [hw]; simp [h])
          simp; omega
theorem bytes_eq {s t : ByteArray} : (s.toList == t.toList) = decide (s.data.toList = t.data.toList) := by
  rw [Lib.toList_data, Lib.toList_data, Bool.eq_iff_iff, beq_iff_eq, decide_eq_true_iff]
theorem strs_alloc (w : World) (L : List ByteArray) (t : TypeId) (j : Nat) (x : ByteArray) (h : L[j]? = some x) : (w.alloc (.cells (L.map Value.string).toArray t)).cell? ⟨w.heap.size, j, none⟩ = some (.string x) := by
  rw [World.cell?_alloc_at _ _ _ _ rfl, List.getElem?_toArray, List.getElem?_map, h]
  rfl
def strV : Value → Nat
  | .string b => b.size
  | _ => 0
theorem bytes_nil {B : ByteArray} (h : B.size = 0) : B = ⟨#[]⟩ := by
  obtain ⟨⟨l⟩⟩ := B
  simp [ByteArray.size] at h
  simp [h]
theorem cut_rest_le (s sep : List UInt8) : (Lib.cut s sep).1.length ≤ s.length ∧ (Lib.cut s sep).2.1.length ≤ s.length := by
  unfold Lib.cut
  split
  · simp only [List.length_take, List.length_drop]; omega
  · simp
end Go.Proofs.YtddcamcdjkiadaaGreatDoor

namespace Go.Proofs.YtddcamcdjkiadaaGreatDoor
open Go.RowKit
set_option linter.unusedVariables false

def FrmV (w : World) (v : Value) (f : Frm) : Prop := ∃ ra n cap, v = .agg #[.bool f.1, .slice ra n cap] ∧ f.2.length = n ∧ n ≤ maxLen ∧ IntsAt w ra f.2
theorem FrmV.below {w w' : World} {v : Value} {f : Frm} (h : FrmV w v f) (hb : Below w.heap.size w w') : FrmV w' v f := by
  obtain ⟨ra, n, cap, e, hn, hm, hi⟩ := h
  exact ⟨ra, n, cap, e, hn, hm, hi.below hb⟩
def PredF (P : Program) (g : Nat) (lb : Array Value) (w : World) (p : Frm → Bool) : Prop :=
  ∀ (f : Frm) (v : Value) (W : World), Below w.heap.size w W → FrmV W v f → Calls P g (#[v] ++ lb) W fun e W' => e = .returned (.bool (p f)) ∧ Below W.heap.size W W'

theorem indexF (w : World) (a : Option Addr) (n cap : Nat) (l : List Frm) (hn : l.length = n) (hm : n ≤ maxLen) (H : FramesAt w a l) (g : Nat) (lb : Array Value) (p : Frm → Bool) (hp : PredF Tryz.prog g lb w p) (eg : ∀ args w, (callFunc g args).run Tryz.prog w = .ok (.enter g args) w) :
    Calls Tryz.prog 77 #[.slice a n cap, .func (.func g) #[] lb] w fun e w' => e = .returned (.int .i64 (idxP p l 0)) ∧ Below w.heap.size w w' := by
  have HN := hid hn
  have HH := hid H
  have HP := hid hp
  clear hn H hp
  unfold maxLen at hm
  go_enter Tryz.func77, Tryz.ntmps77
  go_wp2
  go_loopw [8] (fun i wr => ∃ k : Nat, k ≤ n ∧ i = .int .i64 k ∧ Below w.heap.size w wr ∧ ∀ i y, i < k → l[i]? = some y → p y = false) (fun i _ => n - (intOf i).toNat)
  case atStart => exact ⟨0, Nat.zero_le _, rfl, Below.refl _ _, fun i y h => by omega⟩
  case round =>
    obtain ⟨k, hk, rfl, hb, hno⟩ := hrel
    have HNO := hid hno
    clear hno
    by_cases hlt : k < n
    · have hkl : k < l.length := by rw [HN.out]; exact hlt
      obtain ⟨b, off, xa, xn, xc, rfl, hbs, h0, h1, hxn, hxm, hxi⟩ := (HH.out.below hb) k hkl
      have HK := hid (List.getElem?_eq_getElem hkl)
      obtain ⟨⟨kf, x⟩, hr⟩ : ∃ r, r = l[k]'hkl := ⟨_, rfl⟩
      rw [← hr] at h0 HK hxn hxi
      simp only [] at h0 hxn hxi
      have HC := hid (HP.out (kf, x) (.agg #[.bool kf, .slice xa xn xc]) wr hb ⟨xa, xn, xc, rfl, hxn, hxm, hxi⟩)
      obtain ⟨B, hB⟩ : ∃ B, B = p (kf, x) := ⟨_, rfl⟩
      rw [← hB] at HC
      have HBB := hid hB.symm
      clear hr hB hkl hxn hxm hxi
      go_wp2_with (refine HC.out.mono ?_; rintro e w1 ⟨rfl, hb1⟩; refine Stop.of ?_)
      refine Stop.go ?_
      cases B
      · go_wp2
        refine ⟨⟨k + 1, by omega, by go_num, chain hb hb1, ?_⟩, by simp [intOf]; omega⟩
        intro i y hi hy
        by_cases e : i = k
        · subst e; rw [HK.out] at hy; cases hy; exact HBB.out
        · exact HNO.out i y (by omega) hy
      · go_wp2
        go_ret
        refine ⟨ret_int ?_, chain hb hb1⟩
        rw [idxP_at p l 0 k _ HK.out HBB.out HNO.out]; simp
    · go_wp2
      go_ret
      refine ⟨ret_int ?_, hb⟩
      rw [idxP_neg]
      intro x hx
      obtain ⟨i, hi, e⟩ := List.getElem_of_mem hx
      exact HNO.out i x (by have := HN.out; omega) (by rw [List.getElem?_eq_getElem hi, e])

theorem containsF (w : World) (a : Option Addr) (n cap : Nat) (l : List Frm) (hn : l.length = n) (hm : n ≤ maxLen) (H : FramesAt w a l) (g : Nat) (lb : Array Value) (p : Frm → Bool) (hp : PredF Tryz.prog g lb w p) (eg : ∀ args w, (callFunc g args).run Tryz.prog w = .ok (.enter g args) w) :
    Calls Tryz.prog 46 #[.slice a n cap, .func (.func g) #[] lb] w fun e w' => e = .returned (.bool (l.any p)) ∧ Below w.heap.size w w' := by
  have HC := hid (indexF w a n cap l hn hm H g lb p hp eg)
  have HG' := hid (idxP_ge p l 0)
  clear hn H hp
  go_enter Tryz.func46, Tryz.ntmps46
  go_wp2_with (refine HC.out.mono ?_; rintro e w1 ⟨rfl, hb1⟩)
  go_ret
  refine ⟨ret_bool ?_, hb1⟩
  rw [Bool.eq_iff_iff, decide_eq_true_iff, HG'.out]

theorem vfr1 (w : World) (b : Nat) (a : Option Addr) (n cap : Nat) (M : Mask) (hn : M.length = n) (h1 : 1 ≤ n) (H : RowsAt w a M) (hb : b < w.heap.size) (hc : w.cell? ⟨b, 0, none⟩ = some (.slice a n cap)) :
    PredF Tryz.prog 47 #[.pointer (some ⟨b, 0, none⟩)] w (fun f => !frB M f) := by
  rintro ⟨kf, x⟩ v W hbw hv
  have hc' : W.cell? ⟨b, 0, none⟩ = some (.slice a n cap) := (hbw.cell (p := ⟨b, 0, none⟩) hb).trans hc
  obtain ⟨ra, rn, rc, rfl, hrn, hrm, hri⟩ := hv
  have hbx : ∀ o : Obj, Below W.heap.size W (W.alloc o) := fun o => (Below.refl _ _).alloc (Nat.le_refl _) _
  have HP := hid (fun (X : World) (hX : Below W.heap.size W X) => frv_c X kf ra a rn rc n cap M x hn h1 ((H.below hbw).below hX) hrn hrm (hri.below hX))
  show Calls _ _ #[.agg #[.bool kf, .slice ra rn rc], .pointer (some ⟨b, 0, none⟩)] W fun e W' => e = .returned (.bool (!frB M (kf, x))) ∧ Below W.heap.size W W'
  obtain ⟨A, hA⟩ : ∃ A, A = frB M (kf, x) := ⟨_, rfl⟩
  rw [← hA] at HP ⊢
  have hcz : (W.alloc (.cells #[.bool kf, .slice ra rn rc] 73)).cell? ⟨b, 0, none⟩ = some (.slice a n cap) := ((hbx _).cell (p := ⟨b, 0, none⟩) (Nat.lt_of_lt_of_le hb hbw.size)).trans hc'
  clear hA hn H hrn hri hc hbw
  have HBX := hid hbx
  clear hbx
  go_enter Tryz.func47, Tryz.ntmps47
  go_wp2_with (go_at_call 48; go_loud (refine (HP.out _ (HBX.out _)).mono ?_; rintro e w1 ⟨rfl, hb1⟩))
  go_ret
  exact ⟨rfl, chain (HBX.out _) hb1⟩

theorem svalid_c (w : World) (a : Option Addr) (n cap : Nat) (M : Mask) (hn : M.length = n) (hm : n ≤ maxLen) (H : RowsAt w a M) (a2 : Option Addr) (n2 cap2 : Nat) (fs : List Frm) (hn2 : fs.length = n2) (hm2 : n2 ≤ maxLen) (H2 : FramesAt w a2 fs) :
    Calls Tryz.prog 20 #[.slice a n cap, .slice a2 n2 cap2] w fun e w' => e = .returned (.bool (validB M fs)) ∧ Below w.heap.size w w' := by
  have hb0 : Below w.heap.size w (w.alloc (.cells #[.slice a n cap] 35)) := (Below.refl _ _).alloc (Nat.le_refl _) _
  have hmf : ∀ (fn : Fn) (first cap : Array Value) (w : World), (Instr.makeFunc fn first cap).run Tryz.prog w = .ok (.func fn first cap) w := fun _ _ _ _ => rfl
  have HV := hid (maskValid_c (w.alloc (.cells #[.slice a n cap] 35)) a n cap M hn hm (H.below hb0))
  have HB0 := hid hb0
  have HW := hid (fun X => swithin_c n2 1 60 X)
  cases hM : okM M
  · have hp : validB M fs = false := by unfold validB; rw [hM]; rfl
    rw [hM] at HV
    rw [hp]
    clear hn hn2 H H2 hM hp
    go_enter Tryz.func20, Tryz.ntmps20
    go_wp2_with (go_at_call 39; refine HV.out.mono ?_; rintro e w1 ⟨rfl, hb1⟩)
    go_ret
    exact ⟨rfl, chain HB0.out hb1⟩
  · cases hL : inB n2 1 60
    · have hp : validB M fs = false := by unfold validB; rw [hM, hn2, hL]; rfl
      rw [hM] at HV
      rw [hL] at HW
      rw [hp]
      clear hn hn2 H H2 hM hp hL
      go_enter Tryz.func20, Tryz.ntmps20
      go_wp2_with first
        | (go_at_call 39; refine HV.out.mono ?_; rintro e w1 ⟨rfl, hb1⟩)
        | (go_at_call 45; refine (HW.out _).mono ?_; rintro e w2 ⟨rfl, rfl⟩)
      go_ret
      exact ⟨rfl, chain HB0.out hb1⟩
    · have hl1 : 1 ≤ n2 := by unfold inB at hL; simp at hL; omega
      obtain ⟨fb, fo, xa, xn, xc, rfl, hfb, hf0, hf1, hxn, hxm, hxi⟩ := H2 0 (by omega)
      rw [Nat.zero_mul, Nat.add_zero] at hf0 hf1
      obtain ⟨K, hK⟩ : ∃ K, K = (fs[0]'(by omega)).1 := ⟨_, rfl⟩
      rw [← hK] at hf0
      have hK2 : (fs[0]?.getD (false, [])).1 = K := by rw [hK, List.getElem?_eq_getElem (by omega)]; rfl
      have i0 : (0 : Int) < (n2 : Int) := by omega
      have HF0 := hid (show ∀ X : World, Below w.heap.size w X → X.cell? ⟨fb, fo, none⟩ = some (.bool K) from fun X hX => (hX.cell (p := ⟨fb, _, none⟩) hfb).trans hf0)
      have hp : validB M fs = (K && !(fs.any (fun x => !frB M x))) := by unfold validB; rw [hM, hn2, hL, hK2, List.all_eq_not_any_not]; rfl
      have h1 : 1 ≤ n := by rw [← hn]; exact (okM_ok hM).2.1
      have HC := hid (fun (X : World) (hX : Below w.heap.size w X) (hs : w.heap.size < X.heap.size) (hc : X.cell? ⟨w.heap.size, 0, none⟩ = some (.slice a n cap)) =>
        containsF X (some ⟨fb, fo, none⟩) n2 cap2 fs hn2 hm2 (H2.below hX) 47 #[.pointer (some ⟨w.heap.size, 0, none⟩)] _ (vfr1 X w.heap.size a n cap M hn h1 (H.below hX) hs hc) (enters_of Tryz.func47 (by kernel_rfl) rfl))
      rw [hM] at HV
      rw [hL] at HW
      rw [hp]
      obtain ⟨A, hA⟩ : ∃ A, A = fs.any (fun x => !frB M x) := ⟨_, rfl⟩
      rw [← hA] at HC ⊢
      clear hn hn2 H H2 hM hp hL hA hK hK2 hf0 hf1 hxn hxm hxi hfb
      cases K
      all_goals
        go_enter Tryz.func20, Tryz.ntmps20
        go_wp2_with first
          | (go_at_call 39; refine HV.out.mono ?_; rintro e w1 ⟨rfl, hb1⟩; have hf := HF0.out w1 (chain HB0.out hb1))
          | (go_at_call 45; refine (HW.out _).mono ?_; rintro e w2 ⟨rfl, rfl⟩)
          | (go_at_call 46; refine (HC.out _ (chain HB0.out hb1) (Nat.lt_of_lt_of_le (by simp) hb1.size) ((hb1.cell (p := ⟨w.heap.size, 0, none⟩) (by simp)).trans (by rw [World.cell?_alloc_at _ _ _ _ rfl]; rfl))).mono ?_; rintro e w3 ⟨rfl, hb3⟩)
        go_ret
        first
          | exact ⟨rfl, chain HB0.out hb1⟩
          | exact ⟨rfl, chain (chain HB0.out hb1) hb3⟩
end Go.Proofs.YtddcamcdjkiadaaGreatDoor

namespace Go.Proofs.YtddcamcdjkiadaaGreatDoor
open Go.RowKit
set_option linter.unusedVariables false

theorem s8Ints_c (w : World) (a a2 : Option Addr) (n cap n2 cap2 : Nat) (l l2 : List Int) (hn : l.length = n) (hn2 : l2.length = n2) (hm : n ≤ maxLen) (hm2 : n2 ≤ maxLen) (H : IntsAt w a l) (H2 : IntsAt w a2 l2) :
    Calls Tryz.prog 38 #[.slice a n cap, .slice a2 n2 cap2] w fun e w' => e = .returned (.bool (decide (l = l2))) ∧ ∃ k, w' = w.drewN k := by
  have HN := hid hn
  have HN2 := hid hn2
  have HH := hid H
  have HH2 := hid H2
  clear hn hn2 H H2
  unfold maxLen at hm hm2
  by_cases hl : n = n2
  · have hd : ((n : Int) != (n2 : Int)) = false := by simp [hl]
    have HL := hid hl
    clear hl
    go_enter Tryz.func38, Tryz.ntmps38
    go_wp2
    go_loopw [13] (fun i wr => ∃ k : Nat, k ≤ n ∧ i = .int .i64 k ∧ (∃ q, wr = w.drewN q) ∧ ∀ j (hj : j < l.length) (hj2 : j < l2.length), j < k → l[j] = l2[j]) (fun i _ => n - (intOf i).toNat)
    case atStart => exact ⟨0, Nat.zero_le _, rfl, ⟨0, rfl⟩, fun i _ _ h => by omega⟩
    case round =>
      obtain ⟨k, hk, rfl, ⟨q, rfl⟩, hno⟩ := hrel
      have HNO := hid hno
      clear hno
      by_cases hlt : k < n
      · have hkl : k < l.length := by rw [HN.out]; exact hlt
        have hkl2 : k < l2.length := by rw [HN2.out, ← HL.out]; exact hlt
        obtain ⟨b, off, rfl, hbs, hc⟩ := HH.out k hkl
        obtain ⟨b2, off2, rfl, hbs2, hc2⟩ := HH2.out k hkl2
        have hg : l[k]?.getD 0 = l[k] := by rw [List.getElem?_eq_getElem hkl]; rfl
        have hg2 : l2[k]?.getD 0 = l2[k] := by rw [List.getElem?_eq_getElem hkl2]; rfl
        rw [hg] at hc
        rw [hg2] at hc2
        have hlt2 : k < n2 := by have := HL.out; omega
        have HKL := hid hkl
        have HKL2 := hid hkl2
        clear hg hg2
        by_cases he : l[k] = l2[k]
        · have hb : (l[k] != l2[k]) = false := by simp [he]
          have HE := hid he
          clear he
          go_wp2
          go_quiet (fail)
          go_wp2
          refine ⟨⟨k + 1, by omega, by go_num, ⟨_, rfl⟩, fun j hj hj2 hjk => ?_⟩, by simp [intOf]; omega⟩
          by_cases e : j = k
          · subst e; exact HE.out
          · exact HNO.out j hj hj2 (by omega)
        · have hb : (l[k] != l2[k]) = true := by simp [he]
          have HE := hid he
          clear he
          go_wp2
          go_quiet (fail)
          go_wp2
          go_ret
          refine ⟨ret_bool ?_, q + nq, drewN_add _ _ _⟩
          symm
          rw [decide_eq_false_iff_not]
          rintro rfl
          exact HE.out rfl
      · go_wp2
        go_ret
        refine ⟨ret_bool ?_, _, rfl⟩
        symm
        rw [decide_eq_true_iff]
        have h1 := HN.out
        have h2 := HN2.out
        have h3 := HL.out
        exact List.ext_getElem (by omega) fun i g1 g2 => HNO.out i g1 g2 (by omega)
  · have hd : ((n : Int) != (n2 : Int)) = true := by simp; omega
    have HL := hid hl
    clear hl
    go_enter Tryz.func38, Tryz.ntmps38
    go_wp2
    go_ret
    refine ⟨ret_bool ?_, 0, rfl⟩
    symm
    rw [decide_eq_false_iff_not]
    rintro rfl
    exact HL.out (HN.out.symm.trans HN2.out)

set_option maxHeartbeats 2000000 in
theorem s8Frames_c (w : World) (a a2 : Option Addr) (n cap n2 cap2 : Nat) (A B : List Frm) (hn : A.length = n) (hn2 : B.length = n2) (hm : n ≤ maxLen) (hm2 : n2 ≤ maxLen) (H : FramesAt w a A) (H2 : FramesAt w a2 B) :
    Calls Tryz.prog 17 #[.slice a n cap, .slice a2 n2 cap2] w fun e w' => e = .returned (.bool (decide (A = B))) ∧ ∃ k, w' = w.drewN k := by
  have HN := hid hn
  have HN2 := hid hn2
  have HH := hid H
  have HH2 := hid H2
  clear hn hn2 H H2
  unfold maxLen at hm hm2
  by_cases hl : n = n2
  · have hd : ((n : Int) != (n2 : Int)) = false := by simp [hl]
    have HL := hid hl
    clear hl
    go_enter Tryz.func17, Tryz.ntmps17
    go_wp2
    go_loopw [13] (fun i wr => ∃ k : Nat, k ≤ n ∧ i = .int .i64 k ∧ (∃ q, wr = w.drewN q) ∧ ∀ j (hj : j < A.length) (hj2 : j < B.length), j < k → A[j] = B[j]) (fun i _ => n - (intOf i).toNat)
    case atStart => exact ⟨0, Nat.zero_le _, rfl, ⟨0, rfl⟩, fun i _ _ h => by omega⟩
    case round =>
      obtain ⟨k, hk, rfl, hq, hno⟩ := hrel
      have hbw : Below w.heap.size w wr := by obtain ⟨q, rfl⟩ := hq; exact below_drewN (Below.refl _ _) q
      have HQ := hid hq
      have HNO := hid hno
      clear hno hq
      by_cases hlt : k < n
      · have hkl : k < A.length := by rw [HN.out]; exact hlt
        have hkl2 : k < B.length := by rw [HN2.out, ← HL.out]; exact hlt
        obtain ⟨b, off, ra, rn, rc, rfl, hbs, hc0, hc, hrn, hrm, hri⟩ := (HH.out.below hbw) k hkl
        obtain ⟨b', off', ra', rn', rc', rfl, hbs', hc0', hc', hrn', hrm', hri'⟩ := (HH2.out.below hbw) k hkl2
        obtain ⟨⟨p, x⟩, hp⟩ : ∃ r, r = A[k]'hkl := ⟨_, rfl⟩
        obtain ⟨⟨q, y⟩, hq⟩ : ∃ r, r = B[k]'hkl2 := ⟨_, rfl⟩
        rw [← hp] at hc0 hrn hri
        rw [← hq] at hc0' hrn' hri'
        simp only [] at hc0 hrn hri hc0' hrn' hri'
        have HI := hid (fun q2 => s8Ints_c (wr.drewN q2) ra ra' rn rc rn' rc' x y hrn hrn' hrm hrm' (hri.below (below_drewN (Below.refl _ _) q2)) (hri'.below (below_drewN (Below.refl _ _) q2)))
        have hlt2 : k < n2 := by have := HL.out; omega
        have HKL := hid hkl
        have HKL2 := hid hkl2
        have HP := hid hp
        have HQQ := hid hq
        clear hri hri' hrn hrn' hp hq
        by_cases hpq : p = q
        · have hb : (!(p == q)) = false := by simp [hpq]
          have HPQ := hid hpq
          clear hpq
          by_cases he : x = y
          · have HE := hid he
            have HS := hid (fun q2 => (HI.out q2).mono fun e w' ⟨h1, h2⟩ => show e = Ending.returned (.bool true) ∧ ∃ k, w' = (wr.drewN q2).drewN k from ⟨h1.trans (ret_bool (decide_eq_true he)), h2⟩)
            clear he HI
            go_wp2
            go_quiet ((go_at_call 38; exact Calls.quiet_of (HS.out _)))
            go_wp2
            refine ⟨⟨k + 1, by omega, by go_num, (by obtain ⟨q, e⟩ := HQ.out; exact ⟨_, by rw [e, drewN_add]⟩), fun j hj hj2 hjk => ?_⟩, by simp [intOf]; omega⟩
            by_cases e : j = k
            · subst e; exact HP.out.symm.trans ((Prod.ext HPQ.out HE.out).trans HQQ.out)
            · exact HNO.out j hj hj2 (by omega)
          · have HE := hid he
            have HS := hid (fun q2 => (HI.out q2).mono fun e w' ⟨h1, h2⟩ => show e = Ending.returned (.bool false) ∧ ∃ k, w' = (wr.drewN q2).drewN k from ⟨h1.trans (ret_bool (decide_eq_false he)), h2⟩)
            clear he HI
            go_wp2
            go_quiet ((go_at_call 38; exact Calls.quiet_of (HS.out _)))
            go_wp2
            go_ret
            refine ⟨ret_bool ?_, (by obtain ⟨q, e⟩ := HQ.out; exact ⟨_, by rw [e, drewN_add]⟩)⟩
            symm
            rw [decide_eq_false_iff_not]
            intro h
            subst h
            exact HE.out (congrArg Prod.snd (HP.out.trans HQQ.out.symm))
        · have hb : (!(p == q)) = true := by simp [hpq]
          have HPQ := hid hpq
          clear hpq HI
          go_wp2
          go_quiet (fail)
          go_wp2
          go_ret
          refine ⟨ret_bool ?_, (by obtain ⟨q, e⟩ := HQ.out; exact ⟨_, by rw [e, drewN_add]⟩)⟩
          symm
          rw [decide_eq_false_iff_not]
          intro h
          subst h
          exact HPQ.out (congrArg Prod.fst (HP.out.trans HQQ.out.symm))
      · go_wp2
        go_ret
        refine ⟨ret_bool ?_, HQ.out⟩
        symm
        rw [decide_eq_true_iff]
        have h1 := HN.out
        have h2 := HN2.out
        have h3 := HL.out
        exact List.ext_getElem (by omega) fun i g1 g2 => HNO.out i g1 g2 (by omega)
  · have hd : ((n : Int) != (n2 : Int)) = true := by simp; omega
    have HL := hid hl
    clear hl
    go_enter Tryz.func17, Tryz.ntmps17
    go_wp2
    go_ret
    refine ⟨ret_bool ?_, 0, rfl⟩
    symm
    rw [decide_eq_false_iff_not]
    rintro rfl
    exact HL.out (HN.out.symm.trans HN2.out)

end Go.Proofs.YtddcamcdjkiadaaGreatDoor

namespace Go.Proofs.YtddcamcdjkiadaaGreatDoor
open Go.RowKit
set_option linter.unusedVariables false

def addF (r b : List Int) : List Int := (List.range r.length).map (fun i => vec r i + vec b i)
theorem addF_len (r b : List Int) : (addF r b).length = r.length := by simp [addF]
def wholeV (M : Mask) (y : List Int) (k : Int) : Option (List Int) := if countE M y k = 0 then (match wholeF M y k.toNat with | [r] => some r | _ => none) else none
def nextF (M : Mask) (k : Int) (before : Option (List Int)) (f : Frm) : Option (List Int) :=
  if f.2.length = 0 then none else if f.1 = true then some f.2 else
    match before with
    | none => none
    | some b => match wholeV M f.2 k with
      | none => none
      | some r => if picB M (addF r b) = true then some (addF r b) else none
def decAt (M : Mask) (k : Int) (fs : List Frm) : Nat → Option (List Int)
  | 0 => none
  | j + 1 => nextF M k (decAt M k fs j) (fs[j]?.getD (false, []))
def encAt (M : Mask) (p : List (List Int)) (every : Nat) (i : Nat) : Frm :=
  if i % every = 0 then (true, p[i]?.getD []) else (false, readV M (changeF (p[i - 1]?.getD []) (p[i]?.getD [])))
def encF (M : Mask) (p : List (List Int)) (every : Nat) : List Frm := (List.range p.length).map (encAt M p every)
theorem encF_len (M : Mask) (p : List (List Int)) (every : Nat) : (encF M p every).length = p.length := by simp [encF]
theorem encF_take (M : Mask) (p : List (List Int)) (every : Nat) {k : Nat} (hk : k < p.length) : (encF M p every).take (k + 1) = (encF M p every).take k ++ [encAt M p every k] := by
  have hc : k < (encF M p every).length := by rw [encF_len]; exact hk
  rw [List.take_succ_eq_append_getElem hc]
  simp [encF]
def rightF (M : Mask) (p : List (List Int)) (every : Nat) (k : Int) : Bool := (List.range p.length).all fun j => decide (decAt M k (encF M p every) (j + 1) = some (p[j]?.getD []))
theorem readM_V {M : Mask} {x : List Int} (hM : okM M = true) (hx : BndL 67108864 x) : readM M x = readV M x := by
  obtain ⟨h, _, _, _, h10⟩ := okM_ok hM
  unfold readM readV
  apply List.map_congr_left
  intro r hr
  refine dotW_dotV (fun v hv => ?_) hx (by rw [h.wid r hr]; omega)
  obtain ⟨i, hi, rfl⟩ := List.getElem_of_mem hv
  have := h.one r hr i
  rw [vec_lt hi] at this
  omega
theorem change_bnd {M : Mask} {x y : List Int} (hx : picB M x = true) (hy : picB M y = true) : (changeF x y).length = colsM M ∧ ∀ v ∈ changeF x y, -2000 ≤ v ∧ v ≤ 2000 := by
  unfold picB at hx hy
  simp only [Bool.and_eq_true, decide_eq_true_eq, List.all_eq_true] at hx hy
  refine ⟨by rw [changeF_len]; exact hy.1, fun v hv => ?_⟩
  unfold changeF at hv
  obtain ⟨i, hi, rfl⟩ := List.mem_map.1 hv
  have h1 := vec_mem (P := fun v => -1000 ≤ v ∧ v ≤ 1000) (by omega) (fun v hv => by have := hx.2 v hv; unfold inB at this; simpa using this) i
  have h2 := vec_mem (P := fun v => -1000 ≤ v ∧ v ≤ 1000) (by omega) (fun v hv => by have := hy.2 v hv; unfold inB at this; simpa using this) i
  omega

theorem info_frame : (Tryz.prog.info? 73).map (fun i => (i.zero, i.size, i.bytes)) = some (some (.agg #[.bool false, .slice none 0 0]), 2, 32) := by kernel_rfl

def FrmsO (W : World) (base : Nat) (S : Nat → Prop) (v : Value) (T : List Frm) : Prop :=
  ∃ xs, W.ownsRow base 73 2 v T.length xs ∧ (∀ k, v.ownBlock = some k → S k) ∧ ∀ j (hj : j < T.length), xs[j * 2]? = some (.bool T[j].1) ∧ ∃ u, xs[j * 2 + 1]? = some u ∧ ElemI 3 W base S u T[j].2
theorem FrmsO.nil (W : World) (base : Nat) (S : Nat → Prop) : FrmsO W base S (.slice none 0 0) [] := ⟨[], World.ownsRow_nil _ _ _ _, fun k hk => by simp [Value.ownBlock] at hk, fun j hj => by simp at hj⟩
theorem FrmsO.slice {W : World} {base : Nat} {S : Nat → Prop} {v : Value} {T : List Frm} (h : FrmsO W base S v T) : ∃ a c, v = .slice a T.length c := by
  obtain ⟨xs, ho, _⟩ := h; exact ownsRow_slice ho
theorem FrmsO.keep {W W' : World} {base : Nat} {S S' K : Nat → Prop} {v : Value} {T : List Frm} (h : FrmsO W base S v T) (hk : Keep K W W') (hS : ∀ b, S b → b < W.heap.size → K b ∧ S' b) : FrmsO W' base S' v T := by
  obtain ⟨xs, ho, hg, he⟩ := h
  refine ⟨xs, ⟨ho.1, ?_⟩, fun k hk' => ?_, fun j hj => ?_⟩
  · rcases ho.2 with hn | ⟨g, cap, cur, rfl, hb, hgg, rest⟩
    · exact .inl hn
    · have hlt := (Array.getElem?_eq_some_iff.1 hgg).1
      exact .inr ⟨g, cap, cur, rfl, hb, (hk.block g hlt (hS g (hg g rfl) hlt).1).trans hgg, rest⟩
  · rcases ho.2 with ⟨rfl, _⟩ | ⟨g, cap, cur, rfl, hb, hgg, rest⟩
    · simp [Value.ownBlock] at hk'
    · obtain rfl : g = k := by simpa [Value.ownBlock] using hk'
      exact (hS g (hg g rfl) (Array.getElem?_eq_some_iff.1 hgg).1).2
  · obtain ⟨h1, u, hu, a, n, cap, e, hn, hm, hel⟩ := he j hj
    refine ⟨h1, u, hu, a, n, cap, e, hn, hm, fun i hi => ?_⟩
    obtain ⟨b, off, e, hSb, hb, hty, hc⟩ := hel i hi
    have hh := hS b hSb hb
    refine ⟨b, off, e, hh.2, Nat.lt_of_lt_of_le hb hk.size, ?_, hk.cell hc hh.1⟩
    rcases hty with h | ⟨c, f, h⟩
    · exact .inl h
    · exact .inr ⟨c, f, (hk.block b hb hh.1).trans h⟩
theorem FrmsO.below {W W' : World} {base : Nat} {S : Nat → Prop} {v : Value} {T : List Frm} (h : FrmsO W base S v T) (hb : Below W.heap.size W W') : FrmsO W' base S v T :=
  h.keep (Keep.of_below hb : Keep (fun _ => True) _ _) (fun _ h _ => ⟨trivial, h⟩)
theorem FrmsO.reads {W : World} {base : Nat} {S : Nat → Prop} {v : Value} {T : List Frm} (h : FrmsO W base S v T) : ∃ a cap, v = .slice a T.length cap ∧ T.length ≤ maxLen ∧ FramesAt W a T := by
  obtain ⟨xs, ho, hg, he⟩ := h
  rcases ho.2 with ⟨rfl, h0⟩ | ⟨g, cap, cur, rfl, hbg, hgg, hnc, hcm, hsz, htk⟩
  · exact ⟨none, 0, by rw [h0], by rw [h0]; decide, fun j hj => by omega⟩
  · refine ⟨_, cap, rfl, by omega, fun j hj => ?_⟩
    obtain ⟨h1, u, h2, h3⟩ := he j hj
    have hc : ∀ i, i < T.length * 2 → W.cell? ⟨g, i, none⟩ = xs[i]? := fun i hi =>
      World.ownsRow.cellAt (w := W) (base := base) (e := 73) (size := 2) (g := g) (n := T.length) (cap := cap) (xs := xs) ⟨ho.1, .inr ⟨g, cap, cur, rfl, hbg, hgg, hnc, hcm, hsz, htk⟩⟩ i hi
    obtain ⟨sa, sn, sc, rfl, _⟩ := id h3
    obtain ⟨k1, k2, k3⟩ := h3.ints
    exact ⟨g, 0, sa, sn, sc, rfl, (Array.getElem?_eq_some_iff.1 hgg).1, by rw [Nat.zero_add, hc _ (by omega)]; exact h1, by rw [Nat.zero_add, hc _ (by omega)]; exact h2, k1, k2, k3⟩
theorem FrmsO.snoc {W w1 w2 : World} {base : Nat} {S : Nat → Prop} {v v' u : Value} {T : List Frm} {f : Frm} {xs : List Value}
    (ho : W.ownsRow base 73 2 v T.length xs) (he : ∀ j (hj : j < T.length), xs[j * 2]? = some (.bool T[j].1) ∧ ∃ u, xs[j * 2 + 1]? = some u ∧ ElemI 3 W base S u T[j].2)
    (h2 : ElemI 3 W base S u f.2)
    (hW1 : Below W.heap.size W w1) (hg : w1.grownBy w2 v.ownBlock) (ho' : w2.ownsRow base 73 2 v' (T.length + 1) (xs ++ [.bool f.1, u])) (hS' : ∀ k, v'.ownBlock = some k → S k) : FrmsO w2 base S v' (T ++ [f]) := by
  have hlen : xs.length = T.length * 2 := ho.1
  have hgb : ∀ b, (b < base ∨ ∃ c f, W.heap[b]? = some (.cells c 3 f)) → b < W.heap.size → w2.heap[b]? = W.heap[b]? := by
    intro b hty hb
    refine (hg.block b (Nat.lt_of_lt_of_le hb hW1.size) ?_).trans (hW1.block b hb)
    rcases ho.2 with ⟨rfl, _⟩ | ⟨g, cap, cur, rfl, hbg, hgg, _⟩
    · simp [Value.ownBlock]
    · intro e
      obtain rfl : b = g := by simpa [Value.ownBlock] using e
      rcases hty with h | ⟨c, f, h⟩
      · omega
      · rw [h] at hgg; cases hgg
  have hel : ∀ u l, ElemI 3 W base S u l → ElemI 3 w2 base S u l := by
    intro u l h
    refine h.keep (T := fun b => b < W.heap.size ∧ (b < base ∨ ∃ c f, W.heap[b]? = some (.cells c 3 f))) ⟨hg.os.trans hW1.os, hg.tape.trans hW1.tape, hg.output.trans hW1.output, Nat.le_trans hW1.size hg.size, fun k hk hT => hgb k hT.2 hk⟩ fun b _ hb hty => ⟨hb, hty⟩
  refine ⟨xs ++ [.bool f.1, u], by rw [List.length_append]; exact ho', hS', fun j hj => ?_⟩
  by_cases e : j < T.length
  · obtain ⟨k1, u', k2, k3⟩ := he j e
    refine ⟨by rw [List.getElem?_append_left (by omega), List.getElem_append_left e]; exact k1, u', by rw [List.getElem?_append_left (by omega)]; exact k2, ?_⟩
    rw [List.getElem_append_left e]; exact hel _ _ k3
  · have : j = T.length := by simp at hj; omega
    subst this
    refine ⟨by rw [List.getElem?_append_right (by omega), hlen]; simp, u, by rw [List.getElem?_append_right (by omega), hlen, show T.length * 2 + 1 - T.length * 2 = 1 by omega]; rfl, ?_⟩
    simp only [List.getElem_append_right (Nat.le_refl _), Nat.sub_self, List.getElem_cons_zero]; exact hel _ _ h2
end Go.Proofs.YtddcamcdjkiadaaGreatDoor

namespace Go.Proofs.YtddcamcdjkiadaaGreatDoor
set_option linter.unusedVariables false

theorem sm_le {f : Nat → Int} {B : Nat} (h : ∀ c, -(B : Int) ≤ f c ∧ f c ≤ B) : ∀ n : Nat, -((n * B : Nat) : Int) ≤ sm f n ∧ sm f n ≤ ((n * B : Nat) : Int)
  | 0 => by simp [sm]
  | n + 1 => by
    have h1 := sm_le h n
    have h2 := h n
    simp only [sm]
    rw [Nat.add_mul, Nat.one_mul]
    omega
theorem dotV_le {r x : List Int} {B : Nat} (hr : ∀ c, -1 ≤ vec r c ∧ vec r c ≤ 1) (hx : ∀ v ∈ x, -(B : Int) ≤ v ∧ v ≤ B) : -((r.length * B : Nat) : Int) ≤ dotV r x ∧ dotV r x ≤ ((r.length * B : Nat) : Int) := by
  unfold dotV
  refine sm_le (fun c => ?_) _
  have h1 := hr c
  have h2 := vec_mem (P := fun v => -(B : Int) ≤ v ∧ v ≤ B) (by omega) hx c
  rcases (by omega : vec r c = -1 ∨ vec r c = 0 ∨ vec r c = 1) with h | h | h <;> rw [h] <;> omega
theorem readV_mil {M : Mask} {x : List Int} (hM : okM M = true) (hx : ∀ v ∈ x, -2000 ≤ v ∧ v ≤ 2000) : milB (readV M x) = true ∧ (readV M x).length = M.length := by
  obtain ⟨h, _, _, _, h10⟩ := okM_ok hM
  refine ⟨?_, by simp [readV]⟩
  unfold milB
  rw [List.all_eq_true]
  intro v hv
  unfold readV at hv
  obtain ⟨r, hr, rfl⟩ := List.mem_map.1 hv
  have := dotV_le (B := 2000) (h.one r hr) (by intro v hv; have := hx v hv; omega)
  rw [h.wid r hr] at this
  unfold inB
  have h2 : colsM M * 2000 ≤ 10 * 2000 := Nat.mul_le_mul_right _ h10
  simp only [Bool.and_eq_true, decide_eq_true_eq]
  omega
theorem picsB_ok {M : Mask} {p : List (List Int)} (h : picsB M p = true) : okM M = true ∧ 1 ≤ p.length ∧ p.length ≤ 60 ∧ ∀ x ∈ p, picB M x = true := by
  unfold picsB inB at h
  simp only [Bool.and_eq_true, decide_eq_true_eq, List.all_eq_true] at h
  exact ⟨h.1.1, by omega, by omega, h.2⟩
theorem picsB_get {M : Mask} {p : List (List Int)} (h : picsB M p = true) {i : Nat} (hi : i < p.length) : picB M (p[i]?.getD []) = true := by
  rw [List.getElem?_eq_getElem hi]; exact (picsB_ok h).2.2.2 _ (List.getElem_mem hi)
theorem frB_enc {M : Mask} {p : List (List Int)} (h : picsB M p = true) (every : Nat) {i : Nat} (hi : i < p.length) : frB M (encAt M p every i) = true := by
  obtain ⟨hM, h1, h60, hp⟩ := picsB_ok h
  have hpi := picsB_get h hi
  unfold encAt
  split
  · unfold frB; simp [hpi]
  · have hpp := picsB_get h (i := i - 1) (by omega)
    obtain ⟨hl, hb⟩ := change_bnd hpp hpi
    obtain ⟨h3, h4⟩ := readV_mil hM hb
    unfold frB
    simp [h3, h4]
theorem encF_valid {M : Mask} {p : List (List Int)} (h : picsB M p = true) (every : Nat) : validB M (encF M p every) = true := by
  obtain ⟨hM, h1, h60, hp⟩ := picsB_ok h
  have h0 : (encF M p every)[0]?.getD (false, []) = encAt M p every 0 := by
    unfold encF; rw [List.getElem?_map, List.getElem?_range h1]; rfl
  unfold validB
  rw [hM, encF_len, h0]
  simp only [Bool.true_and, Bool.and_eq_true, List.all_eq_true]
  refine ⟨⟨by unfold inB; simp; omega, by unfold encAt; simp⟩, fun f hf => ?_⟩
  unfold encF at hf
  obtain ⟨i, hi, rfl⟩ := List.mem_map.1 hf
  exact frB_enc h every (List.mem_range.1 hi)
end Go.Proofs.YtddcamcdjkiadaaGreatDoor

namespace Go.Proofs.YtddcamcdjkiadaaGreatDoor
open Go.RowKit
set_option linter.unusedVariables false

theorem AnyT.next2 {P : Program} {md : Region.Mode} {ops : Array Oper} {Q : Exit → Act → World → Prop} {T : Nat → World → Prop} {i j : Nat} {fuel : Nat} {listed : Array Bool} {a : Act} {w : World} (hr : Region.ready md ops listed = [i, j])
    (h1 : wpOp P ops Q i (fun a' w' => T i w' ∧ AnyT P md ops Q T fuel (listed.setIfInBounds i true) a' w') a w)
    (h2 : wpOp P ops Q j (fun a' w' => T j w' ∧ AnyT P md ops Q T fuel (listed.setIfInBounds j true) a' w') a w) : AnyT P md ops Q T (fuel + 1) listed a w :=
  ⟨fun h0 => (by rw [hr] at h0; cases h0), fun k hk => by
    rw [hr] at hk
    have : k = i ∨ k = j := by simpa using hk
    rcases this with rfl | rfl
    · exact h1
    · exact h2⟩

theorem news2 (w : World) (x0 x1 : Value) (T : TypeId) : ∀ ad, (some ⟨w.heap.size, 0, none⟩ : Option Addr) = some ad → ∀ j u, [x0, x1][j]? = some u → (w.alloc (.cells #[x0, x1] T)).cell? (ad.add j) = some u := by
  intro ad e j u hu
  cases e
  match j, hu with
  | 0, hu => rw [Addr.add_lit, World.cell?_alloc_at _ _ _ _ rfl]; simpa using hu
  | 1, hu => rw [Addr.add_lit, World.cell?_alloc_at _ _ _ _ rfl]; simpa using hu
theorem frm_one (k : Bool) (a : Option Addr) (n c : Nat) : ∀ u ∈ [Value.bool k, .slice a n c], u.oneCell' = true := by
  intro u hu; simp at hu; rcases hu with rfl | rfl <;> rfl

theorem ElemI.free {E : TypeId} {W : World} {base : Nat} {S : Nat → Prop} {v : Value} {l : List Int} (h : ElemI E W base S v l) : ElemI E W base (fun _ => True) v l := by
  obtain ⟨a, n, cap, e, hn, hm, hel⟩ := h
  refine ⟨a, n, cap, e, hn, hm, fun i hi => ?_⟩
  obtain ⟨b, off, e, _, rest⟩ := hel i hi
  exact ⟨b, off, e, trivial, rest⟩
theorem shownE_change {M : Mask} {y x : List Int} (hM : okM M = true) (h : (changeF y x).length = colsM M ∧ ∀ v ∈ changeF y x, -2000 ≤ v ∧ v ≤ 2000) : shownE M (changeF y x) = 0 := by
  unfold shownE
  rw [if_pos hM, if_pos h.1, if_pos]
  rw [List.all_eq_true]
  intro v hv
  have := h.2 v hv
  unfold inB
  simp only [Bool.and_eq_true, decide_eq_true_eq]
  omega
theorem set2_block {w : World} {b : Nat} {a0 a1 v0 v1 : Value} {T : TypeId} (h : w.heap[b]? = some (.cells #[a0, a1] T (0, 0))) : ((w.setCell ⟨b, 0, none⟩ v0).setCell ⟨b, 1, none⟩ v1).heap[b]? = some (.cells #[v0, v1] T (0, 0)) := by
  rw [cells_set (cells_set h 0 v0) 1 v1]; rfl
theorem box2_facts {w : World} {b : Nat} {a0 a1 : Value} {T : TypeId} (h : w.heap[b]? = some (.cells #[a0, a1] T (0, 0))) :
    w.cell? ⟨b, 0, none⟩ = some a0 ∧ w.cell? ⟨b, 1, none⟩ = some a1 ∧ w.frozen? ⟨b, 0, none⟩ = false ∧ w.frozen? ⟨b, 1, none⟩ = false ∧ b < w.heap.size :=
  ⟨by simp [World.cell?, h], by simp [World.cell?, h], by simp [World.frozen?, h], by simp [World.frozen?, h], (Array.getElem?_eq_some_iff.1 h).1⟩
theorem own_set {w : World} {base : Nat} {T : TypeId} {k n : Nat} {v : Value} {xs : List Value} (h : w.ownsRow base T k v n xs) {b o : Nat} (u : Value) (hne : ∀ g, v.ownBlock = some g → g ≠ b) : (w.setCell ⟨b, o, none⟩ u).ownsRow base T k v n xs := by
  refine ⟨h.1, ?_⟩
  rcases h.2 with hn | ⟨g, cap, cur, rfl, hbg, hgg, rest⟩
  · exact .inl hn
  · exact .inr ⟨g, cap, cur, rfl, hbg, (Below.heap_setCell _ _ _ _ (hne g rfl)).trans hgg, rest⟩
theorem own_mono {w : World} {base base' : Nat} {T : TypeId} {k n : Nat} {v : Value} {xs : List Value} (h : w.ownsRow base T k v n xs) (hb : base' ≤ base) : w.ownsRow base' T k v n xs :=
  ⟨h.1, h.2.imp id fun ⟨g, cap, cur, h1, h2, h3⟩ => ⟨g, cap, cur, h1, Nat.le_trans hb h2, h3⟩⟩
def EncR (k E : Nat) (KB : Bool) (xa : Option Addr) (xn xc : Nat) (x : List Int) (wr : World) (fr fr' : Act) (w' : World) : Prop :=
  ∃ ca cc fb, fr' = ((((((((fr.put (some 18) (.int .i64 k)).put (some 19) (.int .i64 E)).put (some 20) (.int .i64 ((k : Int) % (E : Int)))).put (some 21) (.bool KB)).put (some 22) (.slice xa xn xc)).put (some 23) (.slice ca xn cc)).put (some 24) (.agg #[.bool KB, .slice ca xn cc])).put (some 10) (.pointer (some ⟨fb, 0, none⟩))) ∧
    w'.heap[fb]? = some (.cells #[.bool KB, .slice ca xn cc] 73 (0, 0)) ∧ wr.heap.size ≤ fb ∧ w'.ownsRow wr.heap.size 3 1 (.slice ca xn cc) xn (x.map (Value.int .i64)) ∧ Below wr.heap.size wr w'

set_option maxRecDepth 100000 in
set_option maxHeartbeats 4000000 in
theorem encode_c (w : World) (a a2 : Option Addr) (n cap n2 cap2 : Nat) (M : Mask) (p : List (List Int)) (E : Nat) (hn : M.length = n) (hn2 : p.length = n2) (hm : n ≤ maxLen) (H : RowsAt w a M) (H2 : RowsAt w a2 p) (hP : picsB M p = true) (hE : 1 ≤ E) (hE2 : E ≤ 60) :
    Calls Tryz.prog 65 #[.slice a n cap, .slice a2 n2 cap2, .int .i64 E] w fun e w' => ∃ v, e = .returned v ∧ FrmsO w' w.heap.size (fun _ => True) v (encF M p E) ∧ Below w.heap.size w w' := by
  obtain ⟨hM, hp1, hp60, hpp⟩ := picsB_ok hP
  have HN2 := hid hn2
  have HH2 := hid H2
  have HCT := hid (fun (k : Nat) (hk : k < p.length) => encF_take M p E hk)
  have HCL := hid (show (encF M p E).length = n2 by rw [encF_len, hn2])
  have HEA := hid (show ∀ k, encAt M p E k = if k % E = 0 then (true, p[k]?.getD []) else (false, readV M (changeF (p[k - 1]?.getD []) (p[k]?.getD []))) from fun k => rfl)
  have HPG := hid (fun (i : Nat) (hi : i < p.length) => pic_bnd (picsB_get hP hi))
  have HCB := hid (fun (i : Nat) (hi : i < p.length) => change_bnd (picsB_get hP (i := i - 1) (by omega)) (picsB_get hP hi))
  have HRD := hid (fun (X : World) (hX : Below w.heap.size w X) (va : Option Addr) (vn vc : Nat) (x : List Int) (hv : x.length = vn) (hvm : vn ≤ maxLen) (hI : IntsAt X va x) (hs : shownE M x = 0) => maskRead_c X a n cap M hn hm (H.below hX) va vn vc x hv hvm hI hs)
  obtain ⟨_, _, _, hc1, hc10⟩ := okM_ok hM
  obtain ⟨C, hC⟩ : ∃ C, C = encF M p E := ⟨_, rfl⟩
  rw [← hC] at HCT HCL ⊢
  have HM := hid hM
  have hn60 : n2 ≤ 60 := by omega
  clear hn hn2 hm H H2 hC hP hpp hM hp1 hp60
  go_enter Tryz.func65, Tryz.ntmps65
  go_wp2
  go_loopw [7, 13] (fun v i wr => ∃ k : Nat, k ≤ n2 ∧ i = .int .i64 k ∧ FrmsO wr w.heap.size (fun _ => True) v (C.take k) ∧ Below w.heap.size w wr) (fun _ i _ => n2 - (intOf i).toNat)
  case atStart => exact ⟨0, Nat.zero_le _, rfl, FrmsO.nil _ _ _, Below.refl _ _⟩
  case round =>
    obtain ⟨k, hk, rfl, ho, hbk⟩ := hrel
    by_cases hlt : k < n2
    · have hkl : k < p.length := by rw [HN2.out]; exact hlt
      obtain ⟨b, off, xa, xn, xc, rfl, hbs, hc, hxn, hxm, hxi⟩ := (HH2.out.below hbk) k hkl
      have hxv : p[k]?.getD [] = p[k] := by rw [List.getElem?_eq_getElem hkl]; rfl
      have htk := HCT.out k hkl
      rw [HEA.out k, hxv] at htk
      obtain ⟨x, hx⟩ : ∃ x, x = p[k] := ⟨_, rfl⟩
      have hpg := HPG.out k hkl
      rw [hxv] at hpg
      rw [← hx] at hxn hxi htk hpg
      have HCLN := hid (fun (X : World) (hX : Below wr.heap.size wr X) => clone_c X xa xn xc x hxn (by have := hpg.1; omega) (hxi.below hX))
      obtain ⟨KB, hKB⟩ : ∃ KB, KB = ((k : Int) % (E : Int) == 0) := ⟨_, rfl⟩
      have hkb := hKB.symm
      have hki : (k : Int) < (n2 : Int) := by omega
      have hki0 : (0 : Int) ≤ (k : Int) := by omega
      have hE1 : (1 : Int) ≤ (E : Int) := by omega
      have HE0 := hid (show ¬ E = 0 by omega)
      have HTM := hid (show (k : Int).tmod (E : Int) = (k : Int) % (E : Int) from Int.tmod_eq_emod_of_nonneg (by omega))
      have hkm : (k : Int) ≤ 9223372036854775807 := by omega
      have hem : (E : Int) ≤ 9223372036854775807 := by omega
      have HTK := hid htk
      have HXN := hid hxn
      have HXI := hid hxi
      have HPK := hid hpg
      have HX := hid hx
      have HO := hid ho
      have HBK := hid hbk
      clear htk hxn hxi hpg hx ho hbk hKB hxv
      go_wp2
      refine region_cut (EncR k E KB xa xn xc x wr) ?_ ?_
      · refine plain_region (fun j w' => decide (j < 9) = true → True) (by kernel_rfl) ?_
        have hbd : Below wr.heap.size wr wr.drew := (Below.refl _ _).drew
        generalize wr.drew = wd at hbd ⊢
        refine AnyT.takeD (i := 0) (v := .int .i64 k) rfl rfl (by kernel_rfl) (by kernel_rfl) (by kernel_rfl) (by first | exact (fun _ _ _ h => h) | exact (fun _ _ _ h => absurd h.1 (by simp))) (by kernel_rfl) (by rfl) (by rintro w' _; go_simp) trivial ?_; go_frame
        refine AnyT.takeD (i := 1) (v := .int .i64 E) rfl rfl (by kernel_rfl) (by kernel_rfl) (by kernel_rfl) (by first | exact (fun _ _ _ h => h) | exact (fun _ _ _ h => absurd h.1 (by simp))) (by kernel_rfl) (by rfl) (by rintro w' _; go_simp) trivial ?_; go_frame
        refine AnyT.takeD (i := 2) (v := .int .i64 ((k : Int) % (E : Int))) rfl rfl (by kernel_rfl) (by kernel_rfl) (by kernel_rfl) (by first | exact (fun _ _ _ h => h) | exact (fun _ _ _ h => absurd h.1 (by simp))) (by kernel_rfl) (by rfl) (by rintro w' _; go_simp; rw [if_neg HE0.out, HTM.out]) trivial ?_; go_frame
        refine AnyT.takeD (i := 3) (v := .bool KB) rfl rfl (by kernel_rfl) (by kernel_rfl) (by kernel_rfl) (by first | exact (fun _ _ _ h => h) | exact (fun _ _ _ h => absurd h.1 (by simp))) (by kernel_rfl) (by rfl) (by rintro w' _; go_simp) trivial ?_; go_frame
        refine AnyT.takeD (i := 4) (v := .slice xa xn xc) rfl rfl (by kernel_rfl) (by kernel_rfl) (by kernel_rfl) (by first | exact (fun _ _ _ h => h) | exact (fun _ _ _ h => absurd h.1 (by simp))) (by kernel_rfl) (by rfl) (by rintro w' _; go_simp) trivial ?_; go_frame
        have HBD := hid hbd
        clear hbd
        refine AnyT.next2 (i := 5) (j := 7) (by kernel_rfl) (wpOp_of_list rfl ?_) (wpOp_of_list rfl ?_)
        · go_wp2_with (go_at_call 103; refine (HCLN.out _ HBD.out).mono ?_; rintro e w5 ⟨v5, rfl, ho5, hb5⟩; refine Stop.of ?_)
          refine Stop.go ?_
          obtain ⟨ca, cc, rfl⟩ := ownsRow_slice ho5
          have HO5 := hid ho5
          have HB5 := hid (chain HBD.out hb5)
          clear ho5 hb5
          go_wp2
          refine ⟨fun _ => trivial, ?_⟩
          refine AnyT.takeD (i := 6) (v := .agg #[.bool KB, .slice ca xn cc]) rfl rfl (by kernel_rfl) (by kernel_rfl) (by kernel_rfl) (by first | exact (fun _ _ _ h => h) | exact (fun _ _ _ h => absurd h.1 (by simp))) (by kernel_rfl) (by rfl) (by rintro w' _; go_simp) trivial ?_; go_frame
          refine AnyT.next (i := 7) (by kernel_rfl) rfl (wpOp_of_list rfl ?_)
          go_wp2
          refine ⟨fun _ => trivial, ?_⟩
          have hw6 : (w5.alloc (.cells #[.bool false, .slice none 0 0] 73)).heap[w5.heap.size]? = some (.cells #[.bool false, .slice none 0 0] 73 (0, 0)) := World.alloc_heap_new _ _
          have HO6 := hid (HO5.out.alloc (.cells #[.bool false, .slice none 0 0] 73))
          have HB6 := hid (HB5.out.alloc HB5.out.size (.cells #[.bool false, .slice none 0 0] 73))
          generalize w5.alloc (.cells #[.bool false, .slice none 0 0] 73) = w6 at hw6 HO6 HB6 ⊢
          obtain ⟨z0, z1, f0, f1, hlt6⟩ := box2_facts hw6
          have HW6 := hid hw6
          clear hw6
          refine AnyT.next (i := 8) (by kernel_rfl) rfl (wpOp_of_list rfl ?_)
          go_wp2
          have hne : ∀ g, (Value.slice ca xn cc).ownBlock = some g → g ≠ w5.heap.size := fun g hg => by have := (HO5.out.lt g hg).2; omega
          have hfl : wr.heap.size ≤ w5.heap.size := HB5.out.size
          exact ⟨fun _ => trivial, by kernel_rfl, rfl, ca, cc, w5.heap.size, by go_frame, set2_block HW6.out, hfl, own_mono (own_set (own_set HO6.out _ hne) _ hne) HBD.out.size, below_set (below_set HB6.out hfl _ _) hfl _ _⟩
        · go_wp2
          refine ⟨fun _ => trivial, ?_⟩
          have hw6 : (wd.alloc (.cells #[.bool false, .slice none 0 0] 73)).heap[wd.heap.size]? = some (.cells #[.bool false, .slice none 0 0] 73 (0, 0)) := World.alloc_heap_new _ _
          have HB6 := hid (HBD.out.alloc HBD.out.size (.cells #[.bool false, .slice none 0 0] 73))
          have hs6 : (wd.alloc (.cells #[.bool false, .slice none 0 0] 73)).heap.size = wd.heap.size + 1 := by simp
          generalize wd.alloc (.cells #[.bool false, .slice none 0 0] 73) = w6 at hw6 hs6 HB6 ⊢
          have HW6 := hid hw6
          clear hw6
          refine AnyT.next (i := 5) (by kernel_rfl) rfl (wpOp_of_list rfl ?_)
          go_wp2_with (go_at_call 103; refine (HCLN.out _ HB6.out).mono ?_; rintro e w7 ⟨v5, rfl, ho5, hb5⟩; refine Stop.of ?_)
          refine Stop.go ?_
          obtain ⟨ca, cc, rfl⟩ := ownsRow_slice ho5
          have HO5 := hid ho5
          have HB5 := hid (chain HB6.out hb5)
          have hw7 : w7.heap[wd.heap.size]? = some (.cells #[.bool false, .slice none 0 0] 73 (0, 0)) := (hb5.block _ (by omega)).trans HW6.out
          obtain ⟨z0, z1, f0, f1, hlt6⟩ := box2_facts hw7
          have HW7 := hid hw7
          clear ho5 hb5 hw7
          go_wp2
          refine ⟨fun _ => trivial, ?_⟩
          refine AnyT.takeD (i := 6) (v := .agg #[.bool KB, .slice ca xn cc]) rfl rfl (by kernel_rfl) (by kernel_rfl) (by kernel_rfl) (by first | exact (fun _ _ _ h => h) | exact (fun _ _ _ h => absurd h.1 (by simp))) (by kernel_rfl) (by rfl) (by rintro w' _; go_simp) trivial ?_; go_frame
          refine AnyT.next (i := 8) (by kernel_rfl) rfl (wpOp_of_list rfl ?_)
          go_wp2
          have hne : ∀ g, (Value.slice ca xn cc).ownBlock = some g → g ≠ wd.heap.size := fun g hg => by have := (HO5.out.lt g hg).1; omega
          have hfl : wr.heap.size ≤ wd.heap.size := HBD.out.size
          exact ⟨fun _ => trivial, by kernel_rfl, rfl, ca, cc, wd.heap.size, by go_frame, set2_block HW7.out, hfl, own_mono (own_set (own_set HO5.out _ hne) _ hne) HB6.out.size, below_set (below_set HB5.out hfl _ _) hfl _ _⟩
      · rintro a' w5 ⟨ca, cc, fb, rfl, hfb, hfl, hown, hb5⟩
        obtain ⟨z0, z1, f0, f1, hlt5⟩ := box2_facts hfb
        have hCk : (C.take k).length = k := by rw [List.length_take, HCL.out]; omega
        have HCK := hid hCk
        obtain ⟨va, vc, hva⟩ := HO.out.slice
        rw [hCk] at hva
        subst hva
        have M1 := hid (show k + 1 ≤ maxLen by unfold maxLen; omega)
        have M2 := hid (show (k + 1) * 32 ≤ 140737488355328 by omega)
        have hwr := HBK.out.size
        have HFB := hid hfb
        have HFL := hid hfl
        have HOWN := hid hown
        have HB5 := hid hb5
        clear hCk hfb hown
        cases KB
        · have hkE : ¬ k % E = 0 := fun h => by
            have : (k : Int) % (E : Int) = 0 := by omega
            rw [this] at hkb; simp at hkb
          have hk1 : 1 ≤ k := by
            rcases Nat.eq_zero_or_pos k with h | h
            · subst h; simp at hkE
            · exact h
          have htk2 := HTK.out
          rw [if_neg hkE] at htk2
          obtain ⟨q, hq⟩ : ∃ q, q = k - 1 := ⟨_, rfl⟩
          obtain ⟨b', off', ya, yn, yc, e', hbs', hc', hyn, hym, hyi⟩ := (HH2.out.below HBK.out) q (by have := HN2.out; omega)
          cases e'
          have hyv : p[k - 1]?.getD [] = p[q] := by rw [← hq, List.getElem?_eq_getElem (by have := HN2.out; omega)]; rfl
          have hpq := HPG.out q (by have := HN2.out; omega)
          rw [← hq] at hyv
          rw [hyv] at hpq
          have hcb := HCB.out k (by have := HN2.out; omega)
          rw [← hq, hyv] at hcb
          have hxv : p[k]?.getD [] = x := by rw [HX.out, List.getElem?_eq_getElem (by have := HN2.out; omega)]; rfl
          rw [hxv] at hcb
          rw [← hq, hyv] at htk2
          obtain ⟨y, hy⟩ : ∃ y, y = p[q]'(by have := HN2.out; omega) := ⟨_, rfl⟩
          rw [← hy] at hyn hyi hpq hcb htk2
          obtain rfl : yn = xn := by have := HPK.out.1; have := HXN.out; have := hpq.1; omega
          have hw : wrap64 ((k : Int) - 1) = (q : Int) := by unfold wrap64; omega
          have hw2 : IntKind.i64.wrap ((k : Int) - 1) = (q : Int) := by rw [IntWalk.i64_left]; exact hw
          have hq0 : (0 : Int) ≤ (q : Int) := by omega
          have hqn : (q : Int) < (n2 : Int) := by omega
          have hc5 : w5.cell? ⟨b, off + q, none⟩ = some (.slice ya yn yc) := (hb5.cell (p := ⟨b, _, none⟩) hbs).trans hc'
          have HCH := hid (schange_c w5 ya xa yn yc xc y x hyn HXN.out (by have := HPK.out.1; have := HXN.out; omega) (hyi.below hb5) (HXI.out.below hb5) hpq.2 HPK.out.2)
          have HTK2 := hid htk2
          have HCB2 := hid hcb
          have HKX := hid hkE
          have hbw5 := hid (chain HBK.out hb5)
          have hsE := hid (shownE_change HM.out hcb)
          have hRV := hid (show readM M (changeF y x) = readV M (changeF y x) from readM_V HM.out (fun v hv => by have := hcb.2 v hv; omega))
          have hXL := hid (show (changeF y x).length = yn by rw [changeF_len]; exact HXN.out)
          clear htk2 hcb hkE hq hyv hpq hxv hy hyn hyi hb5 hc'
          go_wp2_with (go_at_call 105; refine HCH.out.mono ?_; rintro e w6 ⟨v6, rfl, ho6, hb6⟩; refine Stop.of ?_)
          refine Stop.go ?_
          obtain ⟨da, dc, rfl, hdi, hdm⟩ := ints_of_own ho6 hXL.out
          have hRDX := HRD.out w6 (chain hbw5.out hb6) da yn dc (changeF y x) hXL.out hdm hdi hsE.out
          rw [hRV.out] at hRDX
          have HRX := hid hRDX
          have HB6 := hid hb6
          clear hRDX ho6 hdi hb6
          go_wp2_with (go_at_call 104; refine HRX.out.mono ?_; rintro e w7 ⟨v7, base7, rfl, hbase7, ho7, hb7⟩; refine Stop.of ?_)
          refine Stop.go ?_
          obtain ⟨ra, rc, rfl⟩ := ownsRow_slice ho7
          have hB7 := chain HB6.out hb7
          have hf7 : w7.heap[fb]? = some (.cells #[.bool false, .slice ca yn cc] 73 (0, 0)) := (hB7.block fb hlt5).trans HFB.out
          obtain ⟨y0, y1, g0, g1, hlt7⟩ := box2_facts hf7
          have hf8 : (w7.setCell ⟨fb, 1, none⟩ (.slice ra n rc)).heap[fb]? = some (.cells #[.bool false, .slice ra n rc] 73 (0, 0)) := by rw [cells_set hf7 1]; rfl
          obtain ⟨d0, d1, k0, k1, hlt8⟩ := box2_facts hf8
          have hfw : w.heap.size ≤ fb := by have := HFL.out; omega
          have hB8 : Below w.heap.size w (w7.setCell ⟨fb, 1, none⟩ (.slice ra n rc)) := below_set (chain hbw5.out hB7) hfw _ _
          have hK8 : Keep (fun k => k ≠ fb) wr (w7.setCell ⟨fb, 1, none⟩ (.slice ra n rc)) := (Keep.of_below (chain HB5.out hB7) : Keep (fun k => k ≠ fb) _ _).trans (Keep.set _ _ _ _)
          have hFO := FrmsO.keep (S' := fun _ => True) HO.out hK8 (fun b _ hb => ⟨by have := HFL.out; omega, trivial⟩)
          have hEI : ElemI 3 (w7.setCell ⟨fb, 1, none⟩ (.slice ra n rc)) w.heap.size (fun _ => True) (.slice ra n rc) (readV M (changeF y x)) := by
            have h1 := own_set (o := 1) (u := .slice ra n rc) ho7 (b := fb) (fun g hg => by have := (ho7.lt g hg).1; have := HB6.out.size; omega)
            exact ElemI.own' h1 rfl (by have := h1.1; simpa using this) (by rcases h1.2 with ⟨_, h⟩ | ⟨_, _, _, _, _, _, h, h', _⟩ <;> unfold maxLen at * <;> omega) (fun _ _ => trivial)
          obtain ⟨xs, hoo, hgg, hoe⟩ := hFO
          have hoo' := hoo
          rw [HCK.out] at hoo'
          have HOO := hid hoo
          have HOE := hid hoe
          have HOO' := hid hoo'
          have HEI := hid hEI
          have HB8 := hid hB8
          clear hoo hgg hoe hoo' hEI hB8 hK8 ho7 hb7 hf8 hf7 hB7 hbase7
          have M3 := hid (show w.heap.size ≤ ((w7.setCell ⟨fb, 1, none⟩ (.slice ra n rc)).alloc (.cells #[.bool false, .slice ra n rc] 73)).heap.size from Nat.le_trans HB8.out.size (le_alloc _ _))
          have hnw := news2 (w7.setCell ⟨fb, 1, none⟩ (.slice ra n rc)) (.bool false) (.slice ra n rc) 73
          have hsz : (w7.setCell ⟨fb, 1, none⟩ (.slice ra n rc)).heap.size = w7.heap.size := by simp [World.setCell]
          rw [hsz] at hnw
          have HNW := hid hnw
          clear hnw hsz
          go_wp2_with (at_builtin; refine wpList_app _ rfl (.tmp 41) (.tmp 43) 36 rfl w.heap.size 73 (.agg #[.bool false, .slice none 0 0]) 2 32 Tryz.underlying36 info_frame rfl (by decide) (.slice va k vc) k xs rfl (HOO'.out.alloc _) (some ⟨w7.heap.size, 0, none⟩) 1 1 [.bool false, .slice ra n rc] rfl rfl no_none HNW.out (frm_one _ _ _ _) M1.out M2.out M3.out ?_; intro a9 c9 w9 own9 g9; refine Stop.of ?_)
          refine Stop.go ?_
          have hsn := FrmsO.snoc (f := (false, readV M (changeF y x))) HOO.out HOE.out HEI.out ((Below.refl _ _).alloc (Nat.le_refl _) _) g9 (by rw [HCK.out]; exact own9) (fun _ _ => trivial)
          have hB9 : Below w.heap.size w w9 := (HB8.out.alloc HB8.out.size _).grown g9 M3.out (fun g hg => (HOO'.out.lt g hg).1)
          rw [← HTK2.out] at hsn
          have HSN := hid hsn
          have HB9 := hid hB9
          clear hsn hB9 own9 g9
          go_wp2
          refine ⟨⟨k + 1, by omega, by go_num, HSN.out, HB9.out⟩, by simp [intOf]; omega⟩
        · have hkE : k % E = 0 := by
            have : (k : Int) % (E : Int) = 0 := by simpa using hkb
            omega
          have htk2 := HTK.out
          rw [if_pos hkE] at htk2
          have hB8 : Below w.heap.size w w5 := chain HBK.out hb5
          have hFO := FrmsO.below HO.out hb5
          have hEI : ElemI 3 w5 w.heap.size (fun _ => True) (.slice ca xn cc) x := ElemI.own' HOWN.out rfl HXN.out hxm (fun _ _ => trivial)
          obtain ⟨xs, hoo, hgg, hoe⟩ := hFO
          have hoo' := hoo
          rw [HCK.out] at hoo'
          have HOO := hid hoo
          have HOE := hid hoe
          have HOO' := hid hoo'
          have HEI := hid hEI
          have HB8 := hid hB8
          have HTK2 := hid htk2
          clear hoo hgg hoe hoo' hEI hB8 htk2 hkE
          have M3 := hid (show w.heap.size ≤ (w5.alloc (.cells #[.bool true, .slice ca xn cc] 73)).heap.size from Nat.le_trans HB8.out.size (le_alloc _ _))
          go_wp2_with (at_builtin; refine wpList_app _ rfl (.tmp 41) (.tmp 43) 36 rfl w.heap.size 73 (.agg #[.bool false, .slice none 0 0]) 2 32 Tryz.underlying36 info_frame rfl (by decide) (.slice va k vc) k xs rfl (HOO'.out.alloc _) (some ⟨w5.heap.size, 0, none⟩) 1 1 [.bool true, .slice ca xn cc] rfl rfl no_none (news2 _ _ _ _) (frm_one _ _ _ _) M1.out M2.out M3.out ?_; intro a9 c9 w9 own9 g9; refine Stop.of ?_)
          refine Stop.go ?_
          have hsn := FrmsO.snoc (f := (true, x)) HOO.out HOE.out HEI.out ((Below.refl _ _).alloc (Nat.le_refl _) _) g9 (by rw [HCK.out]; exact own9) (fun _ _ => trivial)
          have hB9 : Below w.heap.size w w9 := (HB8.out.alloc HB8.out.size _).grown g9 M3.out (fun g hg => (HOO'.out.lt g hg).1)
          rw [← HTK2.out] at hsn
          have HSN := hid hsn
          have HB9 := hid hB9
          clear hsn hB9 own9 g9
          go_wp2
          refine ⟨⟨k + 1, by omega, by go_num, HSN.out, HB9.out⟩, by simp [intOf]; omega⟩
    · obtain rfl : n2 = k := by omega
      rw [List.take_of_length_le (by rw [HCL.out]; exact Nat.le_refl _)] at ho
      go_wp2
      go_ret
      exact ⟨_, rfl, ho, hbk⟩
end Go.Proofs.YtddcamcdjkiadaaGreatDoor
