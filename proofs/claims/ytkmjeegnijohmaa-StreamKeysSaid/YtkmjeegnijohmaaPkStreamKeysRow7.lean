/- Walks and plain laws for StreamKeysRow, part 7. -/
import Derived.ChangeOld
import Derived.Deep.Slices
import Derived.Lib.SmallJoins
import Derived.Test.YtkmjeegnijohmaaPkStreamKeysRow6
namespace Go.Proofs.Ytkmjeegnijohmaa
open Go.RowKit
set_option linter.unusedVariables false

def sentE (M : Mask) (p : List (List Int)) (every trust : Int) : Int := if picsB M p = true then (if inB every 1 60 = true ∧ inB trust 0 (colsM M) = true then 0 else 7) else 1
def sentB (M : Mask) (p : List (List Int)) (every trust : Int) : Bool := decide (sentE M p every trust = 0) && rightF M p every.toNat trust

set_option maxHeartbeats 800000 in
theorem sSent_c (w : World) (a a2 : Option Addr) (n cap n2 cap2 : Nat) (M : Mask) (p : List (List Int)) (every trust : Int) (hn : M.length = n) (hm : n ≤ maxLen) (H : RowsAt w a M) (hn2 : p.length = n2) (hm2 : n2 ≤ maxLen) (H2 : RowsAt w a2 p) :
    Calls Try.prog 30 #[.slice a n cap, .slice a2 n2 cap2, .int .i64 every, .int .i64 trust] w fun e w' => e = .returned (.tuple #[.bool (sentB M p every trust), .int .i64 (sentE M p every trust)]) ∧ Below w.heap.size w w' := by
  have HV := hid (validPics_c w a n cap M hn hm H a2 n2 cap2 p hn2 hm2 H2)
  cases hP : picsB M p
  · have he : sentE M p every trust = 1 := by unfold sentE; rw [hP]; rfl
    have hb : sentB M p every trust = false := by unfold sentB; rw [he]; rfl
    rw [hP] at HV
    rw [he, hb]
    clear hn H hn2 H2 hP he hb
    go_enter Try.func30, Try.ntmps30
    go_wp2_with (go_at_call 16; refine HV.out.mono ?_; rintro e w1 ⟨rfl, hb1⟩)
    go_ret2
    exact ⟨rfl, hb1⟩
  · obtain ⟨hM, hp1, hp60, hpp⟩ := picsB_ok hP
    obtain ⟨_, h1, h6, hc1, hc10⟩ := okM_ok hM
    obtain ⟨b, off, ra, rc, rfl, hb, hc⟩ := rows_head H (by omega)
    have i0 : (0 : Int) < (n : Int) := by omega
    have HC0 := hid (show ∀ X : World, Below w.heap.size w X → X.cell? ⟨b, off, none⟩ = some (.slice ra (colsM M) rc) from fun X hX => (hX.cell (p := ⟨b, off, none⟩) hb).trans hc)
    have HW := hid (fun X => swithin_c every 1 60 X)
    have HT := hid (fun X => swithin_c trust 0 (colsM M) X)
    have HE := hid (show sentE M p every trust = if inB every 1 60 = true ∧ inB trust 0 (colsM M) = true then 0 else 7 by unfold sentE; rw [hP]; rfl)
    rw [hP] at HV
    cases hE : inB every 1 60
    · have he : sentE M p every trust = 7 := by rw [HE.out, hE]; rfl
      have hb : sentB M p every trust = false := by unfold sentB; rw [he]; rfl
      rw [hE] at HW
      rw [he, hb]
      clear hn H hn2 H2 hP he hb hE hc hpp hM
      go_enter Try.func30, Try.ntmps30
      go_wp2_with first
        | (go_at_call 16; refine HV.out.mono ?_; rintro e w1 ⟨rfl, hb1⟩)
        | (go_at_call 31; refine (HW.out _).mono ?_; rintro e w2 ⟨rfl, rfl⟩)
      go_ret2
      exact ⟨rfl, hb1⟩
    · rw [hE] at HW
      cases hT : inB trust 0 (colsM M)
      · have he : sentE M p every trust = 7 := by rw [HE.out, hE, hT]; rfl
        have hb : sentB M p every trust = false := by unfold sentB; rw [he]; rfl
        rw [he, hb]
        obtain ⟨W, hW⟩ : ∃ W, W = colsM M := ⟨_, rfl⟩
        rw [← hW] at hT HC0
        clear hn H hn2 H2 hP he hb hc hpp hM hW HT HW
        go_enter Try.func30, Try.ntmps30
        go_wp2_with first
          | (go_at_call 16; refine HV.out.mono ?_; rintro e w1 ⟨rfl, hb1⟩; have hc1' := HC0.out w1 hb1)
          | (go_at_call 31; refine (swithin_c _ _ _ _).mono ?_; rintro e w2 ⟨rfl, rfl⟩)
        go_ret2
        exact ⟨rfl, hb1⟩
      · have he : sentE M p every trust = 0 := by rw [HE.out, hE, hT]; rfl
        have hb : sentB M p every trust = rightF M p every.toNat trust := by unfold sentB; rw [he]; rfl
        have hE' : 1 ≤ every ∧ every ≤ 60 := by unfold inB at hE; simpa using hE
        obtain ⟨E, rfl⟩ : ∃ E : Nat, every = (E : Int) := ⟨every.toNat, by omega⟩
        have HR := hid (fun (X : World) (hX : Below w.heap.size w X) => right_c X (some ⟨b, off, none⟩) a2 n cap n2 cap2 M p E trust hn hn2 hm hm2 (H.below hX) (H2.below hX) hP (by omega) (by omega))
        rw [he, hb, Int.toNat_natCast]
        obtain ⟨W, hW⟩ : ∃ W, W = colsM M := ⟨_, rfl⟩
        rw [← hW] at hT HC0
        clear hn H hn2 H2 hP he hb hc hpp hM hW hE' HT HW
        go_enter Try.func30, Try.ntmps30
        go_wp2_with first
          | (go_at_call 16; refine HV.out.mono ?_; rintro e w1 ⟨rfl, hb1⟩; have hc1' := HC0.out w1 hb1)
          | (go_at_call 31; refine (swithin_c _ _ _ _).mono ?_; rintro e w2 ⟨rfl, rfl⟩)
          | (go_at_call 53; refine (HR.out _ hb1).mono ?_; rintro e w3 ⟨rfl, hb3⟩)
        go_ret2
        exact ⟨rfl, chain hb1 hb3⟩

def awM : Mask := [[1, 1, 0], [0, 1, 1]]
def awP : List (List Int) := [[0, 0, 0], [0, 5, 0], [0, 5, 2]]
theorem aw_enc : encE awM awP 3 = 0 ∧ encF awM awP (Int.toNat 3) = [(true, [0, 0, 0]), (false, [5, 5]), (false, [0, 2])] := ⟨by kernel_rfl, by kernel_rfl⟩
theorem aw_sent : sentE awM awP 3 1 = 0 ∧ sentB awM awP 3 1 = true := ⟨by kernel_rfl, by kernel_rfl⟩
theorem ints_lit3 (w : World) (x y z : Int) (T : TypeId) : IntsAt (w.alloc (.cells #[.int .i64 x, .int .i64 y, .int .i64 z] T)) (some ⟨w.heap.size, 0, none⟩) [x, y, z] := fun j hj => ⟨w.heap.size, 0, rfl, by simp, by
  rw [World.cell?_alloc_at _ _ _ _ rfl]
  match j, hj with
  | 0, _ => rfl
  | 1, _ => rfl
  | 2, _ => rfl⟩
theorem ints_lit2 (w : World) (x y : Int) (T : TypeId) : IntsAt (w.alloc (.cells #[.int .i64 x, .int .i64 y] T)) (some ⟨w.heap.size, 0, none⟩) [x, y] := fun j hj => ⟨w.heap.size, 0, rfl, by simp, by
  rw [World.cell?_alloc_at _ _ _ _ rfl]
  match j, hj with
  | 0, _ => rfl
  | 1, _ => rfl⟩
theorem rows_three {w : World} {a1 a2 a3 : Option Addr} {n1 c1 n2 c2 n3 c3 : Nat} {x y z : List Int} (T : TypeId) (h1 : x.length = n1) (h2 : y.length = n2) (h3 : z.length = n3) (m1 : n1 ≤ maxLen) (m2 : n2 ≤ maxLen) (m3 : n3 ≤ maxLen) (H1 : IntsAt w a1 x) (H2 : IntsAt w a2 y) (H3 : IntsAt w a3 z) :
    RowsAt (w.alloc (.cells #[.slice a1 n1 c1, .slice a2 n2 c2, .slice a3 n3 c3] T)) (some ⟨w.heap.size, 0, none⟩) [x, y, z] := by
  have hb : Below w.heap.size w (w.alloc (.cells #[.slice a1 n1 c1, .slice a2 n2 c2, .slice a3 n3 c3] T)) := (Below.refl _ _).alloc (Nat.le_refl _) _
  intro j hj
  match j, hj with
  | 0, _ => exact ⟨w.heap.size, 0, a1, n1, c1, rfl, by simp, by rw [World.cell?_alloc_at _ _ _ _ rfl]; rfl, h1, m1, H1.below hb⟩
  | 1, _ => exact ⟨w.heap.size, 0, a2, n2, c2, rfl, by simp, by rw [World.cell?_alloc_at _ _ _ _ rfl]; rfl, h2, m2, H2.below hb⟩
  | 2, _ => exact ⟨w.heap.size, 0, a3, n3, c3, rfl, by simp, by rw [World.cell?_alloc_at _ _ _ _ rfl]; rfl, h3, m3, H3.below hb⟩

theorem awM_rows (w : World) : let W := ((w.alloc (.cells #[.int .i64 1, .int .i64 1, .int .i64 0] 3)).alloc (.cells #[.int .i64 0, .int .i64 1, .int .i64 1] 3)).alloc (.cells #[.slice (some ⟨w.heap.size, 0, none⟩) 3 3, .slice (some ⟨w.heap.size + 1, 0, none⟩) 3 3] 25)
    RowsAt W (some ⟨w.heap.size + 2, 0, none⟩) awM ∧ Below w.heap.size w W ∧ W.heap.size = w.heap.size + 3 := by
  have i1 := ints_lit3 w 1 1 0 3
  have i2 := ints_lit3 (w.alloc (.cells #[.int .i64 1, .int .i64 1, .int .i64 0] 3)) 0 1 1 3
  have b2 : ∀ o, Below (w.alloc (.cells #[.int .i64 1, .int .i64 1, .int .i64 0] 3)).heap.size (w.alloc (.cells #[.int .i64 1, .int .i64 1, .int .i64 0] 3)) ((w.alloc (.cells #[.int .i64 1, .int .i64 1, .int .i64 0] 3)).alloc o) := fun o => (Below.refl _ _).alloc (Nat.le_refl _) _
  have h := rows_two (c1 := 3) (c2 := 3) 25 rfl rfl (by decide) (by decide) (i1.below (b2 _)) i2
  simp only [World.size_alloc] at h
  exact ⟨h, ((((Below.refl _ _).alloc (Nat.le_refl _) _).alloc (by simp) _).alloc (by simp; omega) _), by simp⟩
theorem awP_rows (w : World) : let W := (((w.alloc (.cells #[.int .i64 0, .int .i64 0, .int .i64 0] 3)).alloc (.cells #[.int .i64 0, .int .i64 5, .int .i64 0] 3)).alloc (.cells #[.int .i64 0, .int .i64 5, .int .i64 2] 3)).alloc (.cells #[.slice (some ⟨w.heap.size, 0, none⟩) 3 3, .slice (some ⟨w.heap.size + 1, 0, none⟩) 3 3, .slice (some ⟨w.heap.size + 2, 0, none⟩) 3 3] 25)
    RowsAt W (some ⟨w.heap.size + 3, 0, none⟩) awP ∧ Below w.heap.size w W ∧ W.heap.size = w.heap.size + 4 := by
  obtain ⟨w1, hw1⟩ : ∃ w1, w1 = w.alloc (.cells #[.int .i64 0, .int .i64 0, .int .i64 0] 3) := ⟨_, rfl⟩
  have i1 := ints_lit3 w 0 0 0 3
  rw [← hw1] at i1 ⊢
  have i2 := ints_lit3 w1 0 5 0 3
  have s1 : w1.heap.size = w.heap.size + 1 := by rw [hw1]; simp
  obtain ⟨w2, hw2⟩ : ∃ w2, w2 = w1.alloc (.cells #[.int .i64 0, .int .i64 5, .int .i64 0] 3) := ⟨_, rfl⟩
  rw [← hw2] at i2 ⊢
  have b1 : Below w.heap.size w w1 := by rw [hw1]; exact (Below.refl _ _).alloc (Nat.le_refl _) _
  have b2 : Below w1.heap.size w1 w2 := by rw [hw2]; exact (Below.refl _ _).alloc (Nat.le_refl _) _
  have s2 : w2.heap.size = w.heap.size + 2 := by rw [hw2]; simp [s1]
  have i3 := ints_lit3 w2 0 5 2 3
  obtain ⟨w3, hw3⟩ : ∃ w3, w3 = w2.alloc (.cells #[.int .i64 0, .int .i64 5, .int .i64 2] 3) := ⟨_, rfl⟩
  rw [← hw3] at i3 ⊢
  have b3 : Below w2.heap.size w2 w3 := by rw [hw3]; exact (Below.refl _ _).alloc (Nat.le_refl _) _
  have s3 : w3.heap.size = w.heap.size + 3 := by rw [hw3]; simp [s2]
  rw [s1] at i2
  rw [s2] at i3
  have h := rows_three (c1 := 3) (c2 := 3) (c3 := 3) 25 rfl rfl rfl (by decide) (by decide) (by decide) ((i1.below b2).below b3) (i2.below b3) i3
  rw [s3] at h
  exact ⟨h, (chain (chain b1 b2) b3).alloc (by omega) _, by simp [s3]⟩

theorem awake8_c (w : World) : Calls Try.prog 9 #[] w fun e w' => e = .returned (.bool true) ∧ Below w.heap.size w w' := by
  obtain ⟨hM, hbA, hsA⟩ := awM_rows w
  obtain ⟨wA, hA⟩ : ∃ wA, wA = ((w.alloc (.cells #[.int .i64 1, .int .i64 1, .int .i64 0] 3)).alloc (.cells #[.int .i64 0, .int .i64 1, .int .i64 1] 3)).alloc (.cells #[.slice (some ⟨w.heap.size, 0, none⟩) 3 3, .slice (some ⟨w.heap.size + 1, 0, none⟩) 3 3] 25) := ⟨_, rfl⟩
  rw [← hA] at hM hbA hsA
  obtain ⟨hP, hbB, hsB⟩ := awP_rows wA
  obtain ⟨wB, hB⟩ : ∃ wB, wB = (((wA.alloc (.cells #[.int .i64 0, .int .i64 0, .int .i64 0] 3)).alloc (.cells #[.int .i64 0, .int .i64 5, .int .i64 0] 3)).alloc (.cells #[.int .i64 0, .int .i64 5, .int .i64 2] 3)).alloc (.cells #[.slice (some ⟨wA.heap.size, 0, none⟩) 3 3, .slice (some ⟨wA.heap.size + 1, 0, none⟩) 3 3, .slice (some ⟨wA.heap.size + 2, 0, none⟩) 3 3] 25) := ⟨_, rfl⟩
  rw [← hB] at hP hbB hsB
  have hMB := hM.below hbB
  have hbW := chain hbA hbB
  have hEN := sEncode_c wB (some ⟨w.heap.size + 2, 0, none⟩) (some ⟨wA.heap.size + 3, 0, none⟩) 2 2 3 3 awM awP 3 rfl (by decide) hMB rfl (by decide) hP
  rw [hsA] at hEN
  have HSE := hid (fun (X : World) (hX : Below wB.heap.size wB X) => sSent_c X (some ⟨w.heap.size + 2, 0, none⟩) (some ⟨wA.heap.size + 3, 0, none⟩) 2 2 3 3 awM awP 3 1 rfl (by decide) (hMB.below hX) rfl (by decide) (hP.below hX))
  rw [aw_sent.1, aw_sent.2, hsA] at HSE
  rw [aw_enc.1, aw_enc.2] at hEN
  have HEN := hid hEN
  have HBW := hid hbW
  have HSB := hid hsB
  have HSA := hid hsA
  have hBB := hB
  rw [hA] at hBB
  simp only [World.size_alloc] at hBB
  have HB := hid hBB
  clear hM hbA hsA hP hbB hsB hMB hbW hEN hA hB hBB
  go_enter Try.func9, Try.ntmps9
  go_wp2_with fail
  rw [← HB.out]
  refine (show Calls Try.prog _ _ wB _ from HEN.out.mono ?_)
  rintro e w1 ⟨hb1, ⟨h, _⟩ | ⟨_, v, base, rfl, hbs, hO⟩⟩
  · exact absurd rfl h
  obtain ⟨fa, fc, rfl, hfm, hfr⟩ := hO.reads
  have HFR := hid hfr
  have HB1 := hid hb1
  clear hO hfr hfm hb1 HEN HB
  go_wp2_with (go_at_call 30; refine (HSE.out w1 HB1.out).mono ?_; rintro e w2 ⟨rfl, hb2⟩; refine Stop.of ?_)
  refine Stop.go ?_
  obtain ⟨fb, fo, ra, rn, rc, rfl, hfb, hf0, hf1, hrn, hrm, hri⟩ := (HFR.out.below hb2) 2 (by decide)
  have hrn2 : rn = 2 := hrn.symm
  subst hrn2
  have hB2 := chain HB1.out hb2
  have hb5 : Below w2.heap.size w2 (w2.alloc (.cells #[.int .i64 0, .int .i64 2] 3)) := (Below.refl _ _).alloc (Nat.le_refl _) _
  have HSI := hid (s8Ints_c (w2.alloc (.cells #[.int .i64 0, .int .i64 2] 3)) ra (some ⟨w2.heap.size, 0, none⟩) 2 rc 2 2 [0, 2] [0, 2] rfl rfl (by decide) (by decide) (hri.below hb5) (ints_lit2 w2 0 2 3))
  have hd : decide (([0, 2] : List Int) = [0, 2]) = true := by decide
  rw [hd] at HSI
  have HB5 := hid (chain HBW.out (chain hB2 hb5))
  clear hB2 hb5 hd hri hrn hb2
  go_wp2_with (go_at_call 21; refine HSI.out.mono ?_; rintro e w7 ⟨rfl, k7, rfl⟩)
  go_ret
  exact ⟨rfl, below_drewN HB5.out k7⟩
end Go.Proofs.Ytkmjeegnijohmaa

namespace Go.Proofs.Ytkmjeegnijohmaa
open Go.RowKit
set_option linter.unusedVariables false

def encL (M : Mask) (p : List (List Int)) (every : Int) : List Frm := if encE M p every = 0 then encF M p every.toNat else []
theorem ints_nil {W : World} {a : Option Addr} : IntsAt W a [] := fun j hj => by simp at hj
theorem frames_nil {W : World} {a : Option Addr} : FramesAt W a [] := fun j hj => by simp at hj

theorem sEncodeU_c (w : World) (a a2 : Option Addr) (n cap n2 cap2 : Nat) (M : Mask) (p : List (List Int)) (every : Int) (hn : M.length = n) (hm : n ≤ maxLen) (H : RowsAt w a M) (hn2 : p.length = n2) (hm2 : n2 ≤ maxLen) (H2 : RowsAt w a2 p) :
    Calls Try.prog 10 #[.slice a n cap, .slice a2 n2 cap2, .int .i64 every] w fun e w' => ∃ va vc, e = .returned (.tuple #[.slice va (encL M p every).length vc, .int .i64 (encE M p every)]) ∧ (encL M p every).length ≤ maxLen ∧ FramesAt w' va (encL M p every) ∧ Below w.heap.size w w' := by
  refine (sEncode_c w a a2 n cap n2 cap2 M p every hn hm H hn2 hm2 H2).mono ?_
  rintro e w' ⟨hb, ⟨h, rfl⟩ | ⟨h, v, base, rfl, _, ho⟩⟩
  · have hL : encL M p every = [] := by unfold encL; rw [if_neg h]
    rw [hL]
    exact ⟨none, 0, rfl, by decide, frames_nil, hb⟩
  · have hL : encL M p every = encF M p every.toNat := by unfold encL; rw [if_pos h]
    rw [hL, h]
    obtain ⟨va, vc, rfl, hm', hf⟩ := ho.reads
    exact ⟨va, vc, rfl, hm', hf, hb⟩
end Go.Proofs.Ytkmjeegnijohmaa

namespace Go.Proofs.Ytkmjeegnijohmaa
open Go.RowKit
set_option linter.unusedVariables false

def keysTo (F : List Frm) : Nat → List Int
  | 0 => []
  | k + 1 => keysTo F k ++ (if (F[k]?.getD (false, [])).1 = true then [(k : Int)] else [])
def keysF (F : List Frm) : List Int := keysTo F F.length
theorem keysTo_le (F : List Frm) : ∀ k, (keysTo F k).length ≤ k
  | 0 => by simp [keysTo]
  | k + 1 => by
    have := keysTo_le F k
    simp only [keysTo, List.length_append]
    split <;> simp <;> omega
theorem validB_ok {M : Mask} {F : List Frm} (h : validB M F = true) : okM M = true ∧ 1 ≤ F.length ∧ F.length ≤ 60 ∧ ∀ f ∈ F, f.2.length ≤ 1000 := by
  unfold validB inB at h
  simp only [Bool.and_eq_true, decide_eq_true_eq, List.all_eq_true] at h
  obtain ⟨⟨⟨hM, h1⟩, _⟩, h2⟩ := h
  obtain ⟨_, _, h6, _, h10⟩ := okM_ok hM
  refine ⟨hM, by omega, by omega, fun f hf => ?_⟩
  have := h2 f hf
  unfold frB at this
  simp only [Bool.or_eq_true, Bool.and_eq_true, decide_eq_true_eq] at this
  rcases this with (h | ⟨_, h⟩) | ⟨_, h, _⟩
  · omega
  · have := (pic_bnd h).1; omega
  · omega

def vE (M : Mask) (F : List Frm) : Int := if validB M F = true then 0 else 1
def keysV (M : Mask) (F : List Frm) : List Int := if validB M F = true then keysF F else []

set_option maxHeartbeats 1000000 in
theorem sKeys_c (w : World) (a a2 : Option Addr) (n cap n2 cap2 : Nat) (M : Mask) (F : List Frm) (hn : M.length = n) (hm : n ≤ maxLen) (H : RowsAt w a M) (hn2 : F.length = n2) (hm2 : n2 ≤ maxLen) (H2 : FramesAt w a2 F) :
    Calls Try.prog 24 #[.slice a n cap, .slice a2 n2 cap2] w fun e w' => ∃ va vc, e = .returned (.tuple #[.slice va (keysV M F).length vc, .int .i64 (vE M F)]) ∧ (keysV M F).length ≤ maxLen ∧ IntsAt w' va (keysV M F) ∧ Below w.heap.size w w' := by
  have HV := hid (svalid_c w a n cap M hn hm H a2 n2 cap2 F hn2 hm2 H2)
  cases hV : validB M F
  · have e1 : vE M F = 1 := by unfold vE; rw [hV]; rfl
    have e2 : keysV M F = [] := by unfold keysV; rw [hV]; rfl
    rw [hV] at HV
    rw [e1, e2]
    clear hn H hn2 H2 hV e1 e2
    go_enter Try.func24, Try.ntmps24
    go_wp2_with (go_at_call 18; refine HV.out.mono ?_; rintro e w1 ⟨rfl, hb1⟩)
    go_ret2
    exact ⟨none, 0, rfl, by decide, ints_nil, hb1⟩
  · have e1 : vE M F = 0 := by unfold vE; rw [hV]; rfl
    have e2 : keysV M F = keysTo F n2 := by unfold keysV keysF; rw [hV, hn2]; rfl
    obtain ⟨_, _, h60, hl⟩ := validB_ok hV
    rw [hV] at HV
    rw [e1, e2]
    have HN := hid hn2
    have HH := hid H2
    have hn60 : n2 ≤ 60 := by omega
    have HKL := hid (fun k => keysTo_le F k)
    clear hn H hn2 H2 hV e1 e2 hl
    go_enter Try.func24, Try.ntmps24
    go_wp2_with (go_at_call 18; refine HV.out.mono ?_; rintro e w1 ⟨rfl, hb1⟩)
    have HB1 := hid hb1
    clear hb1
    go_loopw [6, 15] (fun v i wr => ∃ k : Nat, k ≤ n2 ∧ i = .int .i64 k ∧ wr.ownsRow w1.heap.size 3 1 v (keysTo F k).length ((keysTo F k).map (Value.int .i64)) ∧ Below w1.heap.size w1 wr) (fun _ i _ => n2 - (intOf i).toNat)
    case atStart => exact ⟨0, Nat.zero_le _, rfl, World.ownsRow_nil _ _ _ _, Below.refl _ _⟩
    case round =>
      obtain ⟨k, hk, rfl, ho, hb⟩ := hrel
      by_cases hlt : k < n2
      · have hkl : k < F.length := by rw [HN.out]; exact hlt
        obtain ⟨b, off, ra, rn, rc, rfl, hbs, h0, h1, hrn, hrm, hri⟩ := (HH.out.below (chain HB1.out hb)) k hkl
        have hks : keysTo F (k + 1) = keysTo F k ++ (if (F[k]'hkl).1 = true then [(k : Int)] else []) := by show keysTo F k ++ _ = _; rw [List.getElem?_eq_getElem hkl]; rfl
        obtain ⟨K, hK⟩ : ∃ K, K = (F[k]'hkl).1 := ⟨_, rfl⟩
        rw [← hK] at h0 hks
        obtain ⟨la, lc, rfl⟩ := ownsRow_slice ho
        have hll := HKL.out k
        obtain ⟨L, hL⟩ : ∃ L, L = keysTo F k := ⟨_, rfl⟩
        rw [← hL] at ho hks hll ⊢
        have hba : ∀ o : Obj, Below w1.heap.size w1 (wr.alloc o) := fun o => hb.alloc hb.size o
        have hoa : ∀ o : Obj, (wr.alloc o).ownsRow w1.heap.size 3 1 (.slice la L.length lc) L.length (L.map (Value.int .i64)) := fun o => ho.alloc o
        have HKS := hid hks
        have HBA := hid hba
        have HOA := hid hoa
        have hki : (k : Int) < (n2 : Int) := by omega
        have hki0 : (0 : Int) ≤ (k : Int) := by omega
        have M1 := hid (show L.length + 1 ≤ maxLen by unfold maxLen; omega)
        have M2 := hid (show (L.length + 1) * 8 ≤ 140737488355328 by omega)
        clear hK hL hks hrn hri hb hba ho hoa hll
        cases K
        · have hks2 : keysTo F (k + 1) = L := by rw [HKS.out]; simp
          have HKS2 := hid hks2
          clear hks2
          go_wp2
          refine ⟨⟨k + 1, by omega, by go_num, ?_, HBA.out _⟩, by simp [intOf]; omega⟩
          rw [HKS2.out]; exact HOA.out _
        · have hks2 : keysTo F (k + 1) = L ++ [(k : Int)] := by rw [HKS.out]; simp
          have HKS2 := hid hks2
          clear hks2
          have hsz : ((wr.alloc (.cells #[.bool true, .slice ra rn rc] 50)).heap.size) = wr.heap.size + 1 := by simp
          have hnw := one_news (wr.alloc (.cells #[.bool true, .slice ra rn rc] 50)) (.int .i64 k) 3
          rw [hsz] at hnw
          have HNW := hid hnw
          have M3 := hid (Nat.le_trans (HBA.out (.cells #[.bool true, .slice ra rn rc] 50)).size (le_alloc _ (.cells #[.int .i64 (k : Int)] 3)))
          clear hnw hsz
          go_wp2_with (at_builtin; refine wpList_app _ rfl (.tmp 22) (.tmp 24) 25 rfl w1.heap.size 3 (.int .i64 0) 1 8 Try.underlying25 li_int rfl Nat.one_pos (.slice la L.length lc) L.length _ rfl ((HOA.out _).alloc _) (some ⟨wr.heap.size + 1, 0, none⟩) 1 1 [.int .i64 k] rfl rfl no_none HNW.out (li_one _) M1.out M2.out M3.out ?_; refine Stop.of ?_)
          refine Stop.go ?_
          intro a3 c3 w3 own3 g3
          have hB3 : Below w1.heap.size w1 w3 := ((HBA.out _).alloc (HBA.out _).size _).grown g3 M3.out (fun q hq => ((HOA.out (.cells #[.bool true, .slice ra rn rc] 50)).lt q hq).1)
          go_wp2
          refine ⟨⟨k + 1, by omega, by go_num, ?_, hB3⟩, by simp [intOf]; omega⟩
          rw [HKS2.out]
          simpa using own3
      · obtain rfl : n2 = k := by omega
        obtain ⟨va, vc, hva, hi, hmx⟩ := ints_of_own ho rfl
        subst hva
        have HI := hid hi
        have HMX := hid hmx
        have HBB := hid hb
        clear ho hi hmx hb
        go_wp2
        go_ret2
        exact ⟨va, vc, rfl, HMX.out, HI.out, chain HB1.out HBB.out⟩
end Go.Proofs.Ytkmjeegnijohmaa

namespace Go.Proofs.Ytkmjeegnijohmaa
open Go.RowKit
set_option linter.unusedVariables false
attribute [local go_sem] Oper.semAt_some

def missTo (M : Mask) (k : Int) (F : List Frm) : Nat → List Int
  | 0 => []
  | t + 1 => missTo M k F t ++ (if decAt M k F (t + 1) = none then [(t : Int)] else [])
def missF (M : Mask) (k : Int) (F : List Frm) : List Int := missTo M k F F.length
theorem missTo_le (M : Mask) (k : Int) (F : List Frm) : ∀ t, (missTo M k F t).length ≤ t
  | 0 => by simp [missTo]
  | t + 1 => by
    have := missTo_le M k F t
    simp only [missTo, List.length_append]
    split <;> simp <;> omega
def askE (M : Mask) (F : List Frm) (k : Int) : Int := if validB M F = true then (if inB k 0 (colsM M) = true then 0 else 7) else 1

structure MissI (w w3 : World) (ob : Nat) (fp : Nat → Prop) (S : Nat → Prop) (L : List Int) (Z : World) : Prop where
  b : Below w.heap.size w Z
  f : Keep fp w3 Z
  o : ∃ v, Boxed Z ob 25 v ∧ Z.ownsRow (w3.heap.size + 2) 3 1 v L.length (L.map (Value.int .i64)) ∧ ∀ k, v.ownBlock = some k → ¬ S k ∧ k ≠ ob ∧ k ≠ w3.heap.size ∧ k ≠ w3.heap.size + 1
  z : w3.heap.size + 2 ≤ Z.heap.size

theorem own_keep2 {W W' : World} {base : Nat} {T : TypeId} {k n : Nat} {v : Value} {xs : List Value} (h : W.ownsRow base T k v n xs) {K : Nat → Prop} (hk : Keep K W W') (hK : ∀ g, v.ownBlock = some g → K g) : W'.ownsRow base T k v n xs := by
  refine ⟨h.1, ?_⟩
  rcases h.2 with hn | ⟨g, cap, cur, rfl, hbg, hgg, rest⟩
  · exact .inl hn
  · exact .inr ⟨g, cap, cur, rfl, hbg, (hk.block g (Array.getElem?_eq_some_iff.1 hgg).1 (hK g rfl)).trans hgg, rest⟩

theorem MissI.keep {w w3 : World} {ob : Nat} {fp S S' : Nat → Prop} {L : List Int} {A B : World} (h : MissI w w3 ob fp S L A) (h1 : ∀ k, S k → S' k) (h2 : ∀ k, S' k → S k ∨ A.heap.size ≤ k) (h3 : ∀ k, S' k → w3.heap.size + 2 ≤ k)
    (hob : ob < w3.heap.size) (hfp : ∀ k, fp k → k < w3.heap.size) (hw : w.heap.size ≤ w3.heap.size) (hk : Keep (fun k => k ≠ w3.heap.size ∧ k ≠ w3.heap.size + 1 ∧ ¬ S' k) A B) : MissI w w3 ob fp S' L B where
  b := by
    have hz := h.z
    exact hk.below h.b (Nat.le_trans hw (by omega)) (fun k hlt => ⟨by omega, by omega, fun hs => by have := h3 k hs; omega⟩)
  f := h.f.trans (hk.mono fun k hlt => by have := hfp k hlt; exact ⟨by omega, by omega, fun hs => by have := h3 k hs; omega⟩)
  o := by
    obtain ⟨v, hv, ho, hg⟩ := h.o
    have hg' : ∀ k, v.ownBlock = some k → ¬ S' k ∧ k ≠ ob ∧ k ≠ w3.heap.size ∧ k ≠ w3.heap.size + 1 := fun k hk' => by
      obtain ⟨g1, g2⟩ := hg k hk'
      refine ⟨fun hs => ?_, g2⟩
      rcases h2 k hs with g | g
      · exact g1 g
      · have := (ho.lt k hk').2; omega
    exact ⟨v, (hk.block ob hv.lt ⟨by omega, by omega, fun hs => by have := h3 _ hs; omega⟩).trans hv, own_keep2 ho hk (fun g hgk => ⟨(hg' g hgk).2.2.1, (hg' g hgk).2.2.2, (hg' g hgk).1⟩), hg'⟩
  z := Nat.le_trans h.z hk.size

theorem MissI.push {w w3 Z w9 : World} {ob : Nat} {fp Sr : Nat → Prop} {L : List Int} {v v' : Value} {x : Int} {o8 : Obj}
    (hI : MissI w w3 ob fp Sr L Z) (hBo : Boxed Z ob 25 v) (ho : Z.ownsRow (w3.heap.size + 2) 3 1 v L.length (L.map (Value.int .i64)))
    (hg : ∀ k, v.ownBlock = some k → ¬ Sr k ∧ k ≠ ob ∧ k ≠ w3.heap.size ∧ k ≠ w3.heap.size + 1)
    (g5 : (Z.alloc o8).grownBy w9 v.ownBlock) (own5 : w9.ownsRow (w3.heap.size + 2) 3 1 v' (L.length + 1) (L.map (Value.int .i64) ++ [.int .i64 x]))
    (hat : v'.ownBlock = v.ownBlock ∨ v'.ownBlock = some (Z.alloc o8).heap.size) (hSr : ∀ k, Sr k → w3.heap.size + 2 ≤ k ∧ k < Z.heap.size) (hob : ob < w3.heap.size) (hfp : ∀ k, fp k → k < w3.heap.size ∧ k ≠ ob) (hw : w.heap.size ≤ ob) :
    Z.heap.size ≤ (w9.setCell ⟨ob, 0, none⟩ v').heap.size ∧ (∀ k, (fp k ∨ k = w3.heap.size ∨ k = w3.heap.size + 1 ∨ Sr k) → (w9.setCell ⟨ob, 0, none⟩ v').heap[k]? = Z.heap[k]?) ∧ MissI w w3 ob fp Sr (L ++ [x]) (w9.setCell ⟨ob, 0, none⟩ v') := by
  have hz := hI.z
  have hlo : ∀ k, v.ownBlock = some k → w3.heap.size + 2 ≤ k := fun k hk => (ho.lt k hk).1
  have ha : Below Z.heap.size Z (Z.alloc o8) := (Below.refl _ _).alloc (Nat.le_refl _) _
  have hset : Keep (fun k => k ≠ ob) w9 (w9.setCell ⟨ob, 0, none⟩ v') := Keep.set w9 ob 0 v'
  have hT : Keep (fun k => k ≠ ob ∧ some k ≠ v.ownBlock) Z (w9.setCell ⟨ob, 0, none⟩ v') :=
    (Keep.of_below ha).trans (((Keep.grown g5).mono fun k hk => hk.2).trans (hset.mono fun k hk => hk.1))
  have hPk : ∀ k, (fp k ∨ k = w3.heap.size ∨ k = w3.heap.size + 1 ∨ Sr k) → k < Z.heap.size ∧ k ≠ ob ∧ some k ≠ v.ownBlock := fun k hk => by
    rcases hk with h | h | h | h
    · exact ⟨by have := (hfp k h).1; omega, (hfp k h).2, fun e => by have := hlo k e.symm; have := (hfp k h).1; omega⟩
    · exact ⟨by omega, by omega, fun e => (hg k e.symm).2.2.1 h⟩
    · exact ⟨by omega, by omega, fun e => (hg k e.symm).2.2.2 h⟩
    · exact ⟨(hSr k h).2, by have := (hSr k h).1; omega, fun e => (hg k e.symm).1 h⟩
  have hat' : ∀ k, v'.ownBlock = some k → ¬ Sr k ∧ k ≠ ob ∧ k ≠ w3.heap.size ∧ k ≠ w3.heap.size + 1 := fun k hk => by
    rcases hat with e | e
    · exact hg k (by rw [← e]; exact hk)
    · rw [e] at hk
      have : (Z.alloc o8).heap.size = Z.heap.size + 1 := by simp
      cases hk
      exact ⟨fun h => by have := (hSr _ h).2; omega, by omega, by omega, by omega⟩
  refine ⟨hT.size, fun k hk => hT.block k (hPk k hk).1 (hPk k hk).2, ⟨hT.below hI.b (by have := hI.b.size; omega) (fun k hlt => ⟨by omega, fun e => by have := hlo k e.symm; omega⟩), hI.f.trans (hT.mono fun k hk => (hPk k (.inl hk)).2), ⟨v', ?_, ?_, hat'⟩, Nat.le_trans hz hT.size⟩⟩
  · refine Boxed.set v' (v := v) ?_
    have h1 : Boxed (Z.alloc o8) ob 25 v := hBo.alloc _
    exact h1.kept g5 (fun e => (hg ob e.symm).2.1 rfl)
  · rw [List.length_append, List.map_append]
    exact own_set own5 v' (fun g hgk => (hat' g hgk).2.1)

theorem asked_c (w : World) (a a2 : Option Addr) (n cap n2 cap2 : Nat) (M : Mask) (F : List Frm) (k : Int) (hn : M.length = n) (hm : n ≤ maxLen) (H : RowsAt w a M) (hn2 : F.length = n2) (hm2 : n2 ≤ maxLen) (H2 : FramesAt w a2 F) :
    Calls Try.prog 47 #[.slice a n cap, .slice a2 n2 cap2, .int .i64 k] w fun e w' => e = .returned (.int .i64 (askE M F k)) ∧ Below w.heap.size w w' := by
  have HV := hid (svalid_c w a n cap M hn hm H a2 n2 cap2 F hn2 hm2 H2)
  cases hV : validB M F
  · have he : askE M F k = 1 := by unfold askE; rw [hV]; rfl
    rw [hV] at HV
    rw [he]
    clear hn H hn2 H2 hV he
    go_enter Try.func47, Try.ntmps47
    go_wp2_with (go_at_call 18; refine HV.out.mono ?_; rintro e w1 ⟨rfl, hb1⟩)
    go_ret
    exact ⟨rfl, hb1⟩
  · obtain ⟨_, h1, _, _, _⟩ := okM_ok (validB_ok hV).1
    obtain ⟨b, off, ra, rc, rfl, hb, hc⟩ := rows_head H (by omega)
    have i0 : (0 : Int) < (n : Int) := by omega
    have HC0 := hid (show ∀ X : World, Below w.heap.size w X → X.cell? ⟨b, off, none⟩ = some (.slice ra (colsM M) rc) from fun X hX => (hX.cell (p := ⟨b, off, none⟩) hb).trans hc)
    have HT := hid (fun X => swithin_c k 0 (colsM M) X)
    have he : askE M F k = if inB k 0 (colsM M) = true then 0 else 7 := by unfold askE; rw [hV]; rfl
    rw [hV] at HV
    rw [he]
    obtain ⟨W, hW⟩ : ∃ W, W = colsM M := ⟨_, rfl⟩
    rw [← hW] at HT HC0 ⊢
    obtain ⟨B, hB⟩ : ∃ B, B = inB k 0 (W : Int) := ⟨_, rfl⟩
    rw [← hB] at HT ⊢
    clear hn H hn2 H2 hV he hc hW hB
    cases B
    all_goals
      go_enter Try.func47, Try.ntmps47
      go_wp2_with first
        | (go_at_call 18; refine HV.out.mono ?_; rintro e w1 ⟨rfl, hb1⟩; have hc1' := HC0.out w1 hb1)
        | (go_at_call 31; refine (HT.out _).mono ?_; rintro e w2 ⟨rfl, rfl⟩)
      go_ret
      exact ⟨rfl, hb1⟩
end Go.Proofs.Ytkmjeegnijohmaa

namespace Go.Proofs.Ytkmjeegnijohmaa
open Go.RowKit
set_option linter.unusedVariables false
attribute [local go_sem] Oper.semAt_some

theorem missTo_snoc (M : Mask) (k : Int) (F : List Frm) (pre : List Nat) {t : Nat} (h : pre ++ [t] <+: List.range F.length) : pre = List.range t ∧ t < F.length := by
  have ht : t < F.length := List.mem_range.1 (h.subset (List.mem_append_right _ (List.mem_singleton.2 rfl)))
  obtain ⟨r, hr⟩ := h
  have hl : pre.length = t := by
    have h1 : (List.range F.length)[pre.length]? = some t := by rw [← hr]; simp
    have h2 := (List.getElem?_eq_some_iff.1 h1).2
    rw [List.getElem_range] at h2; exact h2
  refine ⟨?_, ht⟩
  have h3 : pre = (List.range F.length).take pre.length := by rw [← hr]; simp
  rw [h3, hl, List.take_range]
  congr 1; omega

set_option maxRecDepth 100000 in
set_option maxHeartbeats 1000000 in
theorem missing_c (w : World) (a a2 : Option Addr) (n cap n2 cap2 : Nat) (M : Mask) (F : List Frm) (k : Int) (hn : M.length = n) (hn2 : F.length = n2) (hm : n ≤ maxLen) (H : RowsAt w a M) (H2 : FramesAt w a2 F) (hV : validB M F = true) :
    Calls Try.prog 48 #[.slice a n cap, .slice a2 n2 cap2, .int .i64 k] w fun e w' => ∃ v base, e = .returned v ∧ w.heap.size ≤ base ∧ w'.ownsRow base 3 1 v (missF M k F).length ((missF M k F).map (Value.int .i64)) ∧ Below w.heap.size w w' := by
  have heq := fun (w : World) (a : Option Addr) (n c : Nat) => Lib.run_eql_slice_nil (P := Try.prog) w 25 3 a n c 0 0 Try.underlying25
  obtain ⟨hM, h1, h60, _⟩ := validB_ok hV
  have hfv : ∀ f ∈ F, frB M f = true := by
    unfold validB at hV
    simp only [Bool.and_eq_true, List.all_eq_true] at hV
    exact hV.2
  have HMF := hid (show missF M k F = missTo M k F n2 by unfold missF; rw [hn2])
  have HML := hid (fun t => missTo_le M k F t)
  have HMT := hid (show ∀ t, missTo M k F (t + 1) = missTo M k F t ++ (if decAt M k F (t + 1) = none then [(t : Int)] else []) from fun t => rfl)
  have HPR := hid (fun (pre : List Nat) (t : Nat) (h : pre ++ [t] <+: List.range n2) => missTo_snoc M k F pre (by rw [hn2]; exact h))
  have hn60 : n2 ≤ 60 := by omega
  obtain ⟨w1, hw1⟩ : ∃ w1, w1 = w.alloc (.cells #[.slice none 0 0] 25) := ⟨_, rfl⟩
  have hb1 : Below w.heap.size w w1 := by rw [hw1]; exact (Below.refl _ _).alloc (Nat.le_refl _) _
  have bx : Boxed w1 w.heap.size 25 (.slice none 0 0) := by rw [hw1]; exact Boxed.new w _ _
  have hs1 : w1.heap.size = w.heap.size + 1 := by rw [hw1]; simp
  obtain ⟨w3, hw3⟩ : ∃ w3, w3 = ((w1.alloc (.cells #[.slice a n cap] 23)).alloc (.cells #[.slice a2 n2 cap2] 24)).alloc (.cells #[.int .i64 k] 3) := ⟨_, rfl⟩
  have c1 : Boxed w3 w1.heap.size 23 (.slice a n cap) := by rw [hw3]; exact ((Boxed.new w1 _ _).alloc _).alloc _
  have c2 : Boxed w3 (w1.heap.size + 1) 24 (.slice a2 n2 cap2) := by rw [hw3]; have := (Boxed.new (w1.alloc (.cells #[.slice a n cap] 23)) 24 (.slice a2 n2 cap2)).alloc (.cells #[.int .i64 k] 3); simpa using this
  have c3 : Boxed w3 (w1.heap.size + 2) 3 (.int .i64 k) := by rw [hw3]; have := Boxed.new ((w1.alloc (.cells #[.slice a n cap] 23)).alloc (.cells #[.slice a2 n2 cap2] 24)) 3 (.int .i64 k); simpa using this
  have hs3 : w3.heap.size = w1.heap.size + 3 := by rw [hw3]; simp
  have hb3 : Below w1.heap.size w1 w3 := by rw [hw3]; exact (((Below.refl _ _).alloc (Nat.le_refl _) _).alloc (by simp) _).alloc (by simp; omega) _
  have hB3 : Below w.heap.size w w3 := chain hb1 hb3
  have bx3 : Boxed w3 w.heap.size 25 (.slice none 0 0) := (hb3.block _ (by omega)).trans bx
  obtain ⟨fp, hfp⟩ : ∃ fp : Nat → Prop, fp = fun q => q < w3.heap.size ∧ q ≠ w.heap.size := ⟨_, rfl⟩
  have hIT := dec_iter w3 fp (w1.heap.size + 1) w1.heap.size (w1.heap.size + 2) a a2 n cap n2 cap2 M F k hn hM hn2 (by omega) hfv (by rw [hfp]; exact fun q h => h.1)
    (fun X hX hq => by
      rw [hfp] at hq
      have hqq : ∀ q, q < w.heap.size → X.heap[q]? = w.heap[q]? := fun q hlt => (hq q ⟨by omega, by omega⟩).trans (hB3.block q hlt)
      refine ⟨⟨RowsAt.blk H hqq, ?_⟩, cell_blk c2.cell (hq _ ⟨by omega, by omega⟩), cell_blk c1.cell (hq _ ⟨by omega, by omega⟩), cell_blk c3.cell (hq _ ⟨by omega, by omega⟩)⟩
      intro j hj
      obtain ⟨b, off, ra, rn, rc, e, hlt, k0, k1, hn', hm', hi⟩ := H2 j hj
      refine ⟨b, off, ra, rn, rc, e, lt_blk hlt (hqq b hlt), cell_blk k0 (hqq b hlt), cell_blk k1 (hqq b hlt), hn', hm', hi.blk hqq⟩)
  rw [hs1] at hIT hs3
  have HIT := hid hIT
  have HFP := hid hfp
  have HB3 := hid hB3
  have HS3 := hid hs3
  have BX3 := hid bx3
  have hww : w3 = (((w.alloc (.cells #[.slice none 0 0] 25)).alloc (.cells #[.slice a n cap] 23)).alloc (.cells #[.slice a2 n2 cap2] 24)).alloc (.cells #[.int .i64 k] 3) := by rw [hw3, hw1]
  have HWW := hid hww
  have hdc := decoded_c w1 a a2 n cap n2 cap2 k
  rw [hs1, hw1] at hdc
  have HDC := hid hdc
  clear hn hn2 hm H H2 hV hfv hM h1 h60 hw1 hb1 bx hs1 hw3 c1 c2 c3 hs3 hb3 hB3 bx3 hfp hIT hww hdc
  obtain ⟨i0, hi0, hz0, hz1, hz2⟩ := info_parts li_int
  refine callsIn_wide (n := 0) |>.1 ?_
  refine callsIn_of_wp_marks Try.func48 rfl trivial ?_ rfl
  simp only [Try.ntmps48, List.size_toArray, List.length_cons, List.length_nil, Nat.reduceAdd, Nat.reduceSub, Array.replicate_succ, Array.replicate_zero, List.push_toArray, List.append_toArray, List.nil_append, List.cons_append]
  gi_wp2_with (refine ⟨trivial, rfl, ?_⟩; gi_at_call 70; refine (callsIn_wide.2 HDC.out).mono ?_; rintro e w' ⟨rfl, hw'⟩; rw [← HWW.out] at hw'; have hw2 := hw'.symm; clear hw'; subst hw2; refine Stop.of ?_)
  refine Stop.go ?_
  gi_wp2
  refine range_p (gf := 83) (lb := #[.pointer (some ⟨w.heap.size + 1 + 1, 0, none⟩), .pointer (some ⟨w.heap.size + 1, 0, none⟩), .pointer (some ⟨w.heap.size + 1 + 2, 0, none⟩)]) (xs := List.range n2) (fp := fp) (V := DecV M k F) rfl (enters_of Try.func83 (by kernel_rfl) rfl)
    HIT.out (Below.refl _ _) (by rw [HFP.out]; exact fun q h => h.1)
    (fun Sr pre Z => MissI w w3 w.heap.size fp Sr (missTo M k F pre.length) Z)
    (fun _ _ _ _ => False) ?hI (fun _ _ _ _ _ _ h => h.elim) ?hV ?h0
    (fun v u a' Z => a' = { tmps := #[.slice a n cap, .slice a2 n2 cap2, .int .i64 k, undef, undef, undef, .slice none 0 0, .pointer (some ⟨w.heap.size, 0, none⟩), v, u, .slice a n cap, .slice a2 n2 cap2, .int .i64 k, .func (.func 83) #[] #[.pointer (some ⟨w.heap.size + 1 + 1, 0, none⟩), .pointer (some ⟨w.heap.size + 1, 0, none⟩), .pointer (some ⟨w.heap.size + 1 + 2, 0, none⟩)], v, u, undef, undef, undef, undef, undef, undef, undef], defers := [] }) ?hAx ?hassign ?hbody ?hdone ?hstop
  case hI =>
    intro Sr Sr' s A B hIA h1 h2 h3 h4 hk
    have hs := HS3.out
    exact hIA.keep h1 h2 h3 (by omega) (by rw [HFP.out]; exact fun q h => h.1) (HB3.out.size) hk
  case hV =>
    intro Sr x v u A B hv hk
    exact hv.keep hk (fun q hq => ⟨by omega, by omega⟩)
  case h0 =>
    intro Z hk hZ
    have hs := HS3.out
    exact ⟨hk.below HB3.out HB3.out.size (fun q hq => by show q < w3.heap.size; omega), hk.mono (by rw [HFP.out]; exact fun q h => h.1), ⟨_, (hk.block _ BX3.out.lt (by show w.heap.size < w3.heap.size; omega)).trans BX3.out, World.ownsRow_nil _ _ _ _, fun q hq => by simp [Value.ownBlock] at hq⟩, hZ⟩
  case hAx =>
    intro v u a' A B h _
    exact h
  case hassign =>
    rintro l Sr x v u Z K hZ hv hK
    gi_wp2
    exact hK _ _ (Below.refl _ _) rfl
  case hbody =>
    rintro l' Sr pre t _ u _ Z hpre hSr hI ⟨rfl, ho⟩ rfl hZ hDo hLo
    obtain ⟨hpr, ht⟩ := HPR.out pre t hpre
    have hlen : pre.length = t := by rw [hpr]; simp
    have hlen1 : (pre ++ [t]).length = t + 1 := by rw [List.length_append, hlen]; rfl
    rw [hlen] at hI
    have HL1 := hid hlen1
    have hmt := HMT.out t
    have HI := hid hI
    have HSR := hid hSr
    rcases ho with ⟨hno, rfl⟩ | ⟨x, b, c, hx, rfl, hxb, hxS, hxs, hx1, hxm⟩
    · rw [if_pos hno] at hmt
      obtain ⟨v, hvb, hvo, hvg⟩ := hI.o
      have hbc := hvb.cell
      have hbf := hvb.frozen
      have hbl := hvb.lt
      have HVB := hid hvb
      have HVO := hid hvo
      have HVG := hid hvg
      have HMT2 := hid hmt
      have hml := HML.out t
      obtain ⟨L, hL⟩ : ∃ L, L = missTo M k F t := ⟨_, rfl⟩
      rw [← hL] at HVO hml HI HMT2
      have M1 := hid (show L.length + 1 ≤ maxLen by unfold maxLen; rw [HPR.out pre t hpre |>.1] at hpre; have := (HPR.out _ t hpre).2; have hq : t < n2 := List.mem_range.1 (hpre.subset (List.mem_append_right _ (List.mem_singleton.2 rfl))); omega)
      have M2 := hid (show (L.length + 1) * 8 ≤ 140737488355328 by have hq : t < n2 := List.mem_range.1 (hpre.subset (List.mem_append_right _ (List.mem_singleton.2 rfl))); omega)
      have M3 := hid (show w3.heap.size + 2 ≤ (Z.alloc (.cells #[.int .i64 (t : Int)] 3)).heap.size by simp; omega)
      clear hno hmt hI hvb hvo hvg hL hpr hlen hlen1 hpre hSr hDo hLo hml
      gi_wp2_with (gi_at_builtin; go_loud (refine wpListIn_append_own_at _ rfl _ _ 25 rfl (w3.heap.size + 2) 3 i0 (.int .i64 0) 1 8 Try.underlying25 hi0 hz0 hz1 hz2 rfl (by decide) v _ _ rfl (HVO.out.alloc _) ⟨Z.heap.size, 0, none⟩ 1 1 [.int .i64 t] rfl rfl (one_news Z _ _ _ rfl) (li_one _) M1.out M2.out M3.out ?_; refine Stop.of ?_))
      refine Stop.go ?_
      intro v5 w9 own5 g5 _ hat5
      obtain ⟨a5, c5, rfl⟩ := ownsRow_slice own5
      have hb9 : Boxed w9 w.heap.size 25 v := (HVB.out.alloc _).kept g5 (fun e => (HVG.out _ e.symm).2.1 rfl)
      have hc9 := hb9.cell
      have hf9 := hb9.frozen
      have hl9 := hb9.lt
      have hs := HS3.out
      have hpush := MissI.push HI.out HVB.out HVO.out HVG.out g5 own5 (by rw [World.size_alloc]; exact hat5) HSR.out (by omega) (by rw [HFP.out]; exact fun q h => h) (Nat.le_refl _)
      have HPU := hid hpush
      clear hb9 hpush own5 g5 hat5
      gi_wp2
      obtain ⟨r1, r2, r3⟩ := HPU.out
      refine ⟨r1, r2, ?_⟩
      show MissI w w3 w.heap.size fp Sr (missTo M k F (pre ++ [t]).length) _
      rw [HL1.out, HMT2.out]
      exact r3
    · rw [if_neg (by rw [hx]; simp), List.append_nil] at hmt
      have HMT2 := hid hmt
      clear hmt hI hpr hlen hlen1 hpre hSr hDo hLo hx hxb hxS hxs hx1 hxm
      gi_wp2
      refine ⟨Nat.le_refl _, fun _ _ => rfl, ?_⟩
      show MissI w w3 w.heap.size fp Sr (missTo M k F (pre ++ [t]).length) _
      rw [HL1.out, HMT2.out]
      exact HI.out
  case hdone =>
    intro Sr Z hZ hSr hI hmk
    rw [List.length_range] at hI
    obtain ⟨v, hvb, hvo, hvg⟩ := hI.o
    have hcv := hvb.cell
    have HI := hid hI
    have HVO := hid hvo
    have HVG := hid hvg
    have HMR := hid hmk
    clear hI hvb hvo hvg hmk hSr
    gi_wp2
    refine marks_leave [w3.heap.size] Z (by simp) (fun h hh => by rw [List.mem_singleton.1 hh]; exact HMR.out) fun w' hk => ?_
    refine ⟨_, results_tmp rfl _ _ _, v, w3.heap.size + 2, rfl, by have := HB3.out.size; omega, ?_, hk.below HI.out.b HI.out.b.size (fun q hq hh => by rw [List.mem_singleton.1 hh] at hq; have := HB3.out.size; omega)⟩
    rw [HMF.out]
    exact own_keep2 HVO.out hk (fun g hgk hh => (HVG.out g hgk).2.2.1 (List.mem_singleton.1 hh))
  case hstop =>
    intro Sr c pre Z hpre hSr hI hmk
    exact hI.elim
end Go.Proofs.Ytkmjeegnijohmaa

namespace Go.Proofs.Ytkmjeegnijohmaa
open Go.RowKit
set_option linter.unusedVariables false

def missL (M : Mask) (F : List Frm) (k : Int) : List Int := if askE M F k = 0 then missF M k F else []
def harmE (M : Mask) (F : List Frm) (i k : Int) : Int := if askE M F k = 0 then (if inB i 0 ((F.length : Int) - 1) = true then 0 else 5) else askE M F k
def harmF (M : Mask) (F : List Frm) (i k : Int) : Int := ((missF M k (loseF F i)).length : Int) - ((missF M k F).length : Int)
def harmV (M : Mask) (F : List Frm) (i k : Int) : Int := if harmE M F i k = 0 then harmF M F i k else 0

theorem askE_ok {M : Mask} {F : List Frm} {k : Int} (h : askE M F k = 0) : validB M F = true ∧ 0 ≤ k ∧ k ≤ colsM M := by
  unfold askE at h
  split at h
  · rename_i hv
    split at h
    · rename_i hk; unfold inB at hk; simp at hk; exact ⟨hv, hk⟩
    · simp at h
  · simp at h
theorem lose_valid {M : Mask} {F : List Frm} (i : Int) (h : validB M F = true) : validB M (loseF F i) = true := by
  unfold validB inB at h ⊢
  simp only [Bool.and_eq_true, decide_eq_true_eq, List.all_eq_true] at h ⊢
  obtain ⟨⟨⟨hM, h1⟩, h2⟩, h3⟩ := h
  have hk : ∀ t, t < F.length → (loseAt F i t).1 = (F[t]?.getD (false, [])).1 ∧ frB M (loseAt F i t) = true := fun t ht => by
    unfold loseAt
    split
    · exact ⟨rfl, by unfold frB; simp⟩
    · refine ⟨rfl, ?_⟩
      rw [List.getElem?_eq_getElem ht]; exact h3 _ (List.getElem_mem ht)
  refine ⟨⟨⟨hM, by rw [loseF_len]; exact h1⟩, ?_⟩, fun f hf => ?_⟩
  · have h0 : (loseF F i)[0]?.getD (false, []) = loseAt F i 0 := by
      unfold loseF; rw [List.getElem?_map, List.getElem?_range (by omega)]; rfl
    rw [h0, (hk 0 (by omega)).1]; exact h2
  · unfold loseF at hf
    obtain ⟨t, ht, rfl⟩ := List.mem_map.1 hf
    exact (hk t (List.mem_range.1 ht)).2

theorem sMissing_c (w : World) (a a2 : Option Addr) (n cap n2 cap2 : Nat) (M : Mask) (F : List Frm) (k : Int) (hn : M.length = n) (hm : n ≤ maxLen) (H : RowsAt w a M) (hn2 : F.length = n2) (hm2 : n2 ≤ maxLen) (H2 : FramesAt w a2 F) :
    Calls Try.prog 22 #[.slice a n cap, .slice a2 n2 cap2, .int .i64 k] w fun e w' => ∃ va vc, e = .returned (.tuple #[.slice va (missL M F k).length vc, .int .i64 (askE M F k)]) ∧ IntsAt w' va (missL M F k) ∧ Below w.heap.size w w' := by
  have HA := hid (asked_c w a a2 n cap n2 cap2 M F k hn hm H hn2 hm2 H2)
  by_cases h0 : askE M F k = 0
  · have hL : missL M F k = missF M k F := by unfold missL; rw [if_pos h0]
    have hV := (askE_ok h0).1
    have HMS := hid (fun (X : World) (hX : Below w.heap.size w X) => missing_c X a a2 n cap n2 cap2 M F k hn hn2 hm (H.below hX) (H2.below hX) hV)
    rw [h0] at HA
    rw [hL, h0]
    obtain ⟨L, hLL⟩ : ∃ L, L = missF M k F := ⟨_, rfl⟩
    rw [← hLL] at HMS ⊢
    clear hn H hn2 H2 h0 hL hV hLL
    go_enter Try.func22, Try.ntmps22
    go_wp2_with first
      | (go_at_call 47; refine HA.out.mono ?_; rintro e w1 ⟨rfl, hb1⟩)
      | (go_at_call 48; refine (HMS.out _ hb1).mono ?_; rintro e w2 ⟨v, base, rfl, _, ho, hb2⟩; refine Stop.of ?_)
    refine Stop.go ?_
    obtain ⟨va, vc, rfl, hi, _⟩ := ints_of_own ho rfl
    have HI := hid hi
    have HB := hid (chain hb1 hb2)
    clear ho hi hb1 hb2
    go_wp2
    go_ret2
    exact ⟨va, vc, rfl, HI.out, HB.out⟩
  · have hL : missL M F k = [] := by unfold missL; rw [if_neg h0]
    have hne : (askE M F k != 0) = true := by simpa using h0
    rw [hL]
    obtain ⟨E, hE⟩ : ∃ E, E = askE M F k := ⟨_, rfl⟩
    rw [← hE] at HA hne ⊢
    clear hn H hn2 H2 h0 hL hE
    go_enter Try.func22, Try.ntmps22
    go_wp2_with first
      | (go_at_call 47; refine HA.out.mono ?_; rintro e w1 ⟨rfl, hb1⟩)
    go_ret2
    exact ⟨none, 0, rfl, fun j hj => by simp at hj, hb1⟩

theorem harm_c (w : World) (a a2 : Option Addr) (n cap n2 cap2 : Nat) (M : Mask) (F : List Frm) (i : Nat) (k : Int) (hn : M.length = n) (hm : n ≤ maxLen) (H : RowsAt w a M) (hn2 : F.length = n2) (H2 : FramesAt w a2 F) (hV : validB M F = true) (hi : i < n2) :
    Calls Try.prog 49 #[.slice a n cap, .slice a2 n2 cap2, .int .i64 i, .int .i64 k] w fun e w' => e = .returned (.int .i64 (harmF M F i k)) ∧ Below w.heap.size w w' := by
  obtain ⟨hM, h1, h60, hl⟩ := validB_ok hV
  have HLO := hid (lose_c w a2 n2 cap2 F i hn2 (by omega) hl H2 hi)
  have HM1 := hid (fun (X : World) (hX : Below w.heap.size w X) (va : Option Addr) (vn vc : Nat) (hvn : (loseF F i).length = vn) (hf : FramesAt X va (loseF F i)) => missing_c X a va n cap vn vc M (loseF F i) k hn hvn hm (H.below hX) hf (lose_valid i hV))
  have HM2 := hid (fun (X : World) (hX : Below w.heap.size w X) => missing_c X a a2 n cap n2 cap2 M F k hn hn2 hm (H.below hX) (H2.below hX) hV)
  have hle1 : (missF M k (loseF F i)).length ≤ n2 := by have := missTo_le M k (loseF F i) (loseF F i).length; rw [loseF_len, hn2] at this; unfold missF; rw [loseF_len, hn2]; exact this
  have hle2 : (missF M k F).length ≤ n2 := by have := missTo_le M k F F.length; rw [hn2] at this; unfold missF; rw [hn2]; exact this
  have hll : (loseF F i).length = n2 := by rw [loseF_len, hn2]
  have HF := hid (show harmF M F i k = ((missF M k (loseF F i)).length : Int) - ((missF M k F).length : Int) from rfl)
  obtain ⟨G, hG⟩ : ∃ G, G = loseF F i := ⟨_, rfl⟩
  rw [← hG] at HLO HM1 hle1 HF hll
  obtain ⟨L1, hL1⟩ : ∃ L, L = missF M k G := ⟨_, rfl⟩
  obtain ⟨L2, hL2⟩ : ∃ L, L = missF M k F := ⟨_, rfl⟩
  rw [← hL1] at HM1 hle1 HF
  rw [← hL2] at HM2 hle2 HF
  have hw : wrap64 ((L1.length : Int) - (L2.length : Int)) = harmF M F i k := by rw [HF.out]; unfold wrap64; omega
  obtain ⟨z, hz⟩ : ∃ z, z = harmF M F i k := ⟨_, rfl⟩
  rw [← hz] at hw ⊢
  have hw2 : IntKind.i64.wrap ((L1.length : Int) - (L2.length : Int)) = z := by rw [IntWalk.i64_left]; exact hw
  have HLL := hid hll
  clear hn hm H hn2 H2 hV hi hM h1 h60 hl hle1 hle2 hG hL1 hL2 hz hll HF
  go_enter Try.func49, Try.ntmps49
  go_wp2_with first
    | (go_at_call 71; refine HLO.out.mono ?_; rintro e w1 ⟨v1, rfl, ho1, hb1⟩; refine Stop.of ?_)
  refine Stop.go ?_
  obtain ⟨va, vc, rfl, _, hf⟩ := ho1.reads
  have HB1 := hid hb1
  have HMM := hid (HM1.out w1 hb1 va G.length vc rfl hf)
  clear ho1 hf hb1 HLO HM1
  go_wp2_with first
    | (go_at_call 48; refine HMM.out.mono ?_; rintro e w2 ⟨v2, base2, rfl, _, ho2, hb2⟩; refine Stop.of ?_)
  refine Stop.go ?_
  obtain ⟨ma, mc, rfl⟩ := ownsRow_slice ho2
  have HB2 := hid (chain HB1.out hb2)
  clear ho2 hb2 HB1 HMM
  go_wp2_with first
    | (go_at_call 48; refine (HM2.out _ HB2.out).mono ?_; rintro e w3 ⟨v3, base3, rfl, _, ho3, hb3⟩; refine Stop.of ?_)
  refine Stop.go ?_
  obtain ⟨na, nc, rfl⟩ := ownsRow_slice ho3
  have HB3 := hid (chain HB2.out hb3)
  clear ho3 hb3 HB2 HM2
  go_wp2
  go_ret
  exact ⟨rfl, HB3.out⟩

theorem sHarm_c (w : World) (a a2 : Option Addr) (n cap n2 cap2 : Nat) (M : Mask) (F : List Frm) (i k : Int) (hn : M.length = n) (hm : n ≤ maxLen) (H : RowsAt w a M) (hn2 : F.length = n2) (hm2 : n2 ≤ maxLen) (H2 : FramesAt w a2 F) :
    Calls Try.prog 23 #[.slice a n cap, .slice a2 n2 cap2, .int .i64 i, .int .i64 k] w fun e w' => e = .returned (.tuple #[.int .i64 (harmV M F i k), .int .i64 (harmE M F i k)]) ∧ Below w.heap.size w w' := by
  have HA := hid (asked_c w a a2 n cap n2 cap2 M F k hn hm H hn2 hm2 H2)
  by_cases h0 : askE M F k = 0
  · have hV := (askE_ok h0).1
    obtain ⟨_, h1, h60, _⟩ := validB_ok hV
    have hn60 : n2 ≤ 60 := by omega
    have HW := hid (fun X => swithin_c i 0 ((n2 : Int) - 1) X)
    have hE : harmE M F i k = if inB i 0 ((n2 : Int) - 1) = true then 0 else 5 := by unfold harmE; rw [if_pos h0, hn2]
    have hw : wrap64 ((n2 : Int) - 1) = (n2 : Int) - 1 := by unfold wrap64; omega
    have hw2 : IntKind.i64.wrap ((n2 : Int) - 1) = (n2 : Int) - 1 := by rw [IntWalk.i64_left]; exact hw
    rw [h0] at HA
    cases hI : inB i 0 ((n2 : Int) - 1)
    · rw [hI] at HW hE
      have hE' : harmE M F i k = 5 := by rw [hE]; rfl
      have hV' : harmV M F i k = 0 := by unfold harmV; rw [hE']; rfl
      rw [hE', hV']
      clear hn H hn2 H2 h0 hV hE hE' hV' hI h1 h60
      go_enter Try.func23, Try.ntmps23
      go_wp2_with first
        | (go_at_call 47; refine HA.out.mono ?_; rintro e w1 ⟨rfl, hb1⟩)
        | (go_at_call 31; refine (HW.out _).mono ?_; rintro e w2 ⟨rfl, rfl⟩)
      go_ret2
      exact ⟨rfl, hb1⟩
    · have hE' : harmE M F i k = 0 := by rw [hE, hI]; rfl
      have hV' : harmV M F i k = harmF M F i k := by unfold harmV; rw [if_pos hE']
      rw [hI] at HW
      rw [hE', hV']
      have hi' : 0 ≤ i ∧ i ≤ (n2 : Int) - 1 := by unfold inB at hI; simpa using hI
      obtain ⟨q, rfl⟩ : ∃ q : Nat, i = (q : Int) := ⟨i.toNat, by omega⟩
      have HH := hid (fun (X : World) (hX : Below w.heap.size w X) => harm_c X a a2 n cap n2 cap2 M F q k hn hm (H.below hX) hn2 (H2.below hX) hV (by omega))
      clear hn H hn2 H2 h0 hV hE hE' hV' hI h1 h60 hi'
      go_enter Try.func23, Try.ntmps23
      go_wp2_with first
        | (go_at_call 47; refine HA.out.mono ?_; rintro e w1 ⟨rfl, hb1⟩)
        | (go_at_call 31; refine (HW.out _).mono ?_; rintro e w2 ⟨rfl, rfl⟩)
        | (go_at_call 49; refine (HH.out _ hb1).mono ?_; rintro e w3 ⟨rfl, hb3⟩)
      go_ret2
      exact ⟨rfl, chain hb1 hb3⟩
  · have hE' : harmE M F i k = askE M F k := by unfold harmE; rw [if_neg h0]
    have hV' : harmV M F i k = 0 := by unfold harmV; rw [hE', if_neg h0]
    have hne : (askE M F k != 0) = true := by simpa using h0
    rw [hE', hV']
    obtain ⟨E, hE⟩ : ∃ E, E = askE M F k := ⟨_, rfl⟩
    rw [← hE] at HA hne ⊢
    clear hn H hn2 H2 h0 hE' hV' hE
    go_enter Try.func23, Try.ntmps23
    go_wp2_with first
      | (go_at_call 47; refine HA.out.mono ?_; rintro e w1 ⟨rfl, hb1⟩)
    go_ret2
    exact ⟨rfl, hb1⟩
end Go.Proofs.Ytkmjeegnijohmaa

namespace Go.Proofs.Ytkmjeegnijohmaa
open Go.RowKit
set_option linter.unusedVariables false

def TruthB (e : Ending) : Prop := ∃ b, e = .returned (.bool b)
theorem TruthB.mk (b : Bool) : TruthB (.returned (.bool b)) := ⟨b, rfl⟩

set_option maxHeartbeats 1000000 in
theorem l8fit_c (w : World) (a : Option Addr) (n cap : Nat) (M : Mask) (hn : M.length = n) (hm : n ≤ maxLen) (H : RowsAt w a M) :
    Calls Try.prog 6 #[.slice a n cap] w fun e w' => TruthB e ∧ w = w' := by
  have HN := hid hn
  have HH := hid H
  unfold maxLen at hm
  clear hn H
  go_enter Try.func6, Try.ntmps6
  go_wp2
  go_loop [7] (fun i => ∃ k : Nat, k ≤ n ∧ i = .int .i64 k) (fun i => n - (intOf i).toNat)
  case atStart => exact ⟨0, Nat.zero_le _, rfl⟩
  case round =>
    obtain ⟨k, hk, rfl⟩ := hrel
    by_cases hlt : k < n
    · obtain ⟨b, off, ra, rn, rc, rfl, hbs, hc, hrn, hrm, hri⟩ := HH.out k (by rw [HN.out]; exact hlt)
      clear hrn hri
      by_cases h1 : (6 : Int) < (rn : Int) <;> by_cases h2 : (rn : Int) ≤ 10 <;> by_cases h3 : (20 : Int) < (rn : Int)
      all_goals
        go_wp2
        first
          | (go_round
             case rel => exact ⟨k + 1, by omega, by go_num⟩
             case measure => simp [intOf]; omega)
          | (go_ret
             exact ⟨TruthB.mk _, rfl⟩)
    · go_wp2
      go_ret
      exact ⟨TruthB.mk _, rfl⟩

set_option maxHeartbeats 1000000 in
theorem l8lists_c (w : World) (a2 : Option Addr) (n2 cap2 : Nat) (L : List (List Int)) (hn2 : L.length = n2) (hm2 : n2 ≤ maxLen) (H2 : RowsAt w a2 L) (most : Nat) :
    Calls Try.prog 7 #[.slice a2 n2 cap2, .int .i64 most] w fun e w' => TruthB e ∧ w = w' := by
  have HN := hid hn2
  have HH := hid H2
  unfold maxLen at hm2
  clear hn2 H2
  go_enter Try.func7, Try.ntmps7
  go_wp2
  go_loop [9] (fun i => ∃ k : Nat, k ≤ n2 ∧ i = .int .i64 k) (fun i => n2 - (intOf i).toNat)
  case atStart => exact ⟨0, Nat.zero_le _, rfl⟩
  case round =>
    obtain ⟨k, hk, rfl⟩ := hrel
    by_cases hlt : k < n2
    · obtain ⟨b, off, ra, rn, rc, rfl, hbs, hc, hrn, hrm, hri⟩ := HH.out k (by rw [HN.out]; exact hlt)
      clear hrn hri
      by_cases h3 : (20 : Int) < (rn : Int)
      all_goals
        go_wp2
        first
          | (go_round
             case rel => exact ⟨k + 1, by omega, by go_num⟩
             case measure => simp [intOf]; omega)
          | (go_ret
             exact ⟨TruthB.mk _, rfl⟩)
    · obtain rfl : k = n2 := by omega
      by_cases h1 : (k : Int) ≤ (most : Int) <;> by_cases h2 : (60 : Int) < (k : Int) <;> by_cases h3 : (k : Int) < 64
      all_goals
        go_wp2
        go_ret
        exact ⟨TruthB.mk _, rfl⟩

end Go.Proofs.Ytkmjeegnijohmaa

namespace Go.Proofs.Ytkmjeegnijohmaa
open Go.ChangeShapes Go.WideShapes Go.ChangeAt Go.RowKit Go.Deep
set_option linter.unusedVariables false

def Fits64 (n : Int) : Prop := -9223372036854775808 ≤ n ∧ n ≤ 9223372036854775807
theorem fits64 {n : Int} (h : (Lit.int .i64 n).wf = true) : Fits64 n := by
  simpa [Fits64, Lit.wf, IntKind.min, IntKind.max, IntKind.signed, IntKind.bits] using h

theorem cell_plain {w : World} {a : Addr} {v : Value} (h : w.cell? a = some v) : a = ⟨a.block, a.off, none⟩ ∧ a.block < w.heap.size := by
  unfold World.cell? at h
  split at h
  · rename_i c _ _ hb
    obtain ⟨b, o, s⟩ := a
    cases s with
    | none => exact ⟨rfl, (Array.getElem?_eq_some_iff.1 hb).1⟩
    | some s => simp at h
  · simp at h

theorem add_plain (b o : Nat) (i : Nat) : (Addr.mk b o none).add i = ⟨b, o + i, none⟩ := by
  unfold Addr.add
  split
  · rename_i h; rw [h]; rfl
  · rfl

section
variable {H : Type} {enc : TypeId × Value → H} {P : Program} {w : World} {base : Nat} {held : Bool}

theorem ints_opened {e q : TypeId} {fuel : Nat} {a : Option Addr} {n cap : Nat} {x : DataW H × List MemPlace} (he : P.underlying e = some (.slice q)) (hq : P.underlying q = some (.int .i64)) (cq : P.cellsOf q = 1)
    (h : DataW.trod enc P w base (fun _ => true) held fuel e [.slice a n cap] = some x) : ∃ l : List Int, l.length = n ∧ n ≤ maxLen ∧ IntsAt w a l ∧ ∀ y ∈ l, Fits64 y := by
  rcases open_ints he hq cq h with ⟨hcs, _⟩ | ⟨x, l, c, zs, hcs, _, hl, hm, hz, _, hcell, hwz⟩
  · simp at hcs
    obtain ⟨rfl, rfl, rfl⟩ := hcs
    exact ⟨[], rfl, by decide, fun j hj => by simp at hj, fun y hy => by simp at hy⟩
  · simp at hcs
    obtain ⟨rfl, rfl, rfl⟩ := hcs
    simp only [if_true] at hz
    refine ⟨zs.take n, by rw [List.length_take]; omega, by omega, fun j hj => ?_, fun y hy => fits64 (hwz y (List.mem_of_mem_take hy))⟩
    rw [List.length_take] at hj
    have h0 := cell_plain (hcell 0 (by omega))
    simp only [Addr.add, if_true] at h0
    obtain ⟨b, o, s⟩ := x
    have hs : s = none := by have := h0.1; simp at this; exact this
    subst hs
    refine ⟨b, o, rfl, h0.2, ?_⟩
    have := hcell j (by omega)
    rw [add_plain] at this
    rw [this]
    simp [List.getElem?_take, show j < n by omega, List.getD]

theorem arg_rows {r : Reach} {b0 : Nat} {t e q : TypeId} {v : Value} {d : DataW H} {p : List MemPlace} (ht : P.underlying t = some (.slice e)) (ce : P.cellsOf e = 1) (he : P.underlying e = some (.slice q)) (hq : P.underlying q = some (.int .i64)) (cq : P.cellsOf q = 1)
    (hv : Value.okWide P w r b0 t v) (h : DataW.Trod enc P w base (fun _ => true) held t v d p) : ∃ a n cap, ∃ l : List (List Int), v = .slice a n cap ∧ l.length = n ∧ n ≤ maxLen ∧ RowsAt w a l ∧ ∀ y ∈ l, ∀ z ∈ y, Fits64 z := by
  obtain ⟨a, n, cap, rfl⟩ := okWide_slice ht hv
  obtain ⟨fuel, hf⟩ := h
  rcases open_slice1 ht ce (by simpa [Value.cells] using hf) with ⟨hcs, _⟩ | ⟨x, len, c', m, nn, V, D, Pl, hcs, _, hl, hm, hmm, _, hx⟩
  · simp at hcs
    obtain ⟨rfl, rfl, rfl⟩ := hcs
    exact ⟨none, 0, 0, [], rfl, rfl, by decide, fun j hj => by simp at hj, fun y hy => by simp at hy⟩
  simp at hcs
  obtain ⟨rfl, rfl, rfl⟩ := hcs
  simp only [if_true] at hmm
  have each : ∀ i, i < n → ∃ y : List Int × Option Addr × Nat × Nat, w.cell? (x.add i) = some (.slice y.2.1 y.2.2.1 y.2.2.2) ∧ y.1.length = y.2.2.1 ∧ y.2.2.1 ≤ maxLen ∧ IntsAt w y.2.1 y.1 ∧ (∀ z ∈ y.1, Fits64 z) := by
    intro i hi
    obtain ⟨hc, t0⟩ := hx i (by omega)
    have hsl : ∃ ra rn rc, V i = .slice ra rn rc := by
      rcases open_ints he hq cq t0 with ⟨hcs, _⟩ | ⟨x, l, c, zs, hcs, _⟩
      · simp at hcs; exact ⟨_, _, _, hcs⟩
      · simp at hcs; exact ⟨_, _, _, hcs⟩
    obtain ⟨ra, rn, rc, hV⟩ := hsl
    rw [hV] at hc t0
    obtain ⟨l, q1, q2, q3, q4⟩ := ints_opened he hq cq t0
    exact ⟨(l, ra, rn, rc), hc, q1, q2, q3, q4⟩
  haveI : Inhabited (List Int × Option Addr × Nat × Nat) := ⟨([], none, 0, 0)⟩
  obtain ⟨y, hy⟩ := choose_lt each
  refine ⟨some x, n, cap, (List.range n).map fun i => (y i).1, rfl, by simp, by omega, fun j hj => ?_, fun z hz => ?_⟩
  · have hjn : j < n := by simpa using hj
    have hp := cell_plain (hy 0 (by omega)).1
    simp only [Addr.add, if_true] at hp
    obtain ⟨b, o, s⟩ := x
    have hs' : s = none := by have := hp.1; simp at this; exact this
    subst hs'
    obtain ⟨r0, r3, r4, r5, r6⟩ := hy j hjn
    rw [add_plain] at r0
    refine ⟨b, o, (y j).2.1, (y j).2.2.1, (y j).2.2.2, rfl, hp.2, r0, ?_, r4, ?_⟩ <;> simp only [List.getElem_map, List.getElem_range] <;> assumption
  · obtain ⟨i, hi, rfl⟩ := List.mem_map.1 hz
    exact (hy i (List.mem_range.1 hi)).2.2.2.2
end
end Go.Proofs.Ytkmjeegnijohmaa

namespace Go.Proofs.Ytkmjeegnijohmaa
open Go.RowKit
set_option linter.unusedVariables false

theorem enc_one (M : Mask) (p : List (List Int)) (i : Nat) : encAt M p 1 i = (true, p[i]?.getD []) := by unfold encAt; rw [if_pos (Nat.mod_one i)]
theorem encF_get (M : Mask) (p : List (List Int)) {t : Nat} (ht : t < p.length) : (encF M p 1)[t]?.getD (false, []) = (true, p[t]?.getD []) := by
  unfold encF
  rw [List.getElem?_map, List.getElem?_range ht]
  exact enc_one M p t
theorem dec_key {M : Mask} {k : Int} {G : List Frm} {t : Nat} {l : List Int} (h : G[t]?.getD (false, []) = (true, l)) (hl : l.length ≠ 0) : decAt M k G (t + 1) = some l := by
  show nextF M k _ (G[t]?.getD (false, [])) = _
  rw [h]; unfold nextF; rw [if_neg hl, if_pos rfl]
theorem dec_lost {M : Mask} {k : Int} {G : List Frm} {t : Nat} {b : Bool} (h : G[t]?.getD (false, []) = (b, [])) : decAt M k G (t + 1) = none := by
  show nextF M k _ (G[t]?.getD (false, [])) = _
  rw [h]; unfold nextF; simp
theorem pics_len {M : Mask} {p : List (List Int)} (h : picsB M p = true) {t : Nat} (ht : t < p.length) : (p[t]?.getD []).length ≠ 0 := by
  have h1 := (pic_bnd (picsB_get h ht)).1
  have h2 := (okM_ok (picsB_ok h).1).2.2.2.1
  omega
theorem miss_none {M : Mask} {p : List (List Int)} (h : picsB M p = true) (k : Int) : ∀ t, t ≤ p.length → missTo M k (encF M p 1) t = []
  | 0, _ => rfl
  | t + 1, ht => by
    show missTo M k (encF M p 1) t ++ _ = []
    rw [miss_none h k t (by omega), dec_key (encF_get M p (by omega)) (pics_len h (by omega))]
    rfl
theorem loseAt_get (F : List Frm) (i : Nat) {t : Nat} (ht : t < F.length) : (loseF F i)[t]?.getD (false, []) = loseAt F i t := by
  unfold loseF
  rw [List.getElem?_map, List.getElem?_range ht]; rfl
theorem miss_one {M : Mask} {p : List (List Int)} (h : picsB M p = true) (k : Int) (i : Nat) : ∀ t, t ≤ p.length → missTo M k (loseF (encF M p 1) i) t = if i < t then [(i : Int)] else []
  | 0, _ => by simp [missTo]
  | t + 1, ht => by
    show missTo M k (loseF (encF M p 1) i) t ++ _ = _
    rw [miss_one h k i t (by omega)]
    have hg := loseAt_get (encF M p 1) i (t := t) (by rw [encF_len]; omega)
    unfold loseAt at hg
    rw [encF_get M p (by omega)] at hg
    by_cases e : t = i
    · subst e
      rw [if_pos rfl] at hg
      rw [dec_lost hg]
      simp
    · rw [if_neg (by omega)] at hg
      have e2 : (if (some (p[t]?.getD []) : Option (List Int)) = none then [(t : Int)] else []) = [] := if_neg (by simp)
      rw [dec_key hg (pics_len h (by omega)), e2, List.append_nil]
      by_cases h1 : i < t
      · rw [if_pos h1, if_pos (by omega)]
      · rw [if_neg h1, if_neg (by omega)]
theorem keys_all (M : Mask) (p : List (List Int)) : ∀ t, t ≤ p.length → (keysTo (encF M p 1) t).length = t
  | 0, _ => rfl
  | t + 1, ht => by
    show (keysTo (encF M p 1) t ++ _).length = _
    rw [List.length_append, keys_all M p t (by omega), encF_get M p (by omega)]
    rfl
theorem keys_plain {M : Mask} {p : List (List Int)} (h : encE M p 1 = 0) (i k : Int) : missL M (encL M p 1) k = [] ∧ (harmE M (encL M p 1) i k = 0 → harmV M (encL M p 1) i k = 1) ∧ vE M (encL M p 1) = 0 ∧ (keysV M (encL M p 1)).length = p.length := by
  have hP : picsB M p = true := by
    unfold encE at h
    split at h
    · assumption
    · simp at h
  have hL : encL M p 1 = encF M p 1 := by unfold encL; rw [if_pos h]; rfl
  have hV := encF_valid hP 1
  have hlen := encF_len M p 1
  have hm : missF M k (encF M p 1) = [] := by unfold missF; exact miss_none hP k _ (by rw [hlen]; exact Nat.le_refl _)
  rw [hL]
  refine ⟨?_, fun hE => ?_, ?_, ?_⟩
  · unfold missL; split
    · exact hm
    · rfl
  · unfold harmV
    rw [if_pos hE]
    unfold harmE at hE
    split at hE
    · split at hE
      · rename_i hi
        unfold inB at hi
        simp only [Bool.and_eq_true, decide_eq_true_eq] at hi
        obtain ⟨q, rfl⟩ : ∃ q : Nat, i = (q : Int) := ⟨i.toNat, by omega⟩
        have h1 := miss_one hP k q p.length (Nat.le_refl _)
        rw [if_pos (by omega)] at h1
        unfold harmF
        rw [hm]
        unfold missF
        rw [loseF_len, hlen, h1]
        rfl
      · simp at hE
    · rename_i hn; exact absurd hE hn
  · unfold vE; rw [hV]; rfl
  · unfold keysV keysF; rw [if_pos hV, hlen]; exact keys_all M p _ (Nat.le_refl _)

set_option maxRecDepth 100000 in
set_option maxHeartbeats 2000000 in
theorem streamKeys_c (w : World) (a : Option Addr) (n cap : Nat) (M : Mask) (hn : M.length = n) (hm : n ≤ maxLen) (H : RowsAt w a M) (_w0 : ∀ y ∈ M, ∀ z ∈ y, Fits64 z)
    (a1 : Option Addr) (n1 c1 : Nat) (p : List (List Int)) (hn1 : p.length = n1) (hm1 : n1 ≤ maxLen) (H1 : RowsAt w a1 p) (_w1 : ∀ y ∈ p, ∀ z ∈ y, Fits64 z)
    (i : Int) (_w2 : Fits64 i) (k : Int) (_w3 : Fits64 k) :
    Calls Try.prog 4 #[.slice a n cap, .slice a1 n1 c1, .int .i64 i, .int .i64 k] w fun e w' => e = .returned (.bool true) ∧ Below w.heap.size w w' := by
  clear _w0 _w1 _w2 _w3
  have HFit := hid (l8fit_c w a n cap M hn hm H)
  have HLs := hid (l8lists_c w a1 n1 c1 p hn1 hm1 H1 10)
  have HE1 := hid (sEncodeU_c w a a1 n cap n1 c1 M p 1 hn hm H hn1 hm1 H1)
  have HM1 := hid (fun (X : World) (hX : Below w.heap.size w X) (va : Option Addr) (vn vc : Nat) (L : List Frm) (hl : L.length = vn) (hlm : vn ≤ maxLen) (hf : FramesAt X va L) => sMissing_c X a va n cap vn vc M L k hn hm (H.below hX) hl hlm hf)
  have HH1 := hid (fun (X : World) (hX : Below w.heap.size w X) (va : Option Addr) (vn vc : Nat) (L : List Frm) (hl : L.length = vn) (hlm : vn ≤ maxLen) (hf : FramesAt X va L) => sHarm_c X a va n cap vn vc M L i k hn hm (H.below hX) hl hlm hf)
  have HK1 := hid (fun (X : World) (hX : Below w.heap.size w X) (va : Option Addr) (vn vc : Nat) (L : List Frm) (hl : L.length = vn) (hlm : vn ≤ maxLen) (hf : FramesAt X va L) => sKeys_c X a va n cap vn vc M L hn hm (H.below hX) hl hlm hf)
  have HPL := hid (fun (h : encE M p 1 = 0) => keys_plain h i k)
  rw [hn1] at HPL
  clear hn H hn1 H1
  unfold maxLen at hm hm1
  obtain ⟨F, hF⟩ : ∃ F, F = encL M p 1 := ⟨_, rfl⟩
  obtain ⟨E, hE⟩ : ∃ E, E = encE M p 1 := ⟨_, rfl⟩
  rw [← hF, ← hE] at HE1 HPL
  clear hF hE
  go_enter Try.func4, Try.ntmps4
  go_wp2_with first
    | (go_at_call 6; refine HFit.out.mono ?_; rintro e w1 ⟨⟨b1, rfl⟩, rfl⟩; cases b1)
    | (go_at_call 7; refine HLs.out.mono ?_; rintro e w1 ⟨⟨b2, rfl⟩, rfl⟩; cases b2)
    | (go_at_call 9; refine (awake8_c _).mono ?_; rintro e w2 ⟨rfl, hb2⟩)
    | (go_at_call 10; refine HE1.out.mono ?_; rintro e w2 ⟨xa, xc, rfl, hxm, hxf, hb2⟩; refine Stop.of ?_)
  all_goals first
    | (go_ret; exact ⟨rfl, hb2⟩)
    | refine Stop.go ?_
  have HX := hid hxf
  have HXM := hid hxm
  have HB2 := hid hb2
  clear hxf hxm hb2 HFit HLs HE1
  by_cases hE0 : E = 0
  rotate_left
  · have hEn : (E != 0) = true := by simp [hE0]
    clear hE0 HPL HM1 HH1 HK1
    go_wp2_with (go_at_call 9; refine (awake8_c _).mono ?_; rintro e w3 ⟨rfl, hb3⟩)
    go_ret
    exact ⟨rfl, chain HB2.out hb3⟩
  · obtain ⟨p1, p2, p3, p4⟩ := HPL.out hE0
    have hEn : (E != 0) = false := by simp [hE0]
    have HMX := hid (HM1.out w2 HB2.out xa F.length xc F rfl HXM.out HX.out)
    have HHX := hid (fun (X : World) (hX : Below w2.heap.size w2 X) => HH1.out X (chain HB2.out hX) xa F.length xc F rfl HXM.out (HX.out.below hX))
    have HKX := hid (fun (X : World) (hX : Below w2.heap.size w2 X) => HK1.out X (chain HB2.out hX) xa F.length xc F rfl HXM.out (HX.out.below hX))
    rw [p1] at HMX
    rw [p3, p4] at HKX
    obtain ⟨EM, hEM⟩ : ∃ E, E = askE M F k := ⟨_, rfl⟩
    obtain ⟨EH, hEH⟩ : ∃ E, E = harmE M F i k := ⟨_, rfl⟩
    obtain ⟨VH, hVH⟩ : ∃ E, E = harmV M F i k := ⟨_, rfl⟩
    rw [← hEM] at HMX
    rw [← hEH, ← hVH] at HHX p2
    have HP2 := hid p2
    clear hE0 p1 p2 p3 p4 hEM hEH hVH HM1 HH1 HK1 HPL HX
    go_wp2_with first
      | (go_at_call 22; refine HMX.out.mono ?_; rintro e w3 ⟨ma, mc, rfl, _, hb3⟩; refine Stop.of ?_)
    refine Stop.go ?_
    have HB3 := hid hb3
    clear hb3 HMX
    go_wp2_with first
      | (go_at_call 23; refine (HHX.out _ HB3.out).mono ?_; rintro e w4 ⟨rfl, hb4⟩; refine Stop.of ?_)
    refine Stop.go ?_
    have HB4 := hid (chain HB3.out hb4)
    clear hb4 HB3 HHX
    go_wp2_with first
      | (go_at_call 24; refine (HKX.out _ HB4.out).mono ?_; rintro e w5 ⟨ka, kc, rfl, _, _, hb5⟩; refine Stop.of ?_)
    refine Stop.go ?_
    have HB5 := hid (chain HB4.out hb5)
    clear hb5 HB4 HKX
    have hnn : ((n1 : Int) == (n1 : Int)) = true := by simp
    by_cases hM0 : EM = 0 <;> by_cases hH0 : EH = 0
    all_goals
      first
        | (have hv := HP2.out hH0; subst hv)
        | skip
      first
        | (have hEM : (EM != 0) = false := by simp [hM0])
        | (have hEM : (EM != 0) = true := by simp [hM0])
      first
        | (have hEH : (EH != 0) = false := by simp [hH0])
        | (have hEH : (EH != 0) = true := by simp [hH0])
      clear hM0 hH0 HP2
      go_wp2_with first
        | (go_at_call 9; refine (awake8_c _).mono ?_; rintro e w6 ⟨rfl, hb6⟩)
      go_ret
      exact ⟨rfl, chain (chain HB2.out HB5.out) hb6⟩
end Go.Proofs.Ytkmjeegnijohmaa
