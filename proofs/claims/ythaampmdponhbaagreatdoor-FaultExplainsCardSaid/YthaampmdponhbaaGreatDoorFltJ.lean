/- Walk of fault.told, and that its text tells the readings. -/
import Derived.Test.YthaampmdponhbaaGreatDoorFltI
namespace Go.Proofs.YthaampmdponhbaaGreatDoor
open Go.RowKit Go.Shelf
set_option linter.unusedVariables false

/-- what a mask with a fault reads of pictures, as a text -/
def toldT (M : Mask) (f : Flt) (L : List (List Int)) : List UInt8 := L.flatMap (fun x => numT (readF M f x))
theorem toldT_take (M : Mask) (f : Flt) (L : List (List Int)) (k : Nat) (hk : k < L.length) : toldT M f (L.take (k + 1)) = toldT M f (L.take k) ++ numT (readF M f L[k]) := by
  unfold toldT
  rw [List.take_succ_eq_append_getElem hk, List.flatMap_append]; simp

theorem readF_length {M : Mask} {f : Flt} {x : List Int} : (readF M f x).length = M.length := by unfold readF readM; simp [faultyM_row]

theorem ints_own {w : World} {base : Nat} {v : Value} {n : Nat} {l : List Int} (h : w.ownsRow base 3 1 v n (l.map (Value.int .i64))) (hn : l.length = n) : ∃ a cap, v = .slice a n cap ∧ IntsAt w a l := by
  rcases h.2 with ⟨rfl, h0⟩ | ⟨g, cap, cur, rfl, hg, hh, hnc, hcm, hsz, htk⟩
  · exact ⟨none, 0, by rw [h0], fun j hj => by omega⟩
  · refine ⟨_, cap, rfl, fun j hj => ⟨g, 0, rfl, (Array.getElem?_eq_some_iff.1 hh).1, ?_⟩⟩
    have := World.ownsRow.cellAt (w := w) (base := base) (e := 3) (size := 1) (g := g) (n := n) (cap := cap) (xs := l.map (Value.int .i64)) ⟨h.1, .inr ⟨g, cap, cur, rfl, hg, hh, hnc, hcm, hsz, htk⟩⟩ j (by omega)
    rw [Nat.zero_add, this, List.getElem?_map, List.getElem?_eq_getElem hj]; rfl

set_option maxHeartbeats 2000000 in
theorem told_c (w : World) (ht : Tab w) (a : Option Addr) (n cap : Nat) (M : Mask) (hn : M.length = n) (H : RowsAt w a M) (hM : okM M = true) (f : Flt) (hf : okF M f = true) (a2 : Option Addr) (n2 cap2 : Nat) (L : List (List Int)) (hn2 : L.length = n2) (hm2 : n2 ≤ 65536) (H2 : RowsAt w a2 L) (hx : ∀ x ∈ L, okShown M x = true) :
    Calls Tryz.prog 78 #[.slice a n cap, f.val, .slice a2 n2 cap2] w fun e w' => e = .returned (.string ⟨(toldT M f L).toArray⟩) ∧ Below w.heap.size w w' := by
  obtain ⟨wf, hwf, hb0, hcells⟩ := fltBox w f
  have HRd := hid (fun (W : World) (hb : Below w.heap.size w W) (xa : Option Addr) (xn xc : Nat) (x : List Int) (hxL : x ∈ L) (hxn : x.length = xn) (hxi : IntsAt W xa x) =>
    reads_c W a n cap M hn (H.below hb) hM f hf xa xn xc x hxn hxi (hx x hxL))
  have HNm := hid (fun (W : World) (hb : Below w.heap.size w W) (va : Option Addr) (vc : Nat) (x : List Int) (hi : IntsAt W va (readF M f x)) =>
    numbers_c W (ht.below hb) va n vc (readF M f x) (by rw [readF_length, hn]) (by have := (okM_len hM).2.1; omega) hi (readM_isInt _ _))
  have HLen := hid (fun (x : List Int) => show (numT (readF M f x)).length ≤ 132 from by
    have h1 := numT_length (readF M f x) (readM_isInt _ _)
    have h2 := (okM_len hM).2.1
    rw [readF_length] at h1
    omega)
  have HRN := hid (fun (x : List Int) => show (readF M f x).length = n by rw [readF_length, hn])
  have HN2 := hid hn2
  have HH2 := hid H2
  have HC := hid hcells
  have HB0 := hid hb0
  have HTk := hid (toldT_take M f L)
  have HT0 := hid (show toldT M f [] = [] from rfl)
  have HTA := hid (show toldT M f = toldT M f from rfl)
  have hw := hwf
  clear hn H hf hM hx ht hn2 H2 hcells hb0 hwf
  obtain ⟨T, hT⟩ : ∃ T, T = toldT M f := ⟨_, rfl⟩
  obtain ⟨R, hR⟩ : ∃ R, R = readF M f := ⟨_, rfl⟩
  rw [← hT] at HTk HT0 ⊢
  rw [← hR] at HTk HRd HNm HLen HRN
  clear hT hR HTA
  obtain ⟨kind, row, pixel⟩ := f
  unfold Flt.val at HRd ⊢
  simp only [] at HRd HC hw ⊢
  have HW := hid hw
  clear hw
  go_enter Tryz.func78, Tryz.ntmps78
  go_wp2
  rw [← HW.out]
  go_loopw [7, 12] (fun s i wr => ∃ (k : Nat) (S : ByteArray), k ≤ n2 ∧ i = .int .i64 k ∧ s = .string S ∧ S.size ≤ 132 * k ∧ Hid (S = ⟨(T (L.take k)).toArray⟩) ∧ Below wf.heap.size wf wr) (fun _ i _ => n2 - (intOf i).toNat)
  case atStart => exact ⟨0, _, Nat.zero_le _, rfl, rfl, by simp [ByteArray.size], hid (by rw [List.take_zero, HT0.out]), Below.refl _ _⟩
  case round =>
    obtain ⟨k, S, hk, rfl, rfl, hS, HS, hbf⟩ := hrel
    obtain ⟨_, f0, f1, f2⟩ := HC.out wr hbf
    have hb : Below w.heap.size w wr := chain HB0.out hbf
    by_cases hlt : k < n2
    · have hkl : k < L.length := by rw [HN2.out]; exact hlt
      obtain ⟨b, off, xa, xn, xc, rfl, hbs, hc, hxn, hxm, hxi⟩ := (HH2.out.below hb) k hkl
      have HRd1 := hid (HRd.out wr hb xa xn xc L[k] (List.getElem_mem hkl) hxn hxi)
      have htk := HTk.out k hkl
      have HNm1 := hid (fun (W : World) (hbW : Below w.heap.size w W) (va : Option Addr) (vc : Nat) (h5 : IntsAt W va (R (L[k]'hkl))) => HNm.out W hbW va vc (L[k]'hkl) h5)
      have hlen := HLen.out L[k]
      have HRL := hid (HRN.out L[k])
      obtain ⟨X, hX⟩ : ∃ X, X = R L[k] := ⟨_, rfl⟩
      rw [← hX] at HRd1 htk HNm1 hlen HRL
      obtain ⟨J, hJ⟩ : ∃ J : ByteArray, J = ⟨(numT X).toArray⟩ := ⟨_, rfl⟩
      have hJs : J.size ≤ 132 := by rw [hJ]; exact hlen
      rw [← hJ] at HNm1
      have hnew : Hid ((S ++ J : ByteArray) = ⟨(T (L.take (k + 1))).toArray⟩) := hid (by rw [htk, HS.out, hJ, ByteArray.mk_append_mk])
      obtain ⟨Z, hZ⟩ : ∃ Z : ByteArray, Z = S ++ J := ⟨_, rfl⟩
      have hZs : Z.size ≤ 132 * (k + 1) := by rw [hZ, ByteArray.size_append]; omega
      have hr2 : ∀ w, (Op.stringOp .add S J).run Tryz.prog w = .ok (.string Z) w := fun w => by rw [run_string_add_sum w _ _ (by omega), hZ]
      rw [← hZ] at hnew
      clear hZ hJ hlen htk hxn hxi hkl hX
      go_wp2_with (go_at_call 44; refine HRd1.out.mono ?_; rintro e w1 ⟨v, base, rfl, hbase, hown, hb1⟩; refine Stop.of ?_)
      refine Stop.go ?_
      obtain ⟨va, vc, rfl, hiv⟩ := ints_own hown HRL.out
      have HNm2 := hid (HNm1.out w1 (chain hb hb1) va vc hiv)
      clear hown hiv
      go_wp2_with (go_at_call 89; refine HNm2.out.mono ?_; rintro e w2 ⟨rfl, hb2⟩)
      exact ⟨⟨k + 1, Z, by omega, by go_num, rfl, hZs, hnew, chain (chain hbf hb1) hb2⟩, by simp [intOf]; omega⟩
    · obtain rfl : k = n2 := by omega
      go_wp2
      go_ret
      refine ⟨?_, hb⟩
      rw [HS.out, List.take_of_length_le (by have := HN2.out; omega)]
      rfl
end Go.Proofs.YthaampmdponhbaaGreatDoor
