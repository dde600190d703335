/- Walks and plain laws for FaultTextsRow, part 4. -/
import Derived.Lib.AtoiAllCases
import Derived.LaidEqlPtr
import Derived.Test.YthaampmdponhbaaGreatDoorPkFaultTextsRow3
namespace Go.Proofs.YthaampmdponhbaaGreatDoor
open Go.RowKit Go.Shelf
set_option linter.unusedVariables false

theorem info_str : (Tryz.prog.info? 9).map (fun i => (i.zero, i.size, i.bytes)) = some (some (.string ⟨#[]⟩), 1, 16) := by kernel_rfl
def bytesI (n : Int) : ByteArray := ⟨(Lib.itoa n).toArray⟩
def strsV (l : List ByteArray) : List Value := l.map Value.string
theorem strsV_snoc (l : List ByteArray) (b : ByteArray) : strsV (l ++ [b]) = strsV l ++ [.string b] := by simp [strsV]
theorem strsV_len (l : List ByteArray) : (strsV l).length = l.length := by simp [strsV]
theorem one_str (b : ByteArray) : ∀ u ∈ [Value.string b], u.oneCell' = true := by intro u hu; simp at hu; subst hu; rfl
theorem join_eq : ∀ ws : List (List UInt8), Lib.join ws [32] = joinW ws
  | [] => rfl
  | [w] => Lib.join_one w [32]
  | w :: v :: ws => by
    have ih := join_eq (v :: ws)
    rw [Lib.join_cons] at ih ⊢
    rw [joinW, ← ih]
    simp [Lib.joinTail]
theorem strs_cells {W : World} {base g n c : Nat} {l : List ByteArray} (h : W.ownsRow base 9 1 (.slice (some ⟨g, 0, none⟩) n c) n (strsV l)) : ∀ (j : Nat) (x : ByteArray), l[j]? = some x → W.cell? ⟨g, 0 + j, none⟩ = some (.string x) := by
  intro j x hx
  have hl : (strsV l).length = n * 1 := h.1
  rw [strsV_len] at hl
  have hj := (List.getElem?_eq_some_iff.1 hx).1
  have hc : W.cell? ⟨g, j, none⟩ = (strsV l)[j]? := World.ownsRow.cellAt (w := W) (base := base) (e := 9) (size := 1) (g := g) (n := n) (cap := c) (xs := strsV l) h j (by omega)
  rw [Nat.zero_add, hc]
  simp [strsV, hx]
theorem own_capB {W : World} {base : Nat} {e : TypeId} {size : Nat} {a : Option Addr} {n c : Nat} {xs : List Value} (h : W.ownsRow base e size (.slice a n c) n xs) : n ≤ c := by
  rcases h.2 with ⟨h1, h2⟩ | ⟨_, _, _, h1, _, _, h2, _⟩
  · omega
  · cases h1; exact h2
def wordsB (x : Tst) : List ByteArray := x.shown.map bytesI ++ (⟨#[58]⟩ :: x.read.map bytesI)
theorem wordsB_line (x : Tst) : Lib.join ((wordsB x).map (·.data.toList)) [32] = lineB x := by
  rw [join_eq]
  unfold lineB wordsB
  congr 1
  simp [bytesI, List.map_map, Function.comp_def]
theorem join_len : ∀ (ws : List (List UInt8)) (m : Nat), (∀ w ∈ ws, w.length ≤ m) → (joinW ws).length ≤ (m + 1) * ws.length
  | [], m, _ => by simp [joinW]
  | [w], m, h => by have := h w (by simp); simp [joinW]; omega
  | w :: v :: ws, m, h => by
    have h1 := h w (by simp)
    have h2 := join_len (v :: ws) m fun x hx => h x (by simp [hx])
    rw [joinW]
    simp only [List.length_append, List.length_cons] at h2 ⊢
    have e : (m + 1) * (ws.length + 1 + 1) = (m + 1) * (ws.length + 1) + (m + 1) := by rw [Nat.mul_add (m + 1) (ws.length + 1) 1, Nat.mul_one]
    rw [e]
    omega
theorem lineB_len {x : Tst} (h1 : x.shown.length ≤ 20 ∧ x.read.length ≤ 20) (h2 : ∀ n ∈ x.shown, isInt n) (h3 : ∀ n ∈ x.read, isInt n) : (lineB x).length ≤ 902 := by
  have h := join_len (x.shown.map Lib.itoa ++ ([[58]] ++ x.read.map Lib.itoa)) 21 fun w hw => by
    rcases List.mem_append.1 hw with hw | hw
    · obtain ⟨n, hn, rfl⟩ := List.mem_map.1 hw
      exact Lib.itoa_length_le n (h2 n hn).1 (h2 n hn).2
    · rcases List.mem_append.1 hw with hw | hw
      · simp at hw; subst hw; simp
      · obtain ⟨n, hn, rfl⟩ := List.mem_map.1 hw
        exact Lib.itoa_length_le n (h3 n hn).1 (h3 n hn).2
  unfold lineB
  refine Nat.le_trans h ?_
  simp only [List.length_append, List.length_map, List.length_cons, List.length_nil]
  omega

set_option maxRecDepth 100000 in
set_option maxHeartbeats 4000000 in
theorem line_c (w : World) (ht : Tab w) (sa ra : Option Addr) (sn sc rn rc : Nat) (x : Tst) (h1 : x.shown.length = sn) (h2 : sn ≤ 20) (h3 : IntsAt w sa x.shown) (h4 : x.read.length = rn) (h5 : rn ≤ 20) (h6 : IntsAt w ra x.read)
    (hi : ∀ n ∈ x.shown, isInt n) (hj : ∀ n ∈ x.read, isInt n) :
    Calls Tryz.prog 61 #[.agg #[.slice sa sn sc, .slice ra rn rc]] w fun e w' => e = .returned (.string ⟨(lineB x).toArray⟩) ∧ Below w.heap.size w w' := by
  obtain ⟨wt, hwt, hb0, hcells⟩ := tstBox w sa ra sn sc rn rc
  have HS := hid (fun (X : World) (hb : Below wt.heap.size wt X) => show X.cell? ⟨w.heap.size, 0, none⟩ = some (.slice sa sn sc) ∧ X.cell? ⟨w.heap.size, 1, none⟩ = some (.slice ra rn rc) from (hcells X hb).2)
  have HSh := hid (fun (X : World) (hb : Below wt.heap.size wt X) => h3.below (chain hb0 hb))
  have HRd := hid (fun (X : World) (hb : Below wt.heap.size wt X) => h6.below (chain hb0 hb))
  have HIt := hid (fun (X : World) (hb : Below wt.heap.size wt X) (n : Int) (hn : isInt n) => itoa_c n hn X (ht.below (chain hb0 hb)))
  have HI := hid hi
  have HJ := hid hj
  have H1 := hid h1
  have H4 := hid h4
  have HLB := hid (lineB_len (x := x) ⟨by omega, by omega⟩ hi hj)
  have HB0 := hid hb0
  have HWT := hid hwt
  have HWL := hid (wordsB_line x)
  clear h1 h3 h4 h6 hi hj ht hcells hb0 hwt
  go_enter Tryz.func61, Tryz.ntmps61
  obtain ⟨f0, f1⟩ := HS.out wt (Below.refl _ _)
  rw [HWT.out] at f0 f1
  go_wp2
  rw [← HWT.out]
  clear f0 f1
  go_loopw [3, 11] (fun v i wr => ∃ k : Nat, k ≤ sn ∧ i = .int .i64 k ∧ wr.ownsRow wt.heap.size 9 1 v k (strsV ((x.shown.map bytesI).take k)) ∧ Below wt.heap.size wt wr) (fun _ i _ => sn - (intOf i).toNat)
  case atStart => exact ⟨0, Nat.zero_le _, rfl, World.ownsRow_nil _ _ _ _, Below.refl _ _⟩
  case round =>
    obtain ⟨k, hk, rfl, hown, hb⟩ := hrel
    obtain ⟨va, vc, rfl⟩ := ownsRow_slice hown
    by_cases hlt : k < sn
    · have hkl : k < x.shown.length := by rw [H1.out]; exact hlt
      obtain ⟨b, off, rfl, hbs, hc⟩ := (HSh.out wr hb) k hkl
      have hx : x.shown[k]?.getD 0 = x.shown[k] := by rw [List.getElem?_eq_getElem hkl]; rfl
      rw [hx] at hc
      have hit := HIt.out wr hb x.shown[k] (HI.out _ (List.getElem_mem hkl))
      have htk : (x.shown.map bytesI).take (k + 1) = (x.shown.map bytesI).take k ++ [bytesI x.shown[k]] := by rw [List.take_succ_eq_append_getElem (by rw [List.length_map]; exact hkl), List.getElem_map]
      obtain ⟨X, hX⟩ : ∃ X, X = x.shown[k] := ⟨_, rfl⟩
      rw [← hX] at hc hit htk
      have hit2 : Calls Tryz.prog 90 #[.int .i64 X] wr fun e w' => e = .returned (.string (bytesI X)) ∧ Below wr.heap.size wr w' := hit
      obtain ⟨I, hI⟩ : ∃ I, I = bytesI X := ⟨_, rfl⟩
      rw [← hI] at hit2 htk
      have HIT := hid hit2
      have HO := hid hown
      have HTK := hid htk
      have HB := hid hb
      have M1 := hid (show k + 1 ≤ maxLen by unfold maxLen; omega)
      have M2 := hid (show (k + 1) * 16 ≤ 140737488355328 by omega)
      clear hX hI hit hit2 hown htk hb hx hkl
      go_wp2_with (go_at_call 90; refine HIT.out.mono ?_; rintro e w2 ⟨rfl, hb2⟩; refine Stop.of ?_)
      refine Stop.go ?_
      have HB2 := hid (chain HB.out hb2)
      have HO2 := hid (own_below HO.out hb2)
      have HN := hid (one_news w2 (.string I) 9)
      have hsz := (chain HB.out hb2).size
      have M3 := hid (Nat.le_trans hsz (le_alloc w2 (.cells #[.string I] 9)))
      have hla := HB2.out.alloc hsz (.cells #[.string I] 9)
      have HLA := hid hla
      clear hb2 hla
      go_wp2_with (at_builtin; refine wpList_app _ rfl (.tmp 15) (.tmp 18) 74 rfl wt.heap.size 9 (.string ⟨#[]⟩) 1 16 Tryz.underlying74 info_str rfl Nat.one_pos (.slice va k vc) k _ rfl (HO2.out.alloc _) (some ⟨w2.heap.size, 0, none⟩) 1 1 [.string I] rfl rfl no_none HN.out (one_str I) M1.out M2.out M3.out ?_; refine Stop.of ?_)
      refine Stop.go ?_
      intro a7 c7 w7 own7 g7
      have hb7 := HLA.out.grown g7 M3.out (fun q hq => (HO2.out.lt q hq).1)
      have HO7 := hid own7
      clear own7 g7
      go_wp2
      refine ⟨⟨k + 1, by omega, by go_num, ?_, hb7⟩, by simp [intOf]; omega⟩
      rw [HTK.out, strsV_snoc]
      exact HO7.out
    · obtain rfl : k = sn := by omega
      have hall : (x.shown.map bytesI).take k = x.shown.map bytesI := List.take_of_length_le (by rw [List.length_map, H1.out]; exact Nat.le_refl _)
      rw [hall] at hown
      have HO := hid hown
      have HB := hid hb
      have HN := hid (one_news wr (.string ⟨#[58]⟩) 9)
      have M1 := hid (show k + 1 ≤ maxLen by unfold maxLen; omega)
      have M2 := hid (show (k + 1) * 16 ≤ 140737488355328 by omega)
      have M3 := hid (Nat.le_trans hb.size (le_alloc wr (.cells #[.string ⟨#[58]⟩] 9)))
      have HLA := hid (hb.alloc hb.size (.cells #[.string ⟨#[58]⟩] 9))
      clear hown hb hall
      go_wp2_with (at_builtin; refine wpList_app _ rfl (.tmp 21) (.tmp 22) 74 rfl wt.heap.size 9 (.string ⟨#[]⟩) 1 16 Tryz.underlying74 info_str rfl Nat.one_pos (.slice va k vc) k _ rfl (HO.out.alloc _) (some ⟨wr.heap.size, 0, none⟩) 1 1 [.string ⟨#[58]⟩] rfl rfl no_none HN.out (one_str _) M1.out M2.out M3.out ?_; refine Stop.of ?_)
      refine Stop.go ?_
      intro a7 c7 w7 own7 g7
      have hb7 := HLA.out.grown g7 M3.out (fun q hq => (HO.out.lt q hq).1)
      obtain ⟨f0, f1⟩ := HS.out w7 hb7
      have HO7 := hid own7
      have HB7 := hid hb7
      clear own7 g7 hb7
      go_wp2
      clear f0 f1
      go_loopw [3, 27] (fun v i wq => ∃ j : Nat, j ≤ rn ∧ i = .int .i64 j ∧ wq.ownsRow wt.heap.size 9 1 v (k + 1 + j) (strsV (x.shown.map bytesI ++ (⟨#[58]⟩ :: (x.read.map bytesI).take j))) ∧ Below wt.heap.size wt wq) (fun _ i _ => rn - (intOf i).toNat)
      case atStart => exact ⟨0, Nat.zero_le _, rfl, by rw [List.take_zero, strsV_snoc]; exact HO7.out, HB7.out⟩
      case round =>
        obtain ⟨j, hj, rfl, hown, hb⟩ := hrel
        obtain ⟨va2, vc2, rfl⟩ := ownsRow_slice hown
        by_cases hjlt : j < rn
        · have hkl : j < x.read.length := by rw [H4.out]; exact hjlt
          obtain ⟨b, off, rfl, hbs, hc⟩ := (HRd.out wr hb) j hkl
          have hx : x.read[j]?.getD 0 = x.read[j] := by rw [List.getElem?_eq_getElem hkl]; rfl
          rw [hx] at hc
          have hit := HIt.out wr hb x.read[j] (HJ.out _ (List.getElem_mem hkl))
          have htk : x.shown.map bytesI ++ (⟨#[58]⟩ :: (x.read.map bytesI).take (j + 1)) = (x.shown.map bytesI ++ (⟨#[58]⟩ :: (x.read.map bytesI).take j)) ++ [bytesI x.read[j]] := by rw [List.take_succ_eq_append_getElem (by rw [List.length_map]; exact hkl), List.getElem_map, List.append_assoc]; rfl
          obtain ⟨X, hX⟩ : ∃ X, X = x.read[j] := ⟨_, rfl⟩
          rw [← hX] at hc hit htk
          have hit2 : Calls Tryz.prog 90 #[.int .i64 X] wr fun e w' => e = .returned (.string (bytesI X)) ∧ Below wr.heap.size wr w' := hit
          obtain ⟨I, hI⟩ : ∃ I, I = bytesI X := ⟨_, rfl⟩
          rw [← hI] at hit2 htk
          have HIT := hid hit2
          have HO := hid hown
          have HTK := hid htk
          have HB := hid hb
          have M1 := hid (show (k + 1 + j) + 1 ≤ maxLen by unfold maxLen; omega)
          have M2 := hid (show ((k + 1 + j) + 1) * 16 ≤ 140737488355328 by omega)
          clear hX hI hit hit2 hown htk hb hx hkl
          go_wp2_with (go_at_call 90; refine HIT.out.mono ?_; rintro e w2 ⟨rfl, hb2⟩; refine Stop.of ?_)
          refine Stop.go ?_
          have HB2 := hid (chain HB.out hb2)
          have HO2 := hid (own_below HO.out hb2)
          have HN := hid (one_news w2 (.string I) 9)
          have hsz := (chain HB.out hb2).size
          have M3 := hid (Nat.le_trans hsz (le_alloc w2 (.cells #[.string I] 9)))
          have HLA := hid (HB2.out.alloc hsz (.cells #[.string I] 9))
          clear hb2
          go_wp2_with (at_builtin; refine wpList_app _ rfl (.tmp 31) (.tmp 34) 74 rfl wt.heap.size 9 (.string ⟨#[]⟩) 1 16 Tryz.underlying74 info_str rfl Nat.one_pos (.slice va2 (k + 1 + j) vc2) (k + 1 + j) _ rfl (HO2.out.alloc _) (some ⟨w2.heap.size, 0, none⟩) 1 1 [.string I] rfl rfl no_none HN.out (one_str I) M1.out M2.out M3.out ?_; refine Stop.of ?_)
          refine Stop.go ?_
          intro a8 c8 w8 own8 g8
          have hb8 := HLA.out.grown g8 M3.out (fun q hq => (HO2.out.lt q hq).1)
          have HO8 := hid own8
          clear own8 g8
          go_wp2
          refine ⟨⟨j + 1, by omega, by go_num, ?_, hb8⟩, by simp [intOf]; omega⟩
          rw [HTK.out, strsV_snoc]
          exact HO8.out
        · obtain rfl : j = rn := by omega
          have hall : (x.read.map bytesI).take j = x.read.map bytesI := List.take_of_length_le (by rw [List.length_map, H4.out]; exact Nat.le_refl _)
          rw [hall] at hown
          have hwb : x.shown.map bytesI ++ (⟨#[58]⟩ :: x.read.map bytesI) = wordsB x := rfl
          rw [hwb] at hown
          have hlen : (wordsB x).length = k + 1 + j := by unfold wordsB; simp [H1.out, H4.out]; omega
          obtain ⟨g, rfl⟩ : ∃ g, va2 = some ⟨g, 0, none⟩ := by
            rcases hown.2 with ⟨_, h0⟩ | ⟨g, cap, cur, e, _⟩
            · omega
            · cases e; exact ⟨g, rfl⟩
          have hcap := own_capB hown
          have hj := Tryz.strings_Join g 0 vc2 (wordsB x) ⟨#[32]⟩ wr (strs_cells hown) (World.ownsRow.lt hown g rfl).2 (by omega) (by omega) (by
            have e : (⟨#[32]⟩ : ByteArray).data.toList = [32] := rfl
            rw [e, HWL.out]; have := HLB.out; omega)
          have e : (⟨#[32]⟩ : ByteArray).data.toList = [32] := rfl
          rw [e, HWL.out, hlen] at hj
          have HJn := hid hj
          have HB := hid hb
          clear hj hown hb hall hwb hlen hcap e
          go_wp2_with (go_at_call 93; refine HJn.out.mono ?_; rintro e w9 ⟨rfl, hb9⟩)
          go_ret
          exact ⟨rfl, chain HB0.out (chain HB.out hb9)⟩
end Go.Proofs.YthaampmdponhbaaGreatDoor

namespace Go.Proofs.YthaampmdponhbaaGreatDoor
open Go.RowKit Go.Shelf
set_option linter.unusedVariables false

def TabX (w : World) : Prop := Tab w ∧ (∃ m, w.cell? ⟨0, 0, none⟩ = some (.int .i64 m)) ∧ (∃ ev, w.cell? ⟨1, 0, none⟩ = some ev ∧ (ev = .nilIface ∨ ∃ te pe, ev = .iface te pe)) ∧ (∃ ev, w.cell? ⟨2, 0, none⟩ = some ev ∧ (ev = .nilIface ∨ ∃ te pe, ev = .iface te pe))
theorem TabX.below {w w' : World} (h : TabX w) (hb : Below w.heap.size w w') : TabX w' := by
  obtain ⟨h1, ⟨m, h2⟩, ⟨e1, h3, h4⟩, e2, h5, h6⟩ := h
  exact ⟨h1.below hb, ⟨m, (hb.cell (cell_inT h2)).trans h2⟩, ⟨e1, (hb.cell (cell_inT h3)).trans h3, h4⟩, e2, (hb.cell (cell_inT h5)).trans h5, h6⟩

theorem atV_isInt (l : List UInt8) : isInt (atV l) := by
  unfold atV
  rcases h : Lib.atoiAll l with v | _ | _
  · exact Lib.atoiAll_bounds h
  · show isInt 0; unfold isInt; omega
  · exact Lib.atoiSat_bounds l
theorem atoi_c (w : World) (hX : TabX w) (s : ByteArray) (hs : s.size ≤ 281474976710656) :
    Calls Tryz.prog 52 #[.string s] w fun e w' => ∃ ev, e = .returned (.tuple #[.int .i64 (atV s.data.toList), ev]) ∧ Below w.heap.size w w' := by
  obtain ⟨_, _, ⟨e1, h3, h4⟩, e2, h5, h6⟩ := hX
  unfold atV
  rcases h : Lib.atoiAll s.data.toList with v | _ | _
  · refine (Tryz.strconv_Atoi_ok s (by omega) v h w).mono ?_
    rintro e w' ⟨rfl, hw⟩
    refine ⟨_, rfl, ?_⟩
    rcases hw with rfl | ⟨t, rfl⟩
    · exact Below.refl _ _
    · exact Lib.bytesWorld_below _ _ _
  · refine (Tryz.strconv_Atoi_syntax s hs h e1 w h3 h4).mono ?_
    rintro e w' ⟨N, rfl, _, _, hb⟩
    exact ⟨_, rfl, hb⟩
  · refine (Tryz.strconv_Atoi_range s hs h e2 w h5 h6).mono ?_
    rintro e w' ⟨N, rfl, _, _, hb⟩
    exact ⟨_, rfl, hb⟩
theorem split_c (w : World) (hX : TabX w) (s : ByteArray) (hs : s.size ≤ 65536) :
    Calls Tryz.prog 51 #[.string s, .string ⟨#[32]⟩] w fun e w' => ∃ L : List ByteArray, L.map (fun b => b.data.toList) = wordsF s.data.toList ∧ e = .returned (.slice (some ⟨w.heap.size, 0, none⟩) L.length L.length) ∧ w' = w.alloc (.cells (L.map Value.string).toArray 9) := by
  obtain ⟨_, ⟨m, h2⟩, _⟩ := hX
  refine (Tryz.strings_Split s ⟨#[32]⟩ m w (by omega) h2 (by decide)).mono ?_
  rintro e w' ⟨rfl, rfl⟩
  have hl := Lib.splitB_all ⟨#[32]⟩ (by decide) 0 _ s rfl
  exact ⟨_, splitB_words s, by rw [hl], rfl⟩
theorem cut_c (w : World) (hX : TabX w) (s sep : ByteArray) (hs : s.size ≤ 65536) :
    Calls Tryz.prog 50 #[.string s, .string sep] w fun e w' => e = .returned (.tuple #[.string ⟨(Lib.cut s.data.toList sep.data.toList).1.toArray⟩, .string ⟨(Lib.cut s.data.toList sep.data.toList).2.1.toArray⟩, .bool (Lib.cut s.data.toList sep.data.toList).2.2]) ∧ Below w.heap.size w w' := by
  obtain ⟨_, ⟨m, h2⟩, _⟩ := hX
  refine (Tryz.strings_Cut s sep m w (by omega) h2).mono ?_
  rintro e w' ⟨rfl, k, rfl⟩
  exact ⟨rfl, below_drewN (Below.refl _ _) _⟩

set_option maxRecDepth 100000 in
set_option maxHeartbeats 4000000 in
theorem refFormat_c (w : World) (ht : Tab w) (a : Option Addr) (n cap : Nat) (t : List Tst) (hn : t.length = n) (hm : n ≤ maxLen) (H : TestsAt w a t) (hf : FewT t) :
    Calls Tryz.prog 29 #[.slice a n cap] w fun e w' => e = .returned (.string ⟨(formatT t).toArray⟩) ∧ Below w.heap.size w w' := by
  have hn16 : n ≤ 16 := by rw [← hn]; exact hf.1
  have HN := hid hn
  have HH := hid H
  have HFT := hid hf
  have HTAB := hid ht
  have HE1 := hid (fun (h : t.any isE = true) => show formatT t = [] from by unfold formatT; rw [if_pos (.inr h)])
  have HE2 := hid (fun (h : 12 < n) => show formatT t = [] from by unfold formatT; rw [if_pos (.inl (by omega))])
  have HE3 := hid (fun (h : ¬ 12 < n) (h2 : t.any isE = false) => show formatT t = t.flatMap lineT from by
    unfold formatT
    rw [if_neg]
    rintro (h3 | h3)
    · omega
    · have : t.any isE = true := h3
      rw [h2] at this; cases this)
  clear hn H hf ht
  go_enter Tryz.func29, Tryz.ntmps29
  go_wp2
  go_loopw [3, 8] (fun s i wr => ∃ (k : Nat) (S : ByteArray), k ≤ n ∧ i = .int .i64 k ∧ s = .string S ∧ S.size ≤ 903 * k ∧ Hid (S = ⟨((t.take k).flatMap lineT).toArray⟩ ∧ (t.take k).any isE = false) ∧ Below w.heap.size w wr) (fun _ i _ => n - (intOf i).toNat)
  case atStart => exact ⟨0, _, Nat.zero_le _, rfl, rfl, by simp [ByteArray.size], hid ⟨rfl, rfl⟩, Below.refl _ _⟩
  case round =>
    obtain ⟨k, S, hk, rfl, rfl, hS, HS, hb⟩ := hrel
    by_cases hlt : k < n
    · have hkl : k < t.length := by rw [HN.out]; exact hlt
      obtain ⟨b, off, sa, sn, sc, ra, rn, rc, rfl, hbs, h0, h1, hsn, hsm, hsi, hrn, hrm, hri⟩ := (HH.out.below hb) k hkl
      obtain ⟨⟨q1, q2⟩, q3, q4⟩ := HFT.out.2 t[k] (List.getElem_mem hkl)
      have htk : t.take (k + 1) = t.take k ++ [t[k]] := List.take_succ_eq_append_getElem hkl
      have hmem := List.getElem_mem hkl
      obtain ⟨x, hx⟩ : ∃ x, x = t[k]'hkl := ⟨_, rfl⟩
      rw [← hx] at hsn hsi hrn hri q1 q2 q3 q4 htk hmem
      obtain ⟨wt, hwt, hb0, hcells⟩ := tstBox wr sa ra sn sc rn rc
      have HLn := hid (line_c wt (HTAB.out.below (chain hb hb0)) sa ra sn sc rn rc x hsn (by omega) (hsi.below hb0) hrn (by omega) (hri.below hb0) q3 q4)
      have hll := lineB_len ⟨q1, q2⟩ q3 q4
      obtain ⟨I, hI⟩ : ∃ I : ByteArray, I = ⟨(lineB x).toArray⟩ := ⟨_, rfl⟩
      have hIz : I.size ≤ 902 := by rw [hI, bytes_size]; exact hll
      rw [← hI] at HLn
      obtain ⟨J, hJ⟩ : ∃ J : ByteArray, J = I ++ ⟨#[10]⟩ := ⟨_, rfl⟩
      have hsp : (⟨#[10]⟩ : ByteArray).size = 1 := rfl
      have hJs : J.size ≤ 903 := by rw [hJ, ByteArray.size_append, hsp]; omega
      have hr1 : ∀ w, (Op.stringOp .add I ⟨#[10]⟩).run Tryz.prog w = .ok (.string J) w := fun w => by rw [run_string_add_sum w _ _ (by rw [hsp]; omega), hJ]
      obtain ⟨R, hR⟩ : ∃ R : ByteArray, R = S ++ J := ⟨_, rfl⟩
      have hRs : R.size ≤ 903 * (k + 1) := by rw [hR, ByteArray.size_append]; omega
      have hr2 : ∀ w, (Op.stringOp .add S J).run Tryz.prog w = .ok (.string R) w := fun w => by rw [run_string_add_sum w _ _ (by omega), hR]
      have hnew : isE x = false → Hid (R = ⟨((t.take (k + 1)).flatMap lineT).toArray⟩ ∧ (t.take (k + 1)).any isE = false) := fun he => hid (by
        constructor
        · rw [hR, hJ, hI, HS.out.1, htk, List.flatMap_append]
          rw [show (⟨#[10]⟩ : ByteArray) = ⟨[10].toArray⟩ from rfl, bytes_app, bytes_app]
          simp [lineT]
        · rw [htk, List.any_append, HS.out.2]; simp [he])
      have hisE := isE_len x
      rw [hsn, hrn] at hisE
      have HNEW := hid hnew
      have HISE := hid hisE
      have HMEM := hid hmem
      obtain ⟨_, f0, f1⟩ := hcells wt (Below.refl _ _)
      have HWT := hid hwt
      have HB0 := hid (chain hb hb0)
      clear hR hJ hI hx htk hll hIz hsp hJs hwt hb0 hcells hsn hsi hrn hri q1 q2 q3 q4 hnew hisE hmem hkl hb
      unfold maxLen at hsm hrm
      by_cases hs0 : sn = 0
      · have HR := hid (HE1.out (List.any_eq_true.2 ⟨x, HMEM.out, by rw [HISE.out]; simp [hs0]⟩))
        subst hs0
        go_wp2_with fail
        rw [← HWT.out]
        go_wp2
        go_ret
        exact ⟨by rw [HR.out]; rfl, HB0.out⟩
      · have hne : ((sn : Int) == 0) = false := by simp; omega
        by_cases hr0 : rn = 0
        · have HR := hid (HE1.out (List.any_eq_true.2 ⟨x, HMEM.out, by rw [HISE.out]; simp [hr0]⟩))
          subst hr0
          go_wp2_with fail
          rw [← HWT.out]
          go_wp2
          go_ret
          exact ⟨by rw [HR.out]; rfl, HB0.out⟩
        · have hne2 : ((rn : Int) == 0) = false := by simp; omega
          have HNW := hid (HNEW.out (by rw [HISE.out]; simp [hs0, hr0]))
          go_wp2_with fail
          rw [← HWT.out]
          go_wp2_with (go_at_call 61; refine HLn.out.mono ?_; rintro e w2 ⟨rfl, hb2⟩)
          exact ⟨⟨k + 1, R, by omega, by go_num, rfl, hRs, hid HNW.out.out, chain HB0.out hb2⟩, by simp [intOf]; omega⟩
    · obtain rfl : k = n := by omega
      have hall : t.take k = t := List.take_of_length_le (by have := HN.out; omega)
      have HSS := HS.out
      rw [hall] at HSS
      have HSX := hid HSS
      clear hall HSS HS
      by_cases h12 : 12 < k
      · have HR := hid (HE2.out h12)
        go_wp2
        go_ret
        exact ⟨by rw [HR.out]; rfl, hb⟩
      · have HR := hid (HE3.out h12 HSX.out.2)
        go_wp2
        go_ret
        exact ⟨by rw [HR.out, ← HSX.out.1]; rfl, hb⟩
end Go.Proofs.YthaampmdponhbaaGreatDoor

namespace Go.Proofs.YthaampmdponhbaaGreatDoor
open Go.RowKit Go.Shelf
set_option linter.unusedVariables false

theorem words_le : ∀ s : List UInt8, (wordsF s).length ≤ s.length + 1
  | [] => by simp [wordsF]
  | b :: r => by
    have ih := words_le r
    unfold wordsF
    split
    · simp; omega
    · split
      · simp
      · rename_i h; rw [h] at ih; simp at ih ⊢; omega
theorem word_le : ∀ (s w : List UInt8), w ∈ wordsF s → w.length ≤ s.length
  | [], w, h => by simp [wordsF] at h; subst h; simp
  | b :: r, w, h => by
    unfold wordsF at h
    split at h
    · rcases List.mem_cons.1 h with h | h
      · subst h; simp
      · have := word_le r w h; simp; omega
    · split at h
      · simp at h; subst h; simp
      · rename_i v ws hw
        rcases List.mem_cons.1 h with h | h
        · subst h
          have := word_le r v (by rw [hw]; simp)
          simp; omega
        · have := word_le r w (by rw [hw]; simp [h])
          simp; omega
theorem strs_alloc (w : World) (L : List ByteArray) (t : TypeId) (j : Nat) (x : ByteArray) (h : L[j]? = some x) : (w.alloc (.cells (L.map Value.string).toArray t)).cell? ⟨w.heap.size, j, none⟩ = some (.string x) := by
  rw [World.cell?_alloc_at _ _ _ _ rfl, List.getElem?_toArray, List.getElem?_map, h]
  rfl
def wordOk (w : List UInt8) : Bool := decide (Lib.itoa (atV w) = w) && inR (atV w)
theorem refN_all (ws : List (List UInt8)) : refN ws = ws.all wordOk := rfl
def numsR (ws : List (List UInt8)) : List Int := if refN ws then ws.map atV else []

set_option maxRecDepth 100000 in
set_option maxHeartbeats 4000000 in
theorem refNumbers_c (w : World) (hX : TabX w) (s : ByteArray) (hs : s.size ≤ 65536) :
    Calls Tryz.prog 56 #[.string s] w fun e w' => ∃ v base, e = .returned (.tuple #[v, .bool (refN (wordsF s.data.toList))]) ∧ w.heap.size ≤ base ∧ w'.ownsRow base 3 1 v (numsR (wordsF s.data.toList)).length ((numsR (wordsF s.data.toList)).map (Value.int .i64)) ∧ Below w.heap.size w w' := by
  have hsz : s.data.toList.length = s.size := (Lib.size_eq s).symm
  have HSp := hid (split_c w hX s hs)
  have HX := hid hX
  have HWL := hid (words_le s.data.toList)
  have HW1 := hid (fun x hx => word_le s.data.toList x hx)
  obtain ⟨ws, hws⟩ : ∃ ws, ws = wordsF s.data.toList := ⟨_, rfl⟩
  rw [← hws] at HSp HWL HW1 ⊢
  have HLS := hid (show s.data.toList.length ≤ 65536 by omega)
  clear hX hws hsz
  go_enter Tryz.func56, Tryz.ntmps56
  go_wp2_with (go_at_call 51; refine HSp.out.mono ?_; rintro e w1 ⟨L, hL, rfl, hw1⟩; refine Stop.of ?_)
  refine Stop.go ?_
  try rw [← hw1]
  have hb1 : Below w.heap.size w w1 := by rw [hw1]; exact (Below.refl _ _).alloc (Nat.le_refl _) _
  have hcell : ∀ (j : Nat) (x : ByteArray), L[j]? = some x → w1.cell? ⟨w.heap.size, j, none⟩ = some (.string x) := fun j x h => by rw [hw1]; exact strs_alloc w L 9 j x h
  have hlt1 : w.heap.size < w1.heap.size := by rw [hw1]; simp
  have hLl : L.length = ws.length := by rw [← hL, List.length_map]
  have hLN : L.length ≤ 65537 := by have := HWL.out; have := HLS.out; omega
  have HL := hid hL
  have HC := hid hcell
  have HB1 := hid hb1
  have HLL := hid hLl
  obtain ⟨N, hN⟩ : ∃ N, N = L.length := ⟨_, rfl⟩
  rw [← hN] at hLN ⊢
  have HN := hid hN
  clear hw1 hb1 hcell hL hLl hN
  go_wp2
  go_loopw [4, 12] (fun v i wr => ∃ k : Nat, k ≤ N ∧ i = .int .i64 k ∧ wr.ownsRow w1.heap.size 3 1 v k (((ws.map atV).take k).map (Value.int .i64)) ∧ Hid ((ws.take k).all wordOk = true) ∧ Below w1.heap.size w1 wr) (fun _ i _ => N - (intOf i).toNat)
  case atStart => exact ⟨0, Nat.zero_le _, rfl, World.ownsRow_nil _ _ _ _, hid rfl, Below.refl _ _⟩
  case round =>
    obtain ⟨k, hk, rfl, hown, hal, hb⟩ := hrel
    obtain ⟨va, vc, rfl⟩ := ownsRow_slice hown
    by_cases hlt : k < N
    · have hkL : k < L.length := by rw [← HN.out]; exact hlt
      have hkw : k < ws.length := by rw [← HLL.out]; exact hkL
      have hc : wr.cell? ⟨w.heap.size, k, none⟩ = some (.string L[k]) := (hb.cell (p := ⟨w.heap.size, k, none⟩) hlt1).trans (HC.out k L[k] (List.getElem?_eq_getElem hkL))
      have hwk : ws[k] = L[k].data.toList := by
        have h := congrArg (fun l => l[k]?) HL.out
        simp only [List.getElem?_map, List.getElem?_eq_getElem hkL, List.getElem?_eq_getElem hkw, Option.map_some] at h
        exact (Option.some.inj h).symm
      have hwl := HW1.out ws[k] (List.getElem_mem hkw)
      have htk : (ws.map atV).take (k + 1) = (ws.map atV).take k ++ [atV ws[k]] := by rw [List.take_succ_eq_append_getElem (by rw [List.length_map]; exact hkw), List.getElem_map]
      have hta : (ws.take (k + 1)).all wordOk = ((ws.take k).all wordOk && wordOk ws[k]) := by rw [List.take_succ_eq_append_getElem hkw, List.all_append]; simp
      have hex : wordOk ws[k] = false → refN ws = false := fun h => by rw [refN_all]; exact List.all_eq_false.2 ⟨ws[k], List.getElem_mem hkw, by rw [h]; simp⟩
      obtain ⟨B, hB⟩ : ∃ B, B = L[k] := ⟨_, rfl⟩
      rw [← hB] at hc hwk
      rw [hwk] at hwl htk hta hex
      have hBz : B.size ≤ 65536 := by have := Lib.size_eq B; have := HLS.out; omega
      have HA := hid (atoi_c wr (HX.out.below (chain HB1.out hb)) B (by omega))
      obtain ⟨X, hXe⟩ : ∃ X, X = atV B.data.toList := ⟨_, rfl⟩
      have hXi : isInt X := by rw [hXe]; exact atV_isInt _
      have hwo : wordOk B.data.toList = (decide (Lib.itoa X = B.data.toList) && inR X) := by rw [hXe]; rfl
      rw [← hXe] at HA htk
      obtain ⟨I, hI⟩ : ∃ I, I = bytesI X := ⟨_, rfl⟩
      have hIt : ∀ W, Below wr.heap.size wr W → Calls Tryz.prog 90 #[.int .i64 X] W fun e w' => e = .returned (.string I) ∧ Below W.heap.size W w' := fun W hbW => by
        rw [hI]; exact itoa_c X hXi W (HX.out.1.below (chain HB1.out (chain hb hbW)))
      have hcmp : (I.toList = B.toList) = (Lib.itoa X = B.data.toList) := by rw [Lib.toList_data, Lib.toList_data, hI]; rfl
      have HIT := hid hIt
      have HTK := hid htk
      have HTA := hid hta
      have HEX := hid hex
      have HWO := hid hwo
      have HO := hid hown
      have HB := hid hb
      have HAL := hid hal.out
      clear hI hIt hXe hXi htk hta hex hwo hown hb hal hwl hwk hB hkw hkL hBz
      by_cases e1 : Lib.itoa X = B.data.toList
      · have hc1 : I.toList = B.toList := by rw [hcmp]; exact e1
        cases e2 : inR X
        · have HR := hid (HEX.out (by rw [HWO.out, e2]; simp))
          have hin : inB X (-1000000000) 1000000000 = false := e2
          have hI1 := hid (fun (W : World) => show Calls Tryz.prog 70 #[.int .i64 X, .int .i64 (-1000000000), .int .i64 1000000000] W fun e w' => e = .returned (.bool false) ∧ W = w' from by have := r9in_c X (-1000000000) 1000000000 W; rw [hin] at this; exact this)
          clear hcmp e1 e2 hin
          go_wp2_with (first | (go_at_call 52; refine HA.out.mono ?_; rintro e w2 ⟨ev, rfl, hb2⟩) | (go_at_call 90; refine (HIT.out _ hb2).mono ?_; rintro e w3 ⟨rfl, hb3⟩) | (go_at_call 70; refine (hI1.out _).mono ?_; rintro e w4 ⟨rfl, rfl⟩))
          go_ret2
          refine ⟨.slice none 0 0, w.heap.size, by rw [HR.out]; rfl, Nat.le_refl _, ?_, chain HB1.out (chain HB.out (chain hb2 hb3))⟩
          unfold numsR; rw [HR.out]; exact World.ownsRow_nil _ _ _ _
        · have hin : inB X (-1000000000) 1000000000 = true := e2
          have hI1 := hid (fun (W : World) => show Calls Tryz.prog 70 #[.int .i64 X, .int .i64 (-1000000000), .int .i64 1000000000] W fun e w' => e = .returned (.bool true) ∧ W = w' from by have := r9in_c X (-1000000000) 1000000000 W; rw [hin] at this; exact this)
          have HOK := hid (show wordOk B.data.toList = true by rw [HWO.out, e2, e1]; simp)
          have M1 := hid (show k + 1 ≤ maxLen by unfold maxLen; omega)
          have M2 := hid (show (k + 1) * 8 ≤ 140737488355328 by omega)
          clear hcmp e1 e2 hin
          go_wp2_with (first | (go_at_call 52; refine HA.out.mono ?_; rintro e w2 ⟨ev, rfl, hb2⟩) | (go_at_call 90; refine (HIT.out _ hb2).mono ?_; rintro e w3 ⟨rfl, hb3⟩) | (go_at_call 70; refine (hI1.out _).mono ?_; rintro e w4 ⟨rfl, rfl⟩; refine Stop.of ?_))
          refine Stop.go ?_
          have hb23 := chain hb2 hb3
          have HB3 := hid (chain HB.out hb23)
          have HO3 := hid (own_below HO.out hb23)
          have HN3 := hid (one_news w3 (.int .i64 X) 3)
          have M3 := hid (Nat.le_trans HB3.out.size (le_alloc w3 (.cells #[.int .i64 X] 3)))
          have HLA := hid (HB3.out.alloc HB3.out.size (.cells #[.int .i64 X] 3))
          clear hb2 hb3 hb23
          go_wp2_with (at_builtin; refine wpList_app _ rfl (.tmp 30) (.tmp 32) 27 rfl w1.heap.size 3 (.int .i64 0) 1 8 Tryz.underlying27 info_int rfl Nat.one_pos (.slice va k vc) k _ rfl (HO3.out.alloc _) (some ⟨w3.heap.size, 0, none⟩) 1 1 [.int .i64 X] rfl rfl no_none HN3.out (one_int _) M1.out M2.out M3.out ?_; refine Stop.of ?_)
          refine Stop.go ?_
          intro a7 c7 w7 own7 g7
          have hb7 := HLA.out.grown g7 M3.out (fun q hq => (HO3.out.lt q hq).1)
          have HO7 := hid own7
          clear own7 g7
          go_wp2
          refine ⟨⟨k + 1, by omega, by go_num, ?_, hid ?_, hb7⟩, by simp [intOf]; omega⟩
          · rw [HTK.out, List.map_append, List.map_take, List.map_map]; exact HO7.out
          · rw [HTA.out, HAL.out, HOK.out]; rfl
      · have hc1 : ¬ I.toList = B.toList := by rw [hcmp]; exact e1
        have HR := hid (HEX.out (by rw [HWO.out]; simp [e1]))
        clear hcmp e1
        go_wp2_with (first | (go_at_call 52; refine HA.out.mono ?_; rintro e w2 ⟨ev, rfl, hb2⟩) | (go_at_call 90; refine (HIT.out _ hb2).mono ?_; rintro e w3 ⟨rfl, hb3⟩))
        go_ret2
        refine ⟨.slice none 0 0, w.heap.size, by rw [HR.out]; rfl, Nat.le_refl _, ?_, chain HB1.out (chain HB.out (chain hb2 hb3))⟩
        unfold numsR; rw [HR.out]; exact World.ownsRow_nil _ _ _ _
    · obtain rfl : k = N := by omega
      have hall : (ws.map atV).take k = ws.map atV := List.take_of_length_le (by rw [List.length_map, ← HLL.out, HN.out]; exact Nat.le_refl _)
      have hall2 : ws.take k = ws := List.take_of_length_le (by rw [← HLL.out, HN.out]; exact Nat.le_refl _)
      rw [hall] at hown
      have hR : refN ws = true := by rw [refN_all, ← hall2]; exact hal.out
      have HR := hid hR
      have HO := hid hown
      have hkl : (ws.map atV).length = k := by rw [List.length_map, ← HLL.out, HN.out]
      have HKL := hid hkl
      clear hall hall2 hown hR hal hkl
      go_wp2
      go_ret2
      refine ⟨.slice va k vc, w1.heap.size, by rw [HR.out]; rfl, HB1.out.size, ?_, chain HB1.out hb⟩
      have e : numsR ws = ws.map atV := by unfold numsR; rw [HR.out]; rfl
      rw [e, HKL.out]
      exact HO.out
end Go.Proofs.YthaampmdponhbaaGreatDoor

namespace Go.Proofs.YthaampmdponhbaaGreatDoor
open Go.RowKit Go.Maps
set_option linter.unusedVariables false

theorem news2 (w : World) (x0 x1 : Value) (T : TypeId) : ∀ ad, (some ⟨w.heap.size, 0, none⟩ : Option Addr) = some ad → ∀ j u, [x0, x1][j]? = some u → (w.alloc (.cells #[x0, x1] T)).cell? (ad.add j) = some u := by
  intro ad e j u hu
  cases e
  match j, hu with
  | 0, hu => rw [Addr.add_lit, World.cell?_alloc_at _ _ _ _ rfl]; simpa using hu
  | 1, hu => rw [Addr.add_lit, World.cell?_alloc_at _ _ _ _ rfl]; simpa using hu
end Go.Proofs.YthaampmdponhbaaGreatDoor

namespace Go.Proofs.YthaampmdponhbaaGreatDoor
open Go.RowKit Go.Shelf
set_option linter.unusedVariables false

def strV : Value → Nat
  | .string b => b.size
  | _ => 0
theorem bytes_nil {B : ByteArray} (h : B.size = 0) : B = ⟨#[]⟩ := by
  obtain ⟨⟨l⟩⟩ := B
  simp [ByteArray.size] at h
  simp [h]
theorem cut_rest_le (s sep : List UInt8) : (Lib.cut s sep).1.length ≤ s.length ∧ (Lib.cut s sep).2.1.length ≤ s.length := by
  unfold Lib.cut
  split
  · simp only [List.length_take, List.length_drop]; omega
  · simp
theorem refStep_no {k : Nat} {s : List UInt8} (h : ¬ ((Lib.cut s [10]).2.2 = true ∧ (Lib.cut (Lib.cut s [10]).1 [32, 58, 32]).2.2 = true ∧ refN (wordsF (Lib.cut (Lib.cut s [10]).1 [32, 58, 32]).1) = true ∧ refN (wordsF (Lib.cut (Lib.cut s [10]).1 [32, 58, 32]).2.1) = true ∧ k ≠ 12)) : refStep k s = none := by
  unfold refStep
  simp only []
  rw [if_neg h]
theorem refStep_yes {k : Nat} {s : List UInt8} (h : (Lib.cut s [10]).2.2 = true ∧ (Lib.cut (Lib.cut s [10]).1 [32, 58, 32]).2.2 = true ∧ refN (wordsF (Lib.cut (Lib.cut s [10]).1 [32, 58, 32]).1) = true ∧ refN (wordsF (Lib.cut (Lib.cut s [10]).1 [32, 58, 32]).2.1) = true ∧ k ≠ 12) : refStep k s = some (⟨(wordsF (Lib.cut (Lib.cut s [10]).1 [32, 58, 32]).1).map atV, (wordsF (Lib.cut (Lib.cut s [10]).1 [32, 58, 32]).2.1).map atV⟩, (Lib.cut s [10]).2.1) := by
  unfold refStep
  simp only []
  rw [if_pos h]

set_option maxRecDepth 100000 in
set_option maxHeartbeats 8000000 in
theorem refParse_c (w : World) (hX : TabX w) (s : ByteArray) (hsm : s.size ≤ 9223372036854775807) :
    Calls Tryz.prog 27 #[.string s] w fun e w' => ∃ v, e = .returned (.tuple #[v, .int .i64 ((parseT s.data.toList).2.1 : Nat), .int .i64 (parseT s.data.toList).2.2]) ∧ TestsO w' w.heap.size v (parseT s.data.toList).1 ∧ Below w.heap.size w w' := by
  have hsz : s.data.toList.length = s.size := (Lib.size_eq s).symm
  by_cases hbig : 65536 < s.size
  · have HE := hid (show parseT s.data.toList = ([], 0, 3) by unfold parseT; rw [if_pos (by omega)])
    clear hX hsz
    go_enter Tryz.func27, Tryz.ntmps27
    go_wp2
    refine bodyPost_ret (v := .tuple #[.slice none 0 0, .int .i64 0, .int .i64 3]) (by simp [results, Tryz.results27, go_sem]) rfl ?_
    refine ⟨.slice none 0 0, by rw [HE.out]; rfl, by rw [HE.out]; exact TestsO.nil _ _, Below.refl _ _⟩
  have hPT : parseT s.data.toList = parseF s.size [] s.data.toList := by unfold parseT; rw [if_neg (by omega), hsz]
  obtain ⟨PT, hPTe⟩ : ∃ P, P = parseT s.data.toList := ⟨_, rfl⟩
  rw [← hPTe] at hPT ⊢
  have HX := hid hX
  have HPT := hid hPT
  clear hX hPT hPTe hsz
  go_enter Tryz.func27, Tryz.ntmps27
  go_wp2
  go_loopw [0, 2, 5] (fun s0 v i wr => ∃ (acc : List Tst) (B : ByteArray) (f : Nat), s0 = .string B ∧ i = .int .i64 acc.length ∧ acc.length ≤ 12 ∧ TestsO wr w.heap.size v acc ∧ B.size ≤ f ∧ B.size ≤ s.size ∧ Hid (PT = parseF f acc B.data.toList) ∧ Below w.heap.size w wr) (fun s0 _ _ _ => strV s0)
  case atStart => exact ⟨[], s, s.size, rfl, rfl, Nat.zero_le _, TestsO.nil _ _, Nat.le_refl _, Nat.le_refl _, hid HPT.out, Below.refl _ _⟩
  case round =>
    obtain ⟨acc, B, f, rfl, rfl, hk, hto, hBf, hBs, HPF, hb⟩ := hrel
    obtain ⟨va, vc, rfl⟩ := hto.slice
    obtain ⟨k, hke⟩ : ∃ k, k = acc.length := ⟨_, rfl⟩
    rw [← hke] at hk hto ⊢
    have HK := hid hke
    have HTO := hid hto
    have HB := hid hb
    clear hke hto hb
    by_cases hB0 : B.size = 0
    · have hBe := bytes_nil hB0
      subst hBe
      have HR := hid (show PT = (acc, 0, 0) from by rw [HPF.out]; exact parse_end f acc)
      clear hB0
      go_wp2
      refine bodyPost_ret (v := .tuple #[.slice va k vc, .int .i64 0, .int .i64 0]) (by simp [results, Tryz.results27, go_sem]) rfl ?_
      exact ⟨.slice va k vc, by rw [HR.out]; rfl, by rw [HR.out]; exact HTO.out, HB.out⟩
    · have hne : B.data.toList ≠ [] := by intro h; apply hB0; rw [Lib.size_eq, h]; rfl
      have hne1 : ¬ B.toList = [] := by rw [Lib.toList_data]; exact hne
      have hne2 : (B.toList == []) = false := by simpa using hne1
      have hne3 : (B.toList != []) = true := by simpa using hne1
      have hBz : B.data.toList.length = B.size := (Lib.size_eq B).symm
      have HC1 := hid (fun (W : World) (hb : Below wr.heap.size wr W) => cut_c W (HX.out.below (chain HB.out hb)) B ⟨#[10]⟩ (by omega))
      have e10 : (⟨#[10]⟩ : ByteArray).data.toList = [10] := rfl
      have e32 : (⟨#[32, 58, 32]⟩ : ByteArray).data.toList = [32, 58, 32] := rfl
      rw [e10] at HC1
      have hst := step_same hk B.data.toList
      have hno := fun h => refStep_no (k := k) (s := B.data.toList) h
      have hyes := fun h => refStep_yes (k := k) (s := B.data.toList) h
      have hl1 := cut_rest_le B.data.toList [10]
      obtain ⟨c1, hc1⟩ : ∃ c, c = (Lib.cut B.data.toList [10]).1 := ⟨_, rfl⟩
      obtain ⟨c2, hc2⟩ : ∃ c, c = (Lib.cut B.data.toList [10]).2.1 := ⟨_, rfl⟩
      obtain ⟨c3, hc3⟩ : ∃ c, c = (Lib.cut B.data.toList [10]).2.2 := ⟨_, rfl⟩
      rw [← hc1, ← hc2, ← hc3] at HC1
      rw [← hc1, ← hc3] at hno
      rw [← hc1, ← hc2, ← hc3] at hyes
      rw [← hc1, ← hc2] at hl1
      obtain ⟨T1, hT1⟩ : ∃ T : ByteArray, T = ⟨c1.toArray⟩ := ⟨_, rfl⟩
      obtain ⟨T2, hT2⟩ : ∃ T : ByteArray, T = ⟨c2.toArray⟩ := ⟨_, rfl⟩
      have hT1d : T1.data.toList = c1 := by rw [hT1]
      have hT2d : T2.data.toList = c2 := by rw [hT2]
      have hT1z : T1.size ≤ 65536 := by rw [hT1, bytes_size]; omega
      have hT2z : T2.size = c2.length := by rw [hT2, bytes_size]
      rw [← hT1, ← hT2] at HC1
      have HC2 := hid (fun (W : World) (hb : Below wr.heap.size wr W) => cut_c W (HX.out.below (chain HB.out hb)) T1 ⟨#[32, 58, 32]⟩ hT1z)
      rw [e32, hT1d] at HC2
      have hl2 := cut_rest_le c1 [32, 58, 32]
      obtain ⟨d1, hd1⟩ : ∃ c, c = (Lib.cut c1 [32, 58, 32]).1 := ⟨_, rfl⟩
      obtain ⟨d2, hd2⟩ : ∃ c, c = (Lib.cut c1 [32, 58, 32]).2.1 := ⟨_, rfl⟩
      obtain ⟨d3, hd3⟩ : ∃ c, c = (Lib.cut c1 [32, 58, 32]).2.2 := ⟨_, rfl⟩
      rw [← hd1, ← hd2, ← hd3] at HC2 hno hyes
      rw [← hd1, ← hd2] at hl2
      obtain ⟨T3, hT3⟩ : ∃ T : ByteArray, T = ⟨d1.toArray⟩ := ⟨_, rfl⟩
      obtain ⟨T4, hT4⟩ : ∃ T : ByteArray, T = ⟨d2.toArray⟩ := ⟨_, rfl⟩
      have hT3d : T3.data.toList = d1 := by rw [hT3]
      have hT4d : T4.data.toList = d2 := by rw [hT4]
      have hT3z : T3.size ≤ 65536 := by rw [hT3, bytes_size]; omega
      have hT4z : T4.size ≤ 65536 := by rw [hT4, bytes_size]; omega
      rw [← hT3, ← hT4] at HC2
      have HN1 := hid (fun (W : World) (hb : Below wr.heap.size wr W) => refNumbers_c W (HX.out.below (chain HB.out hb)) T3 hT3z)
      have HN2 := hid (fun (W : World) (hb : Below wr.heap.size wr W) => refNumbers_c W (HX.out.below (chain HB.out hb)) T4 hT4z)
      rw [hT3d] at HN1
      rw [hT4d] at HN2
      have hw1 := words_le d1
      have hw2 := words_le d2
      have hn1 : (numsR (wordsF d1)).length ≤ 65537 := by
        unfold numsR; split
        · rw [List.length_map]; have := bytes_size d1; rw [← hT3] at this; omega
        · simp
      have hn2 : (numsR (wordsF d2)).length ≤ 65537 := by
        unfold numsR; split
        · rw [List.length_map]; have := bytes_size d2; rw [← hT4] at this; omega
        · simp
      have HNL := hid (And.intro hn1 hn2)
      obtain ⟨r1, hr1⟩ : ∃ b, b = refN (wordsF d1) := ⟨_, rfl⟩
      obtain ⟨r2, hr2⟩ : ∃ b, b = refN (wordsF d2) := ⟨_, rfl⟩
      rw [← hr1] at HN1 hno hyes
      rw [← hr2] at HN2 hno hyes
      have HNR1 := hid (show r1 = true → numsR (wordsF d1) = (wordsF d1).map atV from fun h => by unfold numsR; rw [← hr1, h]; rfl)
      have HNR2 := hid (show r2 = true → numsR (wordsF d2) = (wordsF d2).map atV from fun h => by unfold numsR; rw [← hr2, h]; rfl)
      have HNO := hid (fun h => show PT = ([], k, 2) from by
        have h1 : progStep acc.length B.data.toList = none := by rw [← HK.out, ← hst]; exact hno h
        rw [HPF.out, parse_bad hne h1, ← HK.out])
      have HYES := hid (fun h => show PT = parseF (f - 1) (acc ++ [⟨(wordsF d1).map atV, (wordsF d2).map atV⟩]) c2 ∧ c2.length < B.size from by
        have h1 : progStep acc.length B.data.toList = some (⟨(wordsF d1).map atV, (wordsF d2).map atV⟩, c2) := by rw [← HK.out, ← hst]; exact hyes h
        refine ⟨?_, by rw [← hBz]; exact step_less h1⟩
        rw [HPF.out, show f = (f - 1) + 1 by omega, parse_step hne h1]
        rfl)
      have HT2 := hid (And.intro hT2d hT2z)
      clear hst hno hyes hl1 hl2 hc1 hc2 hc3 hT1 hT2 hT1d hT2d hT2z hd1 hd2 hd3 hT3 hT4 hT3d hT4d hw1 hw2 hn1 hn2 hr1 hr2 hne e10 e32 hBz hT1z hT3z hT4z
      go_wp2_with (go_at_call 50; refine (HC1.out _ (Below.refl _ _)).mono ?_; rintro e w2 ⟨rfl, hb2⟩; refine Stop.of ?_)
      refine Stop.go ?_
      have hB2 := hb2
      go_wp2_with (go_at_call 50; refine (HC2.out _ hb2).mono ?_; rintro e w3 ⟨rfl, hb3⟩; refine Stop.of ?_)
      refine Stop.go ?_
      have hb23 := chain hb2 hb3
      go_wp2_with (go_at_call 56; refine (HN1.out _ hb23).mono ?_; rintro e w4 ⟨v4, base4, rfl, hbase4, ho4, hb4⟩; refine Stop.of ?_)
      refine Stop.go ?_
      have hb24 := chain hb23 hb4
      obtain ⟨va4, vc4, rfl⟩ := ownsRow_slice ho4
      go_wp2_with (go_at_call 56; refine (HN2.out _ hb24).mono ?_; rintro e w5 ⟨v5, base5, rfl, hbase5, ho5, hb5⟩; refine Stop.of ?_)
      refine Stop.go ?_
      have hb25 := chain hb24 hb5
      obtain ⟨va5, vc5, rfl⟩ := ownsRow_slice ho5
      have HB5 := hid (chain HB.out hb25)
      have HB25 := hid hb25
      have HO4 := hid (own_below ho4 hb5)
      have HO5 := hid ho5
      have HSZ := hid (And.intro (chain HB.out hb23).size (chain HB.out hb24).size)
      have HBS := hid (And.intro hbase4 hbase5)
      clear hb2 hB2 hb3 hb23 hb4 hb24 hb5 hb25 ho4 ho5 hbase4 hbase5
      by_cases hall : c3 = true ∧ d3 = true ∧ r1 = true ∧ r2 = true ∧ k ≠ 12
      · obtain ⟨hy1, hy2⟩ := HYES.out hall
        obtain ⟨rfl, rfl, rfl, rfl, hk12⟩ := hall
        have hk12' : ((k : Int) == 12) = false := by simp; omega
        have HY1 := hid hy1
        have HE1 := hid (HNR1.out rfl)
        have HE2 := hid (HNR2.out rfl)
        have hTB := HTO.out.below HB25.out
        obtain ⟨xs, ho, he⟩ := hTB
        rw [← HK.out] at ho
        obtain ⟨nn1, hnn1⟩ : ∃ n, n = (numsR (wordsF d1)).length := ⟨_, rfl⟩
        obtain ⟨nn2, hnn2⟩ : ∃ n, n = (numsR (wordsF d2)).length := ⟨_, rfl⟩
        have h1 : ElemI 3 w5 w.heap.size (fun _ => True) (.slice va4 nn1 vc4) ((wordsF d1).map atV) := by
          rw [hnn1, ← HE1.out]
          exact ElemI.own' HO4.out rfl rfl (by have := HNL.out.1; unfold maxLen; omega) (fun _ _ => trivial)
        have h2 : ElemI 3 w5 w.heap.size (fun _ => True) (.slice va5 nn2 vc5) ((wordsF d2).map atV) := by
          rw [hnn2, ← HE2.out]
          exact ElemI.own' HO5.out rfl rfl (by have := HNL.out.2; unfold maxLen; omega) (fun _ _ => trivial)
        rw [← hnn1, ← hnn2]
        have HH := hid (And.intro he (And.intro h1 h2))
        have HO := hid ho
        have HN5 := hid (news2 w5 (.slice va4 nn1 vc4) (.slice va5 nn2 vc5) 29)
        have HO2 := hid (show ∀ u ∈ [Value.slice va4 nn1 vc4, .slice va5 nn2 vc5], u.oneCell' = true from by intro u hu; simp at hu; rcases hu with rfl | rfl <;> rfl)
        have M1 := hid (show k + 1 ≤ maxLen by unfold maxLen; omega)
        have M2 := hid (show (k + 1) * 48 ≤ 140737488355328 by omega)
        have M3 := hid (Nat.le_trans HB5.out.size (le_alloc w5 (.cells #[.slice va4 nn1 vc4, .slice va5 nn2 vc5] 29)))
        have HLA := hid (HB5.out.alloc HB5.out.size (.cells #[.slice va4 nn1 vc4, .slice va5 nn2 vc5] 29))
        have HT3 := hid (show T2.size < B.size by rw [HT2.out.2]; exact hy2)
        clear hy1 he h1 h2 ho hnn1 hnn2 hy2
        go_wp2_with (at_builtin; refine wpList_app _ rfl (.tmp 64) (.tmp 68) 26 rfl w.heap.size 29 (.agg #[.slice none 0 0, .slice none 0 0]) 2 48 Tryz.underlying26 info_test rfl (by decide) (.slice va k vc) k xs rfl (HO.out.alloc _) (some ⟨w5.heap.size, 0, none⟩) 1 1 [.slice va4 nn1 vc4, .slice va5 nn2 vc5] rfl rfl no_none HN5.out HO2.out M1.out M2.out M3.out ?_; refine Stop.of ?_)
        refine Stop.go ?_
        intro a8 c8 w8 own8 g8
        have hT8 : TestsO w8 w.heap.size (.slice a8 (k + 1) c8) (acc ++ [⟨(wordsF d1).map atV, (wordsF d2).map atV⟩]) := TestsO.snoc (us := .slice va4 nn1 vc4) (ur := .slice va5 nn2 vc5) (W := w5) (w1 := w5.alloc (.cells #[.slice va4 nn1 vc4, .slice va5 nn2 vc5] 29)) (v := .slice va k vc) (by rw [← HK.out]; exact HO.out) HH.out.1 HH.out.2.1 HH.out.2.2 ((Below.refl _ w5).alloc (Nat.le_refl _) _) g8 (by rw [← HK.out]; exact own8)
        have hb8 : Below w.heap.size w w8 := HLA.out.grown g8 M3.out (fun q hq => (HO.out.lt q hq).1)
        have HT8 := hid hT8
        have HB8 := hid hb8
        clear own8 g8 hT8 hb8
        go_wp2
        refine ⟨⟨acc ++ [⟨(wordsF d1).map atV, (wordsF d2).map atV⟩], T2, f - 1, rfl, ?_, ?_, HT8.out, ?_, ?_, hid ?_, HB8.out⟩, ?_⟩
        · rw [List.length_append, ← HK.out]; rfl
        · rw [List.length_append, ← HK.out]; simp; omega
        · have := HT3.out; omega
        · have := HT3.out; omega
        · rw [HT2.out.1]; exact HY1.out
        · exact HT3.out
      · have HR := hid (HNO.out hall)
        have HFIN := hid (show ∀ W, Below w5.heap.size w5 W → ∃ v, Ending.returned (.tuple #[.slice none 0 0, .int .i64 (k : Int), .int .i64 2]) = .returned (.tuple #[v, .int .i64 (PT.2.1 : Nat), .int .i64 PT.2.2]) ∧ TestsO W w.heap.size v PT.1 ∧ Below w.heap.size w W from fun W hW => ⟨.slice none 0 0, by rw [HR.out], by rw [HR.out]; exact TestsO.nil _ _, chain HB5.out hW⟩)
        cases c3 with
        | false =>
          go_wp2
          refine bodyPost_ret (v := .tuple #[.slice none 0 0, .int .i64 (k : Int), .int .i64 2]) (by simp [results, Tryz.results27, go_sem]) rfl ?_
          exact HFIN.out _ (Below.refl _ _)
        | true =>
          cases d3 with
          | false =>
            go_wp2
            refine bodyPost_ret (v := .tuple #[.slice none 0 0, .int .i64 (k : Int), .int .i64 2]) (by simp [results, Tryz.results27, go_sem]) rfl ?_
            exact HFIN.out _ (Below.refl _ _)
          | true =>
            cases r1 with
            | false =>
              go_wp2
              refine bodyPost_ret (v := .tuple #[.slice none 0 0, .int .i64 (k : Int), .int .i64 2]) (by simp [results, Tryz.results27, go_sem]) rfl ?_
              exact HFIN.out _ (Below.refl _ _)
            | true =>
              cases r2 with
              | false =>
                go_wp2
                refine bodyPost_ret (v := .tuple #[.slice none 0 0, .int .i64 (k : Int), .int .i64 2]) (by simp [results, Tryz.results27, go_sem]) rfl ?_
                exact HFIN.out _ (Below.refl _ _)
              | true =>
                have hk12 : k = 12 := by
                  rcases Nat.lt_or_ge k 12 with h | h
                  · exact absurd ⟨rfl, rfl, rfl, rfl, by omega⟩ hall
                  · omega
                subst hk12
                go_wp2
                refine bodyPost_ret (v := .tuple #[.slice none 0 0, .int .i64 12, .int .i64 2]) (by simp [results, Tryz.results27, go_sem]) rfl ?_
                exact HFIN.out _ (Below.refl _ _)
end Go.Proofs.YthaampmdponhbaaGreatDoor

namespace Go.Proofs.YthaampmdponhbaaGreatDoor
open Go.RowKit Go.Shelf
set_option linter.unusedVariables false

def Box2 (W : World) (b : Nat) (x y : Value) : Prop := W.heap[b]? = some (.cells #[x, y] 29 (0, 0))
theorem Box2.lt {W : World} {b : Nat} {x y : Value} (h : Box2 W b x y) : b < W.heap.size := (Array.getElem?_eq_some_iff.1 h).1
theorem Box2.cell0 {W : World} {b : Nat} {x y : Value} (h : Box2 W b x y) : W.cell? ⟨b, 0, none⟩ = some x := by
  simp [World.cell?, show W.heap[b]? = _ from h]
theorem Box2.cell1 {W : World} {b : Nat} {x y : Value} (h : Box2 W b x y) : W.cell? ⟨b, 1, none⟩ = some y := by
  simp [World.cell?, show W.heap[b]? = _ from h]
theorem Box2.frozen {W : World} {b : Nat} {x y : Value} (h : Box2 W b x y) (j : Nat) : W.frozen? ⟨b, j, none⟩ = false := by
  simp [World.frozen?, show W.heap[b]? = _ from h]
theorem Box2.keep {W W' : World} {b : Nat} {x y : Value} (h : Box2 W b x y) (hk : W'.heap[b]? = W.heap[b]?) : Box2 W' b x y := hk.trans h
theorem pstep_len (P : PSt) (w : List UInt8) : (pstep P w).sh.length + (pstep P w).rd.length ≤ P.sh.length + P.rd.length + 1 := by
  unfold pstep
  split
  · simp only []; omega
  · split <;> simp only [List.length_append, List.length_cons, List.length_nil] <;> omega
theorem pfold_len (ok : Bool) (ws : List (List UInt8)) : (pfold ok ws).sh.length + (pfold ok ws).rd.length ≤ ws.length := by
  induction ws using snoc_ind with
  | h0 => simp [pfold]
  | h1 ws w ih =>
    rw [pfold_snoc]
    have := pstep_len (pfold ok ws) w
    rw [List.length_append]; simp only [List.length_cons, List.length_nil]; omega
theorem pfold_int (ok : Bool) (ws : List (List UInt8)) : (∀ n ∈ (pfold ok ws).sh, isInt n) ∧ ∀ n ∈ (pfold ok ws).rd, isInt n := by
  induction ws using snoc_ind with
  | h0 => simp [pfold]
  | h1 ws w ih =>
    rw [pfold_snoc]
    obtain ⟨h1, h2⟩ := ih
    unfold pstep
    split
    · exact ⟨h1, h2⟩
    · split
      · refine ⟨h1, fun n hn => ?_⟩
        rcases List.mem_append.1 hn with hn | hn
        · exact h2 n hn
        · simp at hn; rw [hn]; exact atV_isInt _
      · refine ⟨fun n hn => ?_, h2⟩
        rcases List.mem_append.1 hn with hn | hn
        · exact h1 n hn
        · simp at hn; rw [hn]; exact atV_isInt _

def InW (wo w4 : World) (xb : Nat) (P : PSt) (W : World) : Prop :=
  wo.heap.size ≤ xb ∧ xb < w4.heap.size ∧ Below wo.heap.size wo W ∧ Keep (fun k => k ≠ xb) w4 W ∧ ∃ sv rv qb, Box2 W xb sv rv ∧ w4.heap.size ≤ qb ∧ qb ≤ W.heap.size ∧
    W.ownsRow w4.heap.size 3 1 sv P.sh.length (P.sh.map (Value.int .i64)) ∧ (P.sw = true → ∀ k, sv.ownBlock = some k → k < qb) ∧
    W.ownsRow qb 3 1 rv P.rd.length (P.rd.map (Value.int .i64)) ∧ (P.sw = false → rv = .slice none 0 0)
theorem InW.below {wo w4 : World} {xb : Nat} {P : PSt} {W W' : World} (h : InW wo w4 xb P W) (hb : Below W.heap.size W W') : InW wo w4 xb P W' := by
  obtain ⟨h1, h2, h3, h4, sv, rv, qb, h5, h6, h7, h8, h9, h10, h11⟩ := h
  exact ⟨h1, h2, chain h3 hb, h4.trans (Keep.of_below hb), sv, rv, qb, h5.keep (hb.block _ h5.lt), h6, Nat.le_trans h7 hb.size, own_below h8 hb, h9, own_below h10 hb, h11⟩
theorem InW.done {wo w4 : World} {xb base : Nat} {P : PSt} {W : World} (h : InW wo w4 xb P W) (hl : P.sh.length ≤ maxLen) (hl2 : P.rd.length ≤ maxLen) : ∃ sa sc ra rc, W.cell? ⟨xb, 0, none⟩ = some (.slice sa P.sh.length sc) ∧ W.cell? ⟨xb, 1, none⟩ = some (.slice ra P.rd.length rc) ∧
    ElemI 3 W base (fun _ => True) (.slice sa P.sh.length sc) P.sh ∧ ElemI 3 W base (fun _ => True) (.slice ra P.rd.length rc) P.rd ∧ Below wo.heap.size wo W := by
  obtain ⟨h1, h2, h3, h4, sv, rv, qb, h5, h6, h7, h8, h9, h10, h11⟩ := h
  obtain ⟨sa, sc, rfl⟩ := ownsRow_slice h8
  obtain ⟨ra, rc, rfl⟩ := ownsRow_slice h10
  exact ⟨sa, sc, ra, rc, h5.cell0, h5.cell1, ElemI.own h8 hl fun _ _ => trivial, ElemI.own h10 hl2 fun _ _ => trivial, h3⟩
end Go.Proofs.YthaampmdponhbaaGreatDoor

namespace Go.Proofs.YthaampmdponhbaaGreatDoor
open Go.RowKit Go.Shelf
set_option linter.unusedVariables false

theorem prog_no {k : Nat} {s : List UInt8} (h : ¬ ((pfold (decide (k < 12)) (wordsF (Lib.cut s [10]).1)).ok = true ∧ (pfold (decide (k < 12)) (wordsF (Lib.cut s [10]).1)).sh ≠ [] ∧ (pfold (decide (k < 12)) (wordsF (Lib.cut s [10]).1)).rd ≠ [] ∧ Lib.hasPrefix s (wrT ⟨(pfold (decide (k < 12)) (wordsF (Lib.cut s [10]).1)).sh, (pfold (decide (k < 12)) (wordsF (Lib.cut s [10]).1)).rd⟩) = true)) : progStep k s = none := by
  unfold progStep
  simp only []
  rw [if_neg h]
theorem prog_yes {k : Nat} {s : List UInt8} (h : (pfold (decide (k < 12)) (wordsF (Lib.cut s [10]).1)).ok = true ∧ (pfold (decide (k < 12)) (wordsF (Lib.cut s [10]).1)).sh ≠ [] ∧ (pfold (decide (k < 12)) (wordsF (Lib.cut s [10]).1)).rd ≠ [] ∧ Lib.hasPrefix s (wrT ⟨(pfold (decide (k < 12)) (wordsF (Lib.cut s [10]).1)).sh, (pfold (decide (k < 12)) (wordsF (Lib.cut s [10]).1)).rd⟩) = true) : progStep k s = some (⟨(pfold (decide (k < 12)) (wordsF (Lib.cut s [10]).1)).sh, (pfold (decide (k < 12)) (wordsF (Lib.cut s [10]).1)).rd⟩, (Lib.cut s [10]).2.1) := by
  unfold progStep
  simp only []
  rw [if_pos h]

set_option maxRecDepth 100000 in
set_option maxHeartbeats 8000000 in
theorem Parse_c (w : World) (hX : TabX w) (s : ByteArray) (hsm : s.size ≤ 60000 ∨ 65536 < s.size) (hs2 : s.size ≤ 9223372036854775807) :
    Calls Tryz.prog 26 #[.string s] w fun e w' => ∃ v, e = .returned (.tuple #[v, .int .i64 (parseT s.data.toList).2.1, .int .i64 (parseT s.data.toList).2.2]) ∧ TestsO w' w.heap.size v (parseT s.data.toList).1 ∧ Below w.heap.size w w' := by
  have hsz : s.data.toList.length = s.size := (Lib.size_eq s).symm
  by_cases hbig : 65536 < s.size
  · have HE := hid (show parseT s.data.toList = ([], 0, 3) by unfold parseT; rw [if_pos (by omega)])
    clear hX hsz hsm
    go_enter Tryz.func26, Tryz.ntmps26
    go_wp2
    refine bodyPost_ret (v := .tuple #[.slice none 0 0, .int .i64 0, .int .i64 3]) (by simp [results, Tryz.results26, go_sem]) rfl ?_
    refine ⟨.slice none 0 0, by rw [HE.out]; rfl, by rw [HE.out]; exact TestsO.nil _ _, Below.refl _ _⟩
  have hsz6 : s.size ≤ 60000 := by omega
  have hPT : parseT s.data.toList = parseF s.size [] s.data.toList := by unfold parseT; rw [if_neg (by omega), hsz]
  obtain ⟨PT, hPTe⟩ : ∃ P, P = parseT s.data.toList := ⟨_, rfl⟩
  rw [← hPTe] at hPT ⊢
  have HX := hid hX
  have HPT := hid hPT
  clear hX hPT hPTe hsz hsm hs2
  go_enter Tryz.func26, Tryz.ntmps26
  go_wp2
  go_loopw [0, 2, 3] (fun s0 v i wr => ∃ (acc : List Tst) (B : ByteArray) (f : Nat), s0 = .string B ∧ i = .int .i64 acc.length ∧ acc.length ≤ 12 ∧ TestsO wr w.heap.size v acc ∧ B.size ≤ f ∧ B.size ≤ s.size ∧ Hid (PT = parseF f acc B.data.toList) ∧ Below w.heap.size w wr) (fun s0 _ _ _ => strV s0)
  case atStart => exact ⟨[], s, s.size, rfl, rfl, Nat.zero_le _, TestsO.nil _ _, Nat.le_refl _, Nat.le_refl _, hid HPT.out, Below.refl _ _⟩
  case round =>
    rename World => wo
    obtain ⟨acc, B, f, rfl, rfl, hk, hto, hBf, hBs, HPF, hb⟩ := hrel
    obtain ⟨va, vc, rfl⟩ := hto.slice
    obtain ⟨k, hke⟩ : ∃ k, k = acc.length := ⟨_, rfl⟩
    rw [← hke] at hk hto ⊢
    have HK := hid hke
    have HTO := hid hto
    have HB := hid hb
    clear hke hto hb
    by_cases hB0 : B.size = 0
    · have hBe := bytes_nil hB0
      subst hBe
      have HR := hid (show PT = (acc, 0, 0) from by rw [HPF.out]; exact parse_end f acc)
      clear hB0
      go_wp2
      refine bodyPost_ret (v := .tuple #[.slice va k vc, .int .i64 0, .int .i64 0]) (by simp [results, Tryz.results26, go_sem]) rfl ?_
      exact ⟨.slice va k vc, by rw [HR.out]; rfl, by rw [HR.out]; exact HTO.out, HB.out⟩
    · have hne : B.data.toList ≠ [] := by intro h; apply hB0; rw [Lib.size_eq, h]; rfl
      have hne1 : ¬ B.toList = [] := by rw [Lib.toList_data]; exact hne
      have hne2 : (B.toList == []) = false := by simpa using hne1
      have hne3 : (B.toList != []) = true := by simpa using hne1
      have hBz : B.data.toList.length = B.size := (Lib.size_eq B).symm
      have HC1 := hid (fun (W : World) (hb : Below wo.heap.size wo W) => cut_c W (HX.out.below (chain HB.out hb)) B ⟨#[10]⟩ (by omega))
      have e10 : (⟨#[10]⟩ : ByteArray).data.toList = [10] := rfl
      rw [e10] at HC1
      have hno := fun h => prog_no (k := k) (s := B.data.toList) h
      have hyes := fun h => prog_yes (k := k) (s := B.data.toList) h
      have hl1 := cut_rest_le B.data.toList [10]
      obtain ⟨c1, hc1⟩ : ∃ c, c = (Lib.cut B.data.toList [10]).1 := ⟨_, rfl⟩
      obtain ⟨c2, hc2⟩ : ∃ c, c = (Lib.cut B.data.toList [10]).2.1 := ⟨_, rfl⟩
      obtain ⟨c3, hc3⟩ : ∃ c, c = (Lib.cut B.data.toList [10]).2.2 := ⟨_, rfl⟩
      rw [← hc1, ← hc2, ← hc3] at HC1
      rw [← hc1] at hno
      rw [← hc1, ← hc2] at hyes
      rw [← hc1, ← hc2] at hl1
      obtain ⟨T1, hT1⟩ : ∃ T : ByteArray, T = ⟨c1.toArray⟩ := ⟨_, rfl⟩
      obtain ⟨T2, hT2⟩ : ∃ T : ByteArray, T = ⟨c2.toArray⟩ := ⟨_, rfl⟩
      have hT1d : T1.data.toList = c1 := by rw [hT1]
      have hT2d : T2.data.toList = c2 := by rw [hT2]
      have hT1z : T1.size ≤ 60000 := by rw [hT1, bytes_size]; omega
      have hT2z : T2.size = c2.length := by rw [hT2, bytes_size]
      rw [← hT1, ← hT2] at HC1
      have HSP := hid (fun (W : World) (hb : Below wo.heap.size wo W) => split_c W (HX.out.below (chain HB.out hb)) T1 (by omega))
      have hw1 := words_le c1
      have hc1z : c1.length ≤ 60000 := by rw [← hT1d]; exact Nat.le_trans (Nat.le_of_eq (Lib.size_eq T1).symm) hT1z
      have HWO1 := hid (fun x hx => word_le c1 x hx)
      rw [hT1d] at HSP
      obtain ⟨ws, hws⟩ : ∃ ws, ws = wordsF c1 := ⟨_, rfl⟩
      rw [← hws] at HSP hno hyes hw1 HWO1
      obtain ⟨ok0, hok0⟩ : ∃ b, b = decide (k < 12) := ⟨_, rfl⟩
      rw [← hok0] at hno hyes
      have hok1 : decide ((k : Int) < 12) = ok0 := by rw [hok0]; simp only [decide_eq_decide]; omega
      obtain ⟨P, hP⟩ : ∃ P, P = pfold ok0 ws := ⟨_, rfl⟩
      rw [← hP] at hno hyes
      have hPl := pfold_len ok0 ws
      have hPi := pfold_int ok0 ws
      rw [← hP] at hPl hPi
      have HNO := hid (fun h => show PT = ([], k, 2) from by
        have h1 : progStep acc.length B.data.toList = none := by rw [← HK.out]; exact hno h
        rw [HPF.out, parse_bad hne h1, ← HK.out])
      have HYES := hid (fun h => show PT = parseF (f - 1) (acc ++ [⟨P.sh, P.rd⟩]) c2 ∧ c2.length < B.size from by
        have h1 : progStep acc.length B.data.toList = some (⟨P.sh, P.rd⟩, c2) := by rw [← HK.out]; exact hyes h
        refine ⟨?_, by rw [← hBz]; exact step_less h1⟩
        rw [HPF.out, show f = (f - 1) + 1 by omega, parse_step hne h1]
        rfl)
      have HT2 := hid (And.intro hT2d hT2z)
      have HP := hid hP
      have HPL := hid (And.intro hPl hPi)
      have HCZ := hid hc1z
      have HWL := hid hw1
      have HOK := hid hok0
      clear hno hyes hl1 hc1 hc2 hc3 hT1 hT2 hT1d hT2d hT2z hne e10 hBz hT1z hP hPl hPi hc1z hw1 hws hok0
      go_wp2_with (go_at_call 50; refine (HC1.out _ (Below.refl _ _)).mono ?_; rintro e w2 ⟨rfl, hb2⟩; refine Stop.of ?_)
      refine Stop.go ?_
      obtain ⟨w3, hw3⟩ : ∃ W, W = w2.alloc (.cells #[.slice none 0 0, .slice none 0 0] 29) := ⟨_, rfl⟩
      have hb3 : Below wo.heap.size wo w3 := by rw [hw3]; exact hb2.alloc hb2.size _
      have hx3 : Box2 w3 w2.heap.size (.slice none 0 0) (.slice none 0 0) := by rw [hw3]; exact heap_alloc_new w2 _
      have hs3 := hx3.lt
      have hs2 := hb2.size
      obtain ⟨xb, hxb⟩ : ∃ n, n = w2.heap.size := ⟨_, rfl⟩
      have HW3 := hid hw3
      have HXB := hid hxb
      rw [← hxb] at hx3 hs3 hs2
      have HSP3 := hid (HSP.out _ hb3)
      have HX3 := hid hx3
      have HB3 := hid hb3
      clear hw3 hxb hx3 hb3 hb2
      go_wp2_with fail
      rw [← HW3.out, ← HXB.out]
      go_wp2_with (go_at_call 51; refine HSP3.out.mono ?_; rintro e w4 ⟨L, hL, rfl, hw4⟩; refine Stop.of ?_)
      refine Stop.go ?_
-- INNER
      try rw [← hw4]
      have hlt3 : w3.heap.size < w4.heap.size := by rw [hw4]; simp
      have hcell : ∀ (j : Nat) (x : ByteArray), L[j]? = some x → w4.cell? ⟨w3.heap.size, j, none⟩ = some (.string x) := fun j x h => by rw [hw4]; exact strs_alloc w3 L 9 j x h
      have hb34 : Below w3.heap.size w3 w4 := by rw [hw4]; exact (Below.refl _ _).alloc (Nat.le_refl _) _
      have hx4 : Box2 w4 xb (.slice none 0 0) (.slice none 0 0) := HX3.out.keep (hb34.block xb hs3)
      have hI0 : InW wo w4 xb ⟨[], [], false, ok0⟩ w4 := InW.start hs2 (by omega) (chain HB3.out hb34) hx4 ok0
      have hsne : w3.heap.size ≠ xb := by omega
      obtain ⟨sb, hsb⟩ : ∃ n, n = w3.heap.size := ⟨_, rfl⟩
      rw [← hsb] at hcell hsne hlt3 ⊢
      have hLl : L.length = ws.length := by rw [← hL, List.length_map]
      obtain ⟨N, hN⟩ : ∃ N, N = L.length := ⟨_, rfl⟩
      have hLN : N ≤ 60001 := by have := HWL.out; have := HCZ.out; omega
      rw [← hN]
      have HN := hid hN
      have HLL := hid hLl
      have HL := hid hL
      have HC := hid hcell
      have HI0 := hid hI0
      have HSB := hid (And.intro hsne hlt3)
      clear hw4 hcell hb34 hx4 hI0 hsne hlt3 hLl hN hL hsb hs3 hs2
      go_wp2
      go_loopw [9, 10, 33] (fun l b i wr => ∃ (j : Nat) (Pj : PSt), j ≤ N ∧ i = .int .i64 j ∧ l = .pointer (some ⟨xb, offB Pj.sw, none⟩) ∧ b = .bool Pj.ok ∧ Hid (Pj = pfold ok0 (ws.take j)) ∧ Hid (InW wo w4 xb Pj wr)) (fun _ _ i _ => N - (intOf i).toNat)
      case atStart =>
        refine ⟨0, ⟨[], [], false, ok0⟩, Nat.zero_le _, rfl, rfl, ?_, hid rfl, hid HI0.out⟩
        simp [hok1]
      case round =>
        obtain ⟨j, Pj, hj, rfl, rfl, rfl, hPj, hI⟩ := hrel
        have hI := hI.out
        have hIb : Below wo.heap.size wo wr := hI.2.2.1
        obtain ⟨okj, hokj⟩ : ∃ b, b = Pj.ok := ⟨_, rfl⟩
        obtain ⟨o, ho⟩ : ∃ n, n = offB Pj.sw := ⟨_, rfl⟩
        rw [← hokj, ← ho]
        have hpj := pfold_len ok0 (ws.take j)
        have hprd := pfold_rd ok0 (ws.take j)
        rw [← hPj.out] at hpj hprd
        by_cases hlt : j < N
        · have hjL : j < L.length := by rw [← HN.out]; exact hlt
          have hjw : j < ws.length := by rw [← HLL.out]; exact hjL
          have hc : wr.cell? ⟨sb, j, none⟩ = some (.string L[j]) := hI.2.2.2.1.cell (HC.out j L[j] (List.getElem?_eq_getElem hjL)) HSB.out.1
          have hwk : ws[j] = L[j].data.toList := by
            have h := congrArg (fun l => l[j]?) HL.out
            simp only [List.getElem?_map, List.getElem?_eq_getElem hjL, List.getElem?_eq_getElem hjw, Option.map_some] at h
            exact (Option.some.inj h).symm
          have hwl := HWO1.out ws[j] (List.getElem_mem hjw)
          have htk : pfold ok0 (ws.take (j + 1)) = pstep Pj ws[j] := by rw [List.take_succ_eq_append_getElem hjw, pfold_snoc, ← hPj.out]
          have hpjl : Pj.sh.length + Pj.rd.length ≤ j := by rw [List.length_take] at hpj; omega
          obtain ⟨D, hD⟩ : ∃ D, D = L[j] := ⟨_, rfl⟩
          rw [← hD] at hc hwk
          rw [hwk] at hwl htk
          have hDz : D.size ≤ 60000 := by have := Lib.size_eq D; have := HCZ.out; omega
          have HO := hid ho.symm
          have HOKJ := hid hokj.symm
          have HPJ := hid hpjl
          clear hD hjL hpj hpjl hwl ho hokj hPj hwk
          have htl : D.toList = D.data.toList := Lib.toList_data D
          by_cases e58 : D.data.toList = [58]
          · rw [e58] at htl
            have hd1 : (D.toList == [58]) = true := by rw [htl]; rfl
            cases hsw : Pj.sw with
            | false =>
              have h0 : o = 0 := by rw [← HO.out, hsw]; rfl
              subst h0
              rw [e58, pstep_sw hsw] at htk
              have HTK := hid htk.symm
              have hps := ptr_same wr ⟨xb, 0, none⟩
              have HI2 := hid (hI.switch hsw (hprd hsw))
              clear hsw hprd htk hI hIb e58 hDz
              go_wp2
              refine ⟨⟨j + 1, _, by omega, by go_num, rfl, ?_, hid HTK.out, hid HI2.out⟩, by simp [intOf]; omega⟩
              rw [HOKJ.out]
            | true =>
              have h0 : o = 1 := by rw [← HO.out, hsw]; rfl
              subst h0
              obtain ⟨bx, by', hbx⟩ := hI.box
              have hpo := ptr_other hbx
              have hnum : pnum Pj (atV D.data.toList) (Pj.ok && inR (atV D.data.toList)) = pfold ok0 (ws.take (j + 1)) := by rw [htk, pstep_num (by rw [hsw]; simp)]
              clear hsw hprd htk e58 hbx
              have HA := hid (atoi_c wr (HX.out.below (chain HB.out hIb)) D (by omega))
              obtain ⟨X, hXe⟩ : ∃ X, X = atV D.data.toList := ⟨_, rfl⟩
              rw [← hXe] at HA hnum
              have HNUM := hid hnum
              have HWI := hid (fun (W : World) => show Calls Tryz.prog 53 #[.int .i64 X, .int .i64 (-1000000000), .int .i64 1000000000] W fun e w' => e = .returned (.bool (inR X)) ∧ W = w' from fwithin_c X (-1000000000) 1000000000 W)
              have HI := hid hI
              have HIB := hid hIb
              clear hXe hnum hI hIb hDz
              go_wp2_with (go_at_call 52; refine HA.out.mono ?_; rintro e w5 ⟨ev, rfl, hb5⟩; refine Stop.of ?_)
              refine Stop.go ?_
              obtain ⟨a, c, base, g1, g2, g3, g4, g5⟩ := (HI.out.below hb5).cur
              rw [HO.out] at g1
              have HG := hid (And.intro g2 (And.intro g3 (And.intro g4 g5)))
              have HCL := hid (cur_len Pj)
              obtain ⟨n, hn⟩ : ∃ n, n = (curL Pj).length := ⟨_, rfl⟩
              have hnj : n ≤ j := by rw [hn]; have := HPJ.out; have := HCL.out; omega
              rw [← hn] at g1 HG
              have hz5 := hb5.size
              have HN5 := hid (one_news w5 (.int .i64 X) 3)
              have M1 := hid (show n + 1 ≤ maxLen by unfold maxLen; omega)
              have M2 := hid (show (n + 1) * 8 ≤ 140737488355328 by omega)
              have M3 := hid (Nat.le_trans HG.out.2.1 (le_alloc w5 (.cells #[.int .i64 X] 3)))
              have HB5 := hid hb5
              clear g2 g3 g4 g5 hn hnj hz5 hb5
              cases okj
              all_goals
                go_wp2_with (first | (go_at_call 53; refine (HWI.out _).mono ?_; rintro e w6 ⟨rfl, rfl⟩) | (at_builtin; refine wpList_app _ rfl (.tmp 58) (.tmp 60) 27 rfl base 3 (.int .i64 0) 1 8 Tryz.underlying27 info_int rfl Nat.one_pos (.slice a n c) n _ rfl (HG.out.2.2.1.alloc _) (some ⟨w5.heap.size, 0, none⟩) 1 1 [.int .i64 X] rfl rfl no_none HN5.out (one_int _) M1.out M2.out M3.out ?_; refine Stop.of ?_))
                refine Stop.go ?_
                intro a7 c7 w7 own7 g7
                obtain ⟨⟨u7, hu7⟩, hf7, hI7⟩ := HG.out.2.2.2 X (Pj.ok && inR X) a7 c7 (w5.alloc (.cells #[.int .i64 X] 3)) w7 ((Below.refl _ _).alloc (Nat.le_refl _) _) g7 own7
                rw [HO.out] at hu7 hf7 hI7
                rw [HOKJ.out] at hI7
                have HI7 := hid hI7
                rw [HOKJ.out] at HNUM
                clear own7 g7 hI7
                go_wp2
                refine ⟨⟨j + 1, _, by omega, by go_num, ?_, ?_, hid HNUM.out, hid HI7.out⟩, by simp [intOf]; omega⟩
                · rw [pnum_sw, HO.out]
                · rw [pnum_ok]; simp
          · have hd0 : ¬ D.toList = [58] := by rw [htl]; exact e58
            have hd1 : (D.toList == [58]) = false := by simpa using hd0
            have hnum : pnum Pj (atV D.data.toList) (Pj.ok && inR (atV D.data.toList)) = pfold ok0 (ws.take (j + 1)) := by rw [htk, pstep_num (fun h => e58 h.1)]
            clear hprd htk e58 htl
            have HA := hid (atoi_c wr (HX.out.below (chain HB.out hIb)) D (by omega))
            obtain ⟨X, hXe⟩ : ∃ X, X = atV D.data.toList := ⟨_, rfl⟩
            rw [← hXe] at HA hnum
            have HNUM := hid hnum
            have HWI := hid (fun (W : World) => show Calls Tryz.prog 53 #[.int .i64 X, .int .i64 (-1000000000), .int .i64 1000000000] W fun e w' => e = .returned (.bool (inR X)) ∧ W = w' from fwithin_c X (-1000000000) 1000000000 W)
            have HI := hid hI
            have HIB := hid hIb
            clear hXe hnum hI hIb hDz
            go_wp2_with (go_at_call 52; refine HA.out.mono ?_; rintro e w5 ⟨ev, rfl, hb5⟩; refine Stop.of ?_)
            refine Stop.go ?_
            obtain ⟨a, c, base, g1, g2, g3, g4, g5⟩ := (HI.out.below hb5).cur
            rw [HO.out] at g1
            have HG := hid (And.intro g2 (And.intro g3 (And.intro g4 g5)))
            have HCL := hid (cur_len Pj)
            obtain ⟨n, hn⟩ : ∃ n, n = (curL Pj).length := ⟨_, rfl⟩
            have hnj : n ≤ j := by rw [hn]; have := HPJ.out; have := HCL.out; omega
            rw [← hn] at g1 HG
            have hz5 := hb5.size
            have HN5 := hid (one_news w5 (.int .i64 X) 3)
            have M1 := hid (show n + 1 ≤ maxLen by unfold maxLen; omega)
            have M2 := hid (show (n + 1) * 8 ≤ 140737488355328 by omega)
            have M3 := hid (Nat.le_trans HG.out.2.1 (le_alloc w5 (.cells #[.int .i64 X] 3)))
            have HB5 := hid hb5
            clear g2 g3 g4 g5 hn hnj hz5 hb5
            cases okj
            all_goals
              go_wp2_with (first | (go_at_call 53; refine (HWI.out _).mono ?_; rintro e w6 ⟨rfl, rfl⟩) | (at_builtin; refine wpList_app _ rfl (.tmp 58) (.tmp 60) 27 rfl base 3 (.int .i64 0) 1 8 Tryz.underlying27 info_int rfl Nat.one_pos (.slice a n c) n _ rfl (HG.out.2.2.1.alloc _) (some ⟨w5.heap.size, 0, none⟩) 1 1 [.int .i64 X] rfl rfl no_none HN5.out (one_int _) M1.out M2.out M3.out ?_; refine Stop.of ?_))
              refine Stop.go ?_
              intro a7 c7 w7 own7 g7
              obtain ⟨⟨u7, hu7⟩, hf7, hI7⟩ := HG.out.2.2.2 X (Pj.ok && inR X) a7 c7 (w5.alloc (.cells #[.int .i64 X] 3)) w7 ((Below.refl _ _).alloc (Nat.le_refl _) _) g7 own7
              rw [HO.out] at hu7 hf7 hI7
              rw [HOKJ.out] at hI7
              have HI7 := hid hI7
              rw [HOKJ.out] at HNUM
              clear own7 g7 hI7
              go_wp2
              refine ⟨⟨j + 1, _, by omega, by go_num, ?_, ?_, hid HNUM.out, hid HI7.out⟩, by simp [intOf]; omega⟩
              · rw [pnum_sw, HO.out]
              · rw [pnum_ok]; simp
        · obtain rfl : j = N := by omega
          have hall : ws.take j = ws := List.take_of_length_le (by rw [← HLL.out, HN.out]; exact Nat.le_refl _)
          have hPP : Pj = P := by rw [hPj.out, hall, HP.out]
          subst hPP
          have hl1 := HPL.out.1
          have hl2 := HLL.out
          have hl3 := HN.out
          obtain ⟨sa, sc, ra, rc, g0, g1, e1, e2, _⟩ := InW.done (base := w.heap.size) hI (by unfold maxLen; omega) (by unfold maxLen; omega)
          have HE := hid (And.intro e1 e2)
          obtain ⟨_, _, i1⟩ := e1.ints
          obtain ⟨_, _, i2⟩ := e2.ints
          have HWR := hid (fun (W : World) (hb : Below wr.heap.size wr W) => written_c W ((HX.out.below (chain HB.out (chain hIb hb))).1) sa ra Pj.sh.length sc Pj.rd.length rc ⟨Pj.sh, Pj.rd⟩ rfl (by omega) (i1.below hb) rfl (by omega) (i2.below hb) HPL.out.2.1 HPL.out.2.2)
          obtain ⟨Z, hZ⟩ : ∃ Z : ByteArray, Z = ⟨(wrT ⟨Pj.sh, Pj.rd⟩).toArray⟩ := ⟨_, rfl⟩
          have hZd : Z.data.toList = wrT ⟨Pj.sh, Pj.rd⟩ := by rw [hZ]
          rw [← hZ] at HWR
          rw [← hZd] at HNO HYES
          have HHP := hid (fun (W : World) => show Calls Tryz.prog 54 #[.string B, .string Z] W fun e w' => e = .returned (.bool (Lib.hasPrefix B.data.toList Z.data.toList)) ∧ W = w' from (Tryz.strings_HasPrefix B Z W).mono fun _ _ h => ⟨h.1, h.2.symm⟩)
          obtain ⟨hp, hhp⟩ : ∃ b, b = Lib.hasPrefix B.data.toList Z.data.toList := ⟨_, rfl⟩
          rw [← hhp] at HNO HYES HHP
          obtain ⟨sn, hsn⟩ : ∃ n, n = Pj.sh.length := ⟨_, rfl⟩
          obtain ⟨rn, hrn⟩ : ∃ n, n = Pj.rd.length := ⟨_, rfl⟩
          rw [← hsn] at g0
          rw [← hrn] at g1
          rw [← hsn, ← hrn] at HWR HE hl1
          rw [← hokj] at HNO HYES
          have HSN := hid (And.intro hsn hrn)
          have HBI := hid (chain HB.out hIb)
          have HOKP := hid hokj.symm
          clear hall hPj hI hl2 hl3 e1 e2 i1 i2 hZ hZd hhp hsn hrn hokj ho
          have HERR := hid (fun h => show ∀ W, Below wr.heap.size wr W → ∃ v, Ending.returned (.tuple #[.slice none 0 0, .int .i64 (k : Int), .int .i64 2]) = .returned (.tuple #[v, .int .i64 (PT.2.1 : Nat), .int .i64 PT.2.2]) ∧ TestsO W w.heap.size v PT.1 ∧ Below w.heap.size w W from fun W hW => ⟨.slice none 0 0, by rw [HNO.out h], by rw [HNO.out h]; exact TestsO.nil _ _, chain HBI.out hW⟩)
          cases okj with
          | false =>
            have HR := hid (HERR.out (by simp))
            go_wp2
            refine bodyPost_ret (v := .tuple #[.slice none 0 0, .int .i64 (k : Int), .int .i64 2]) (by simp [results, Tryz.results26, go_sem]) rfl ?_
            exact HR.out _ (Below.refl _ _)
          | true =>
            by_cases hs0 : sn = 0
            · have HR := hid (HERR.out (by intro h; exact h.2.1 (List.eq_nil_of_length_eq_zero (by rw [← HSN.out.1]; exact hs0))))
              subst hs0
              go_wp2
              refine bodyPost_ret (v := .tuple #[.slice none 0 0, .int .i64 (k : Int), .int .i64 2]) (by simp [results, Tryz.results26, go_sem]) rfl ?_
              exact HR.out _ (Below.refl _ _)
            · have hne0 : ((sn : Int) == 0) = false := by simp; omega
              by_cases hr0 : rn = 0
              · have HR := hid (HERR.out (by intro h; exact h.2.2.1 (List.eq_nil_of_length_eq_zero (by rw [← HSN.out.2]; exact hr0))))
                subst hr0
                go_wp2
                refine bodyPost_ret (v := .tuple #[.slice none 0 0, .int .i64 (k : Int), .int .i64 2]) (by simp [results, Tryz.results26, go_sem]) rfl ?_
                exact HR.out _ (Below.refl _ _)
              · have hne1' : ((rn : Int) == 0) = false := by simp; omega
                have HNH := hid hne0
                go_wp2_with (go_at_call 55; refine (HWR.out _ (Below.refl _ _)).mono ?_; rintro e w5 ⟨rfl, hb5⟩; refine Stop.of ?_)
                refine Stop.go ?_
                have HB5 := hid (chain HBI.out hb5)
                have HBB := hid hb5
                cases hp with
                | false =>
                  have HR := hid (HERR.out (by intro h; exact absurd h.2.2.2 (by simp)))
                  clear hb5
                  go_wp2_with (go_at_call 54; refine (HHP.out _).mono ?_; rintro e w6 ⟨rfl, rfl⟩)
                  refine bodyPost_ret (v := .tuple #[.slice none 0 0, .int .i64 (k : Int), .int .i64 2]) (by simp [results, Tryz.results26, go_sem]) rfl ?_
                  exact HR.out _ HBB.out
                | true =>
                  have hy := HYES.out ⟨trivial, fun h => hs0 (by rw [HSN.out.1, h]; rfl), fun h => hr0 (by rw [HSN.out.2, h]; rfl), rfl⟩
                  have hpn : Pj.ok = true := HOKP.out
                  have hk12 : k < 12 := by
                    have h1 := (pfold_ok ok0 ws (by rw [← HP.out]; exact hpn)).1
                    rw [HOK.out] at h1
                    simpa using h1
                  have HY1 := hid hy.1
                  have HT3 := hid (show T2.size < B.size by rw [HT2.out.2]; exact hy.2)
                  have k0 := (hb5.cell (cell_inT g0)).trans g0
                  have k1 := (hb5.cell (cell_inT g1)).trans g1
                  have hK5 : Keep (fun _ => True) wr w5 := Keep.of_below hb5
                  have h1 := HE.out.1.keep hK5 (fun _ _ _ _ => trivial)
                  have h2 := HE.out.2.keep hK5 (fun _ _ _ _ => trivial)
                  obtain ⟨xs, ho, he⟩ := (HTO.out.below (chain hIb hb5))
                  rw [← HK.out] at ho
                  have HH := hid (And.intro he (And.intro h1 h2))
                  have HO := hid ho
                  have HN5 := hid (news2 w5 (.slice sa sn sc) (.slice ra rn rc) 29)
                  have HO2 := hid (show ∀ u ∈ [Value.slice sa sn sc, .slice ra rn rc], u.oneCell' = true from by intro u hu; simp at hu; rcases hu with rfl | rfl <;> rfl)
                  have M1 := hid (show k + 1 ≤ maxLen by unfold maxLen; omega)
                  have M2 := hid (show (k + 1) * 48 ≤ 140737488355328 by omega)
                  have M3 := hid (Nat.le_trans HB5.out.size (le_alloc w5 (.cells #[.slice sa sn sc, .slice ra rn rc] 29)))
                  have HLA := hid (HB5.out.alloc HB5.out.size (.cells #[.slice sa sn sc, .slice ra rn rc] 29))
                  clear hy he h1 h2 ho hb5 g0 g1 hK5 hpn hIb hs0 hr0 hne0 hne1'
                  go_wp2_with (first | (go_at_call 54; refine (HHP.out _).mono ?_; rintro e w6 ⟨rfl, rfl⟩) | (at_builtin; refine wpList_app _ rfl (.tmp 86) (.tmp 88) 26 rfl w.heap.size 29 (.agg #[.slice none 0 0, .slice none 0 0]) 2 48 Tryz.underlying26 info_test rfl (by decide) (.slice va k vc) k xs rfl (HO.out.alloc _) (some ⟨w5.heap.size, 0, none⟩) 1 1 [.slice sa sn sc, .slice ra rn rc] rfl rfl no_none HN5.out HO2.out M1.out M2.out M3.out ?_; refine Stop.of ?_))
                  refine Stop.go ?_
                  intro a8 c8 w8 own8 g8
                  have hT8 : TestsO w8 w.heap.size (.slice a8 (k + 1) c8) (acc ++ [⟨Pj.sh, Pj.rd⟩]) := TestsO.snoc (us := .slice sa sn sc) (ur := .slice ra rn rc) (W := w5) (w1 := w5.alloc (.cells #[.slice sa sn sc, .slice ra rn rc] 29)) (v := .slice va k vc) (by rw [← HK.out]; exact HO.out) HH.out.1 HH.out.2.1 HH.out.2.2 ((Below.refl _ w5).alloc (Nat.le_refl _) _) g8 (by rw [← HK.out]; exact own8)
                  have hb8 : Below w.heap.size w w8 := HLA.out.grown g8 M3.out (fun q hq => (HO.out.lt q hq).1)
                  have HT8 := hid hT8
                  have HB8 := hid hb8
                  clear own8 g8 hT8 hb8
                  go_wp2
                  refine ⟨⟨acc ++ [⟨Pj.sh, Pj.rd⟩], T2, f - 1, rfl, ?_, ?_, HT8.out, ?_, ?_, hid ?_, HB8.out⟩, ?_⟩
                  · rw [List.length_append, ← HK.out]; rfl
                  · rw [List.length_append, ← HK.out]; simp; omega
                  · have := HT3.out; omega
                  · have := HT3.out; omega
                  · rw [HT2.out.1]; exact HY1.out
                  · exact HT3.out
end Go.Proofs.YthaampmdponhbaaGreatDoor

namespace Go.Proofs.YthaampmdponhbaaGreatDoor
open Go.RowKit Go.Maps
set_option linter.unusedVariables false

set_option maxRecDepth 100000 in
set_option maxHeartbeats 4000000 in
theorem sameTests_t (w : World) (a a2 : Option Addr) (n c c2 : Nat) (T : List Tst) (hn : T.length = n) (hm : n ≤ maxLen) (H : TestsAt w a T) (H2 : TestsAt w a2 T) :
    Calls Tryz.prog 23 #[.slice a n c, .slice a2 n c2] w fun e w' => e = .returned (.bool true) ∧ Below w.heap.size w w' := by
  have HN := hid hn
  have HH := hid H
  have HH2 := hid H2
  unfold maxLen at hm
  have hnn : ((n : Int) != (n : Int)) = false := by simp
  clear hn H H2
  go_enter Tryz.func23, Tryz.ntmps23
  go_wp2
  go_loopw [13] (fun i wr => ∃ k : Nat, k ≤ n ∧ i = .int .i64 k ∧ Below w.heap.size w wr) (fun i _ => n - (intOf i).toNat)
  case atStart => exact ⟨0, Nat.zero_le _, rfl, Below.refl _ _⟩
  case round =>
    obtain ⟨k, hk, rfl, hb⟩ := hrel
    by_cases hlt : k < n
    · have hkl : k < T.length := by rw [HN.out]; exact hlt
      obtain ⟨b, off, sa, sn, sc, ra, rn, rc, rfl, hbs, h0, h1, hsn, hsm, hsi, hrn, hrm, hri⟩ := (HH.out.below hb) k hkl
      obtain ⟨b', off', sa', sn', sc', ra', rn', rc', rfl, hbs', h0', h1', hsn', hsm', hsi', hrn', hrm', hri'⟩ := (HH2.out.below hb) k hkl
      obtain rfl : sn' = sn := by omega
      obtain rfl : rn' = rn := by omega
      have HS1 := hid (fun (W : World) (hb : Below wr.heap.size wr W) => sameInts_d W sa sa' sn' sn' sc sc' _ _ true hsn hsn' hsm hsm (hsi.below hb) (hsi'.below hb) (by simp))
      have HS2 := hid (fun (W : World) (hb : Below wr.heap.size wr W) => sameInts_d W ra ra' rn' rn' rc rc' _ _ true hrn hrn' hrm hrm (hri.below hb) (hri'.below hb) (by simp))
      have HC := hid (fun (W : World) (hb : Below wr.heap.size wr W) => show (W.cell? ⟨b, off + k * 2, none⟩ = some (.slice sa sn' sc) ∧ W.cell? ⟨b, off + k * 2 + 1, none⟩ = some (.slice ra rn' rc)) ∧ W.cell? ⟨b', off' + k * 2, none⟩ = some (.slice sa' sn' sc') ∧ W.cell? ⟨b', off' + k * 2 + 1, none⟩ = some (.slice ra' rn' rc') from
        ⟨⟨(hb.cell (p := ⟨b, _, none⟩) hbs).trans h0, (hb.cell (p := ⟨b, _, none⟩) hbs).trans h1⟩, (hb.cell (p := ⟨b', _, none⟩) hbs').trans h0', (hb.cell (p := ⟨b', _, none⟩) hbs').trans h1'⟩)
      have HB := hid hb
      clear hb hsn hsm hsi hrn hrm hri hsn' hsm' hsi' hrn' hrm' hri' h0 h1 h0' h1' hkl
      go_wp2
      refine plain_region (fun j W => wAll j = true → ((W.cell? ⟨b, off + k * 2, none⟩ = some (.slice sa sn' sc) ∧ W.cell? ⟨b, off + k * 2 + 1, none⟩ = some (.slice ra rn' rc)) ∧ W.cell? ⟨b', off' + k * 2, none⟩ = some (.slice sa' sn' sc') ∧ W.cell? ⟨b', off' + k * 2 + 1, none⟩ = some (.slice ra' rn' rc'))) (by kernel_rfl) ?_
      have hbd : Below wr.heap.size wr wr.drew := (Below.refl _ _).drew
      generalize wr.drew = wd at hbd ⊢
      refine AnyT.takeD (i := 0) (v := .slice (some ⟨b, off, none⟩) n c) rfl rfl (by kernel_rfl) (by kernel_rfl) (by kernel_rfl) (by first | exact (fun _ _ _ h => h) | exact (fun _ _ _ h => absurd h.1 (by simp))) (by kernel_rfl) (by rfl) (by rintro w' hw'; go_simp) (HC.out _ hbd) ?_; go_frame
      refine AnyT.takeD (i := 1) (v := .int .i64 k) rfl rfl (by kernel_rfl) (by kernel_rfl) (by kernel_rfl) (by first | exact (fun _ _ _ h => h) | exact (fun _ _ _ h => absurd h.1 (by simp))) (by kernel_rfl) (by rfl) (by rintro w' hw'; go_simp) (HC.out _ hbd) ?_; go_frame
      refine AnyT.takeD (i := 2) (v := .pointer (some ⟨b, off + k * 2, none⟩)) rfl rfl (by kernel_rfl) (by kernel_rfl) (by kernel_rfl) (by first | exact (fun _ _ _ h => h) | exact (fun _ _ _ h => absurd h.1 (by simp))) (by kernel_rfl) (by rfl) (by rintro w' hw'; go_simp) (HC.out _ hbd) ?_; go_frame
      refine AnyT.takeD (i := 3) (v := .pointer (some ⟨b, off + k * 2, none⟩)) rfl rfl (by kernel_rfl) (by kernel_rfl) (by kernel_rfl) (by first | exact (fun _ _ _ h => h) | exact (fun _ _ _ h => absurd h.1 (by simp))) (by kernel_rfl) (by rfl) (by rintro w' hw'; go_simp) (HC.out _ hbd) ?_; go_frame
      refine AnyT.takeD (i := 4) (v := .slice sa sn' sc) rfl rfl (by kernel_rfl) (by kernel_rfl) (by kernel_rfl) (by first | exact (fun _ _ _ h => h) | exact (fun _ _ _ h => absurd h.1 (by simp))) (by kernel_rfl) (by rfl) (by rintro w' ⟨⟨q0, q1⟩, q2, q3⟩; go_simp) (HC.out _ hbd) ?_; go_frame
      refine AnyT.takeD (i := 5) (v := .slice (some ⟨b', off', none⟩) n c2) rfl rfl (by kernel_rfl) (by kernel_rfl) (by kernel_rfl) (by first | exact (fun _ _ _ h => h) | exact (fun _ _ _ h => absurd h.1 (by simp))) (by kernel_rfl) (by rfl) (by rintro w' hw'; go_simp) (HC.out _ hbd) ?_; go_frame
      refine AnyT.takeD (i := 6) (v := .int .i64 k) rfl rfl (by kernel_rfl) (by kernel_rfl) (by kernel_rfl) (by first | exact (fun _ _ _ h => h) | exact (fun _ _ _ h => absurd h.1 (by simp))) (by kernel_rfl) (by rfl) (by rintro w' hw'; go_simp) (HC.out _ hbd) ?_; go_frame
      refine AnyT.takeD (i := 7) (v := .pointer (some ⟨b', off' + k * 2, none⟩)) rfl rfl (by kernel_rfl) (by kernel_rfl) (by kernel_rfl) (by first | exact (fun _ _ _ h => h) | exact (fun _ _ _ h => absurd h.1 (by simp))) (by kernel_rfl) (by rfl) (by rintro w' hw'; go_simp) (HC.out _ hbd) ?_; go_frame
      refine AnyT.takeD (i := 8) (v := .pointer (some ⟨b', off' + k * 2, none⟩)) rfl rfl (by kernel_rfl) (by kernel_rfl) (by kernel_rfl) (by first | exact (fun _ _ _ h => h) | exact (fun _ _ _ h => absurd h.1 (by simp))) (by kernel_rfl) (by rfl) (by rintro w' hw'; go_simp) (HC.out _ hbd) ?_; go_frame
      refine AnyT.takeD (i := 9) (v := .slice sa' sn' sc') rfl rfl (by kernel_rfl) (by kernel_rfl) (by kernel_rfl) (by first | exact (fun _ _ _ h => h) | exact (fun _ _ _ h => absurd h.1 (by simp))) (by kernel_rfl) (by rfl) (by rintro w' ⟨⟨q0, q1⟩, q2, q3⟩; go_simp) (HC.out _ hbd) ?_; go_frame
      refine AnyT.next (i := 10) (by kernel_rfl) rfl (wpOp_of_list rfl ?_)
      go_wp2_with (go_at_call 46; refine (HS1.out _ hbd).mono ?_; rintro e w4 ⟨rfl, hbl4⟩; refine Stop.of ?_)
      refine Stop.go ?_
      have hw4 := chain hbd hbl4
      go_wp2
      refine ⟨fun _ => HC.out _ hw4, ?_⟩
      refine AnyT.takeD (i := 11) (v := .bool false) rfl rfl (by kernel_rfl) (by kernel_rfl) (by kernel_rfl) (by first | exact (fun _ _ _ h => h) | exact (fun _ _ _ h => absurd h.1 (by simp))) (by kernel_rfl) (by rfl) (by rintro w' hw'; go_simp) (HC.out _ hw4) ?_; go_frame
      refine AnyT.takeD (i := 12) (v := .bool false) rfl rfl (by kernel_rfl) (by kernel_rfl) (by kernel_rfl) (by first | exact (fun _ _ _ h => h) | exact (fun _ _ _ h => absurd h.1 (by simp))) (by kernel_rfl) (by rfl) (by rintro w' hw'; go_simp) (HC.out _ hw4) ?_; go_frame
      refine AnyT.takeD (i := 13) (v := .slice (some ⟨b, off, none⟩) n c) rfl rfl (by kernel_rfl) (by kernel_rfl) (by kernel_rfl) (by first | exact (fun _ _ _ h => h) | exact (fun _ _ _ h => absurd h.1 (by simp))) (by kernel_rfl) (by rfl) (by rintro w' hw'; go_simp) (HC.out _ hw4) ?_; go_frame
      refine AnyT.takeD (i := 14) (v := .int .i64 k) rfl rfl (by kernel_rfl) (by kernel_rfl) (by kernel_rfl) (by first | exact (fun _ _ _ h => h) | exact (fun _ _ _ h => absurd h.1 (by simp))) (by kernel_rfl) (by rfl) (by rintro w' hw'; go_simp) (HC.out _ hw4) ?_; go_frame
      refine AnyT.takeD (i := 15) (v := .pointer (some ⟨b, off + k * 2, none⟩)) rfl rfl (by kernel_rfl) (by kernel_rfl) (by kernel_rfl) (by first | exact (fun _ _ _ h => h) | exact (fun _ _ _ h => absurd h.1 (by simp))) (by kernel_rfl) (by rfl) (by rintro w' hw'; go_simp) (HC.out _ hw4) ?_; go_frame
      refine AnyT.takeD (i := 16) (v := .pointer (some ⟨b, off + k * 2 + 1, none⟩)) rfl rfl (by kernel_rfl) (by kernel_rfl) (by kernel_rfl) (by first | exact (fun _ _ _ h => h) | exact (fun _ _ _ h => absurd h.1 (by simp))) (by kernel_rfl) (by rfl) (by rintro w' hw'; go_simp) (HC.out _ hw4) ?_; go_frame
      refine AnyT.takeD (i := 17) (v := .slice ra rn' rc) rfl rfl (by kernel_rfl) (by kernel_rfl) (by kernel_rfl) (by first | exact (fun _ _ _ h => h) | exact (fun _ _ _ h => absurd h.1 (by simp))) (by kernel_rfl) (by rfl) (by rintro w' ⟨⟨q0, q1⟩, q2, q3⟩; go_simp) (HC.out _ hw4) ?_; go_frame
      refine AnyT.takeD (i := 18) (v := .slice (some ⟨b', off', none⟩) n c2) rfl rfl (by kernel_rfl) (by kernel_rfl) (by kernel_rfl) (by first | exact (fun _ _ _ h => h) | exact (fun _ _ _ h => absurd h.1 (by simp))) (by kernel_rfl) (by rfl) (by rintro w' hw'; go_simp) (HC.out _ hw4) ?_; go_frame
      refine AnyT.takeD (i := 19) (v := .int .i64 k) rfl rfl (by kernel_rfl) (by kernel_rfl) (by kernel_rfl) (by first | exact (fun _ _ _ h => h) | exact (fun _ _ _ h => absurd h.1 (by simp))) (by kernel_rfl) (by rfl) (by rintro w' hw'; go_simp) (HC.out _ hw4) ?_; go_frame
      refine AnyT.takeD (i := 20) (v := .pointer (some ⟨b', off' + k * 2, none⟩)) rfl rfl (by kernel_rfl) (by kernel_rfl) (by kernel_rfl) (by first | exact (fun _ _ _ h => h) | exact (fun _ _ _ h => absurd h.1 (by simp))) (by kernel_rfl) (by rfl) (by rintro w' hw'; go_simp) (HC.out _ hw4) ?_; go_frame
      refine AnyT.takeD (i := 21) (v := .pointer (some ⟨b', off' + k * 2 + 1, none⟩)) rfl rfl (by kernel_rfl) (by kernel_rfl) (by kernel_rfl) (by first | exact (fun _ _ _ h => h) | exact (fun _ _ _ h => absurd h.1 (by simp))) (by kernel_rfl) (by rfl) (by rintro w' hw'; go_simp) (HC.out _ hw4) ?_; go_frame
      refine AnyT.takeD (i := 22) (v := .slice ra' rn' rc') rfl rfl (by kernel_rfl) (by kernel_rfl) (by kernel_rfl) (by first | exact (fun _ _ _ h => h) | exact (fun _ _ _ h => absurd h.1 (by simp))) (by kernel_rfl) (by rfl) (by rintro w' ⟨⟨q0, q1⟩, q2, q3⟩; go_simp) (HC.out _ hw4) ?_; go_frame
      refine AnyT.next (i := 23) (by kernel_rfl) rfl (wpOp_of_list rfl ?_)
      go_wp2_with (go_at_call 46; refine (HS2.out _ hw4).mono ?_; rintro e w5 ⟨rfl, hbl5⟩; refine Stop.of ?_)
      refine Stop.go ?_
      have hw5 := chain hw4 hbl5
      go_wp2
      refine ⟨fun _ => HC.out _ hw5, ?_⟩
      have HW5 := hid (chain HB.out hw5)
      refine AnyT.takeD (i := 24) (v := .bool false) rfl rfl (by kernel_rfl) (by kernel_rfl) (by kernel_rfl) (by first | exact (fun _ _ _ h => h) | exact (fun _ _ _ h => absurd h.1 (by simp))) (by kernel_rfl) (by rfl) (by rintro w' hw'; go_simp) (HC.out _ hw5) ?_; go_frame
      refine AnyT.takeD (i := 25) (v := .bool false) rfl rfl (by kernel_rfl) (by kernel_rfl) (by kernel_rfl) (by first | exact (fun _ _ _ h => h) | exact (fun _ _ _ h => absurd h.1 (by simp))) (by kernel_rfl) (by rfl) (by rintro w' hw'; go_simp) (HC.out _ hw5) ?_; go_frame
      refine AnyT.done (by kernel_rfl) ?_ _
      go_wp2
      exact ⟨⟨k + 1, by omega, by go_num, HW5.out⟩, by simp [intOf]; omega⟩
    · obtain rfl : k = n := by omega
      go_wp2
      go_ret
      exact ⟨rfl, hb⟩

end Go.Proofs.YthaampmdponhbaaGreatDoor
