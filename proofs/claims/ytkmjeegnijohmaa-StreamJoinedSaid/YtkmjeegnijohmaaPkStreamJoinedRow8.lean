/- Walks and plain laws for StreamJoinedRow, part 8. -/
import Derived.ChangeOld
import Derived.Deep.Slices
import Derived.Lib.SmallJoins
import Derived.Test.YtkmjeegnijohmaaPkStreamJoinedRow7
namespace Go.Proofs.Ytkmjeegnijohmaa
open Go.RowKit
set_option linter.unusedVariables false

def costTo (F : List Frm) : Nat → Nat
  | 0 => 0
  | k + 1 => costTo F k + (F[k]?.getD (false, [])).2.length
def costF (F : List Frm) : Nat := costTo F F.length
theorem costTo_le {F : List Frm} (h : ∀ f ∈ F, f.2.length ≤ 1000) : ∀ k, k ≤ F.length → costTo F k ≤ k * 1000
  | 0, _ => by simp [costTo]
  | k + 1, hk => by
    have h1 := costTo_le h k (by omega)
    have h2 := h _ (List.getElem_mem (show k < F.length by omega))
    simp only [costTo]
    rw [List.getElem?_eq_getElem (by omega)]
    simp only [Option.getD_some]
    omega
theorem costTo_app (A B : List Frm) : ∀ k, k ≤ A.length → costTo (A ++ B) k = costTo A k
  | 0, _ => rfl
  | k + 1, hk => by
    simp only [costTo]
    rw [costTo_app A B k (by omega), List.getElem?_append_left (by omega)]
theorem costTo_app2 (A B : List Frm) : ∀ k, k ≤ B.length → costTo (A ++ B) (A.length + k) = costTo A A.length + costTo B k
  | 0, _ => by rw [Nat.add_zero, costTo_app A B _ (Nat.le_refl _)]; rfl
  | k + 1, hk => by
    rw [← Nat.add_assoc]
    simp only [costTo]
    rw [costTo_app2 A B k (by omega), List.getElem?_append_right (by omega), Nat.add_sub_cancel_left]
    omega
theorem costF_app (A B : List Frm) : costF (A ++ B) = costF A + costF B := by
  unfold costF
  rw [List.length_append, costTo_app2 A B _ (Nat.le_refl _)]
def keysTo (F : List Frm) : Nat → List Int
  | 0 => []
  | k + 1 => keysTo F k ++ (if (F[k]?.getD (false, [])).1 = true then [(k : Int)] else [])
def keysF (F : List Frm) : List Int := keysTo F F.length
theorem keysTo_le (F : List Frm) : ∀ k, (keysTo F k).length ≤ k
  | 0 => by simp [keysTo]
  | k + 1 => by
    have := keysTo_le F k
    simp only [keysTo, List.length_append]
    split <;> simp <;> omega
theorem validB_ok {M : Mask} {F : List Frm} (h : validB M F = true) : okM M = true ∧ 1 ≤ F.length ∧ F.length ≤ 60 ∧ ∀ f ∈ F, f.2.length ≤ 1000 := by
  unfold validB inB at h
  simp only [Bool.and_eq_true, decide_eq_true_eq, List.all_eq_true] at h
  obtain ⟨⟨⟨hM, h1⟩, _⟩, h2⟩ := h
  obtain ⟨_, _, h6, _, h10⟩ := okM_ok hM
  refine ⟨hM, by omega, by omega, fun f hf => ?_⟩
  have := h2 f hf
  unfold frB at this
  simp only [Bool.or_eq_true, Bool.and_eq_true, decide_eq_true_eq] at this
  rcases this with (h | ⟨_, h⟩) | ⟨_, h, _⟩
  · omega
  · have := (pic_bnd h).1; omega
  · omega

def vE (M : Mask) (F : List Frm) : Int := if validB M F = true then 0 else 1
def costV (M : Mask) (F : List Frm) : Nat := if validB M F = true then costF F else 0
def keysV (M : Mask) (F : List Frm) : List Int := if validB M F = true then keysF F else []

set_option maxHeartbeats 1000000 in
theorem sCost_c (w : World) (a a2 : Option Addr) (n cap n2 cap2 : Nat) (M : Mask) (F : List Frm) (hn : M.length = n) (hm : n ≤ maxLen) (H : RowsAt w a M) (hn2 : F.length = n2) (hm2 : n2 ≤ maxLen) (H2 : FramesAt w a2 F) :
    Calls Try.prog 25 #[.slice a n cap, .slice a2 n2 cap2] w fun e w' => e = .returned (.tuple #[.int .i64 (costV M F), .int .i64 (vE M F)]) ∧ Below w.heap.size w w' := by
  have HV := hid (svalid_c w a n cap M hn hm H a2 n2 cap2 F hn2 hm2 H2)
  cases hV : validB M F
  · have e1 : vE M F = 1 := by unfold vE; rw [hV]; rfl
    have e2 : costV M F = 0 := by unfold costV; rw [hV]; rfl
    rw [hV] at HV
    rw [e1, e2]
    clear hn H hn2 H2 hV e1 e2
    go_enter Try.func25, Try.ntmps25
    go_wp2_with (go_at_call 18; refine HV.out.mono ?_; rintro e w1 ⟨rfl, hb1⟩)
    go_ret2
    exact ⟨rfl, hb1⟩
  · have e1 : vE M F = 0 := by unfold vE; rw [hV]; rfl
    have e2 : costV M F = costTo F n2 := by unfold costV costF; rw [hV, hn2]; rfl
    obtain ⟨_, _, h60, hl⟩ := validB_ok hV
    rw [hV] at HV
    rw [e1, e2]
    have HN := hid hn2
    have HH := hid H2
    have HL := hid hl
    have HCB := hid (fun (k : Nat) (hk : k ≤ F.length) => costTo_le hl k hk)
    have hn60 : n2 ≤ 60 := by omega
    clear hn H hn2 H2 hV e1 e2 hl
    go_enter Try.func25, Try.ntmps25
    go_wp2_with (go_at_call 18; refine HV.out.mono ?_; rintro e w1 ⟨rfl, hb1⟩)
    go_loopw [6, 15] (fun s i wr => ∃ k : Nat, k ≤ n2 ∧ i = .int .i64 k ∧ s = .int .i64 (costTo F k) ∧ Below w.heap.size w wr) (fun _ i _ => n2 - (intOf i).toNat)
    case atStart => exact ⟨0, Nat.zero_le _, rfl, rfl, hb1⟩
    case round =>
      obtain ⟨k, hk, rfl, rfl, hb⟩ := hrel
      by_cases hlt : k < n2
      · have hkl : k < F.length := by rw [HN.out]; exact hlt
        obtain ⟨b, off, ra, rn, rc, rfl, hbs, h0, h1, hrn, hrm, hri⟩ := (HH.out.below hb) k hkl
        obtain ⟨K, hK⟩ : ∃ K, K = (F[k]'hkl).1 := ⟨_, rfl⟩
        rw [← hK] at h0
        have hcs : costTo F (k + 1) = costTo F k + rn := by show costTo F k + _ = _; rw [List.getElem?_eq_getElem hkl, ← hrn]; rfl
        have hcb := HCB.out (k + 1) (by omega)
        obtain ⟨s, hs⟩ : ∃ s, s = costTo F k := ⟨_, rfl⟩
        rw [← hs] at hcs ⊢
        have hw : wrap64 ((s : Int) + (rn : Int)) = ((s + rn : Nat) : Int) := by unfold wrap64; omega
        have hw2 : IntKind.i64.wrap ((s : Int) + (rn : Int)) = ((s + rn : Nat) : Int) := by rw [IntWalk.i64_left]; exact hw
        have HCS := hid hcs
        have hba : ∀ o : Obj, Below w.heap.size w (wr.alloc o) := fun o => hb.alloc hb.size o
        have HBA := hid hba
        clear hK hs hcs hrn hri hb hba hcb
        go_wp2
        refine ⟨⟨k + 1, by omega, by go_num, ?_, HBA.out _⟩, by simp [intOf]; omega⟩
        rw [HCS.out]; first | rfl | (congr 1) | simp
      · obtain rfl : n2 = k := by omega
        go_wp2
        go_ret2
        exact ⟨rfl, hb⟩
set_option maxHeartbeats 1000000 in
theorem sKeys_c (w : World) (a a2 : Option Addr) (n cap n2 cap2 : Nat) (M : Mask) (F : List Frm) (hn : M.length = n) (hm : n ≤ maxLen) (H : RowsAt w a M) (hn2 : F.length = n2) (hm2 : n2 ≤ maxLen) (H2 : FramesAt w a2 F) :
    Calls Try.prog 24 #[.slice a n cap, .slice a2 n2 cap2] w fun e w' => ∃ va vc, e = .returned (.tuple #[.slice va (keysV M F).length vc, .int .i64 (vE M F)]) ∧ (keysV M F).length ≤ maxLen ∧ IntsAt w' va (keysV M F) ∧ Below w.heap.size w w' := by
  have HV := hid (svalid_c w a n cap M hn hm H a2 n2 cap2 F hn2 hm2 H2)
  cases hV : validB M F
  · have e1 : vE M F = 1 := by unfold vE; rw [hV]; rfl
    have e2 : keysV M F = [] := by unfold keysV; rw [hV]; rfl
    rw [hV] at HV
    rw [e1, e2]
    clear hn H hn2 H2 hV e1 e2
    go_enter Try.func24, Try.ntmps24
    go_wp2_with (go_at_call 18; refine HV.out.mono ?_; rintro e w1 ⟨rfl, hb1⟩)
    go_ret2
    exact ⟨none, 0, rfl, by decide, ints_nil, hb1⟩
  · have e1 : vE M F = 0 := by unfold vE; rw [hV]; rfl
    have e2 : keysV M F = keysTo F n2 := by unfold keysV keysF; rw [hV, hn2]; rfl
    obtain ⟨_, _, h60, hl⟩ := validB_ok hV
    rw [hV] at HV
    rw [e1, e2]
    have HN := hid hn2
    have HH := hid H2
    have hn60 : n2 ≤ 60 := by omega
    have HKL := hid (fun k => keysTo_le F k)
    clear hn H hn2 H2 hV e1 e2 hl
    go_enter Try.func24, Try.ntmps24
    go_wp2_with (go_at_call 18; refine HV.out.mono ?_; rintro e w1 ⟨rfl, hb1⟩)
    have HB1 := hid hb1
    clear hb1
    go_loopw [6, 15] (fun v i wr => ∃ k : Nat, k ≤ n2 ∧ i = .int .i64 k ∧ wr.ownsRow w1.heap.size 3 1 v (keysTo F k).length ((keysTo F k).map (Value.int .i64)) ∧ Below w1.heap.size w1 wr) (fun _ i _ => n2 - (intOf i).toNat)
    case atStart => exact ⟨0, Nat.zero_le _, rfl, World.ownsRow_nil _ _ _ _, Below.refl _ _⟩
    case round =>
      obtain ⟨k, hk, rfl, ho, hb⟩ := hrel
      by_cases hlt : k < n2
      · have hkl : k < F.length := by rw [HN.out]; exact hlt
        obtain ⟨b, off, ra, rn, rc, rfl, hbs, h0, h1, hrn, hrm, hri⟩ := (HH.out.below (chain HB1.out hb)) k hkl
        have hks : keysTo F (k + 1) = keysTo F k ++ (if (F[k]'hkl).1 = true then [(k : Int)] else []) := by show keysTo F k ++ _ = _; rw [List.getElem?_eq_getElem hkl]; rfl
        obtain ⟨K, hK⟩ : ∃ K, K = (F[k]'hkl).1 := ⟨_, rfl⟩
        rw [← hK] at h0 hks
        obtain ⟨la, lc, rfl⟩ := ownsRow_slice ho
        have hll := HKL.out k
        obtain ⟨L, hL⟩ : ∃ L, L = keysTo F k := ⟨_, rfl⟩
        rw [← hL] at ho hks hll ⊢
        have hba : ∀ o : Obj, Below w1.heap.size w1 (wr.alloc o) := fun o => hb.alloc hb.size o
        have hoa : ∀ o : Obj, (wr.alloc o).ownsRow w1.heap.size 3 1 (.slice la L.length lc) L.length (L.map (Value.int .i64)) := fun o => ho.alloc o
        have HKS := hid hks
        have HBA := hid hba
        have HOA := hid hoa
        have hki : (k : Int) < (n2 : Int) := by omega
        have hki0 : (0 : Int) ≤ (k : Int) := by omega
        have M1 := hid (show L.length + 1 ≤ maxLen by unfold maxLen; omega)
        have M2 := hid (show (L.length + 1) * 8 ≤ 140737488355328 by omega)
        clear hK hL hks hrn hri hb hba ho hoa hll
        cases K
        · have hks2 : keysTo F (k + 1) = L := by rw [HKS.out]; simp
          have HKS2 := hid hks2
          clear hks2
          go_wp2
          refine ⟨⟨k + 1, by omega, by go_num, ?_, HBA.out _⟩, by simp [intOf]; omega⟩
          rw [HKS2.out]; exact HOA.out _
        · have hks2 : keysTo F (k + 1) = L ++ [(k : Int)] := by rw [HKS.out]; simp
          have HKS2 := hid hks2
          clear hks2
          have hsz : ((wr.alloc (.cells #[.bool true, .slice ra rn rc] 50)).heap.size) = wr.heap.size + 1 := by simp
          have hnw := one_news (wr.alloc (.cells #[.bool true, .slice ra rn rc] 50)) (.int .i64 k) 3
          rw [hsz] at hnw
          have HNW := hid hnw
          have M3 := hid (Nat.le_trans (HBA.out (.cells #[.bool true, .slice ra rn rc] 50)).size (le_alloc _ (.cells #[.int .i64 (k : Int)] 3)))
          clear hnw hsz
          go_wp2_with (at_builtin; refine wpList_app _ rfl (.tmp 22) (.tmp 24) 25 rfl w1.heap.size 3 (.int .i64 0) 1 8 Try.underlying25 li_int rfl Nat.one_pos (.slice la L.length lc) L.length _ rfl ((HOA.out _).alloc _) (some ⟨wr.heap.size + 1, 0, none⟩) 1 1 [.int .i64 k] rfl rfl no_none HNW.out (li_one _) M1.out M2.out M3.out ?_; refine Stop.of ?_)
          refine Stop.go ?_
          intro a3 c3 w3 own3 g3
          have hB3 : Below w1.heap.size w1 w3 := ((HBA.out _).alloc (HBA.out _).size _).grown g3 M3.out (fun q hq => ((HOA.out (.cells #[.bool true, .slice ra rn rc] 50)).lt q hq).1)
          go_wp2
          refine ⟨⟨k + 1, by omega, by go_num, ?_, hB3⟩, by simp [intOf]; omega⟩
          rw [HKS2.out]
          simpa using own3
      · obtain rfl : n2 = k := by omega
        obtain ⟨va, vc, hva, hi, hmx⟩ := ints_of_own ho rfl
        subst hva
        have HI := hid hi
        have HMX := hid hmx
        have HBB := hid hb
        clear ho hi hmx hb
        go_wp2
        go_ret2
        exact ⟨va, vc, rfl, HMX.out, HI.out, chain HB1.out HBB.out⟩
set_option maxHeartbeats 1000000 in
theorem r8Cost_c (w : World) (a a2 : Option Addr) (n cap n2 cap2 : Nat) (M : Mask) (F : List Frm) (hn : M.length = n) (hm : n ≤ maxLen) (H : RowsAt w a M) (hn2 : F.length = n2) (hm2 : n2 ≤ maxLen) (H2 : FramesAt w a2 F) :
    Calls Try.prog 26 #[.slice a n cap, .slice a2 n2 cap2] w fun e w' => e = .returned (.tuple #[.int .i64 (costV M F), .int .i64 (vE M F)]) ∧ Below w.heap.size w w' := by
  have HV := hid (r8valid_c w a n cap M hn hm H a2 n2 cap2 F hn2 hm2 H2)
  cases hV : validB M F
  · have e1 : vE M F = 1 := by unfold vE; rw [hV]; rfl
    have e2 : costV M F = 0 := by unfold costV; rw [hV]; rfl
    rw [hV] at HV
    rw [e1, e2]
    clear hn H hn2 H2 hV e1 e2
    go_enter Try.func26, Try.ntmps26
    go_wp2_with (go_at_call 19; refine HV.out.mono ?_; rintro e w1 ⟨rfl, hb1⟩)
    go_ret2
    exact ⟨rfl, hb1⟩
  · have e1 : vE M F = 0 := by unfold vE; rw [hV]; rfl
    have e2 : costV M F = costTo F n2 := by unfold costV costF; rw [hV, hn2]; rfl
    obtain ⟨_, _, h60, hl⟩ := validB_ok hV
    rw [hV] at HV
    rw [e1, e2]
    have HN := hid hn2
    have HH := hid H2
    have HL := hid hl
    have HCB := hid (fun (k : Nat) (hk : k ≤ F.length) => costTo_le hl k hk)
    have hn60 : n2 ≤ 60 := by omega
    clear hn H hn2 H2 hV e1 e2 hl
    go_enter Try.func26, Try.ntmps26
    go_wp2_with (go_at_call 19; refine HV.out.mono ?_; rintro e w1 ⟨rfl, hb1⟩)
    go_loopw [6, 15] (fun s i wr => ∃ k : Nat, k ≤ n2 ∧ i = .int .i64 k ∧ s = .int .i64 (costTo F k) ∧ Below w.heap.size w wr) (fun _ i _ => n2 - (intOf i).toNat)
    case atStart => exact ⟨0, Nat.zero_le _, rfl, rfl, hb1⟩
    case round =>
      obtain ⟨k, hk, rfl, rfl, hb⟩ := hrel
      by_cases hlt : k < n2
      · have hkl : k < F.length := by rw [HN.out]; exact hlt
        obtain ⟨b, off, ra, rn, rc, rfl, hbs, h0, h1, hrn, hrm, hri⟩ := (HH.out.below hb) k hkl
        obtain ⟨K, hK⟩ : ∃ K, K = (F[k]'hkl).1 := ⟨_, rfl⟩
        rw [← hK] at h0
        have hcs : costTo F (k + 1) = costTo F k + rn := by show costTo F k + _ = _; rw [List.getElem?_eq_getElem hkl, ← hrn]; rfl
        have hcb := HCB.out (k + 1) (by omega)
        obtain ⟨s, hs⟩ : ∃ s, s = costTo F k := ⟨_, rfl⟩
        rw [← hs] at hcs ⊢
        have hw : wrap64 ((s : Int) + (rn : Int)) = ((s + rn : Nat) : Int) := by unfold wrap64; omega
        have hw2 : IntKind.i64.wrap ((s : Int) + (rn : Int)) = ((s + rn : Nat) : Int) := by rw [IntWalk.i64_left]; exact hw
        have HCS := hid hcs
        have hba : ∀ o : Obj, Below w.heap.size w (wr.alloc o) := fun o => hb.alloc hb.size o
        have HBA := hid hba
        clear hK hs hcs hrn hri hb hba hcb
        go_wp2
        refine ⟨⟨k + 1, by omega, by go_num, ?_, HBA.out _⟩, by simp [intOf]; omega⟩
        rw [HCS.out]; first | rfl | (congr 1) | simp
      · obtain rfl : n2 = k := by omega
        go_wp2
        go_ret2
        exact ⟨rfl, hb⟩
set_option maxHeartbeats 1000000 in
theorem r8Keys_c (w : World) (a a2 : Option Addr) (n cap n2 cap2 : Nat) (M : Mask) (F : List Frm) (hn : M.length = n) (hm : n ≤ maxLen) (H : RowsAt w a M) (hn2 : F.length = n2) (hm2 : n2 ≤ maxLen) (H2 : FramesAt w a2 F) :
    Calls Try.prog 27 #[.slice a n cap, .slice a2 n2 cap2] w fun e w' => ∃ va vc, e = .returned (.tuple #[.slice va (keysV M F).length vc, .int .i64 (vE M F)]) ∧ (keysV M F).length ≤ maxLen ∧ IntsAt w' va (keysV M F) ∧ Below w.heap.size w w' := by
  have HV := hid (r8valid_c w a n cap M hn hm H a2 n2 cap2 F hn2 hm2 H2)
  cases hV : validB M F
  · have e1 : vE M F = 1 := by unfold vE; rw [hV]; rfl
    have e2 : keysV M F = [] := by unfold keysV; rw [hV]; rfl
    rw [hV] at HV
    rw [e1, e2]
    clear hn H hn2 H2 hV e1 e2
    go_enter Try.func27, Try.ntmps27
    go_wp2_with (go_at_call 19; refine HV.out.mono ?_; rintro e w1 ⟨rfl, hb1⟩)
    go_ret2
    exact ⟨none, 0, rfl, by decide, ints_nil, hb1⟩
  · have e1 : vE M F = 0 := by unfold vE; rw [hV]; rfl
    have e2 : keysV M F = keysTo F n2 := by unfold keysV keysF; rw [hV, hn2]; rfl
    obtain ⟨_, _, h60, hl⟩ := validB_ok hV
    rw [hV] at HV
    rw [e1, e2]
    have HN := hid hn2
    have HH := hid H2
    have hn60 : n2 ≤ 60 := by omega
    have HKL := hid (fun k => keysTo_le F k)
    clear hn H hn2 H2 hV e1 e2 hl
    go_enter Try.func27, Try.ntmps27
    go_wp2_with (go_at_call 19; refine HV.out.mono ?_; rintro e w1 ⟨rfl, hb1⟩)
    have HB1 := hid hb1
    clear hb1
    go_loopw [6, 15] (fun v i wr => ∃ k : Nat, k ≤ n2 ∧ i = .int .i64 k ∧ wr.ownsRow w1.heap.size 3 1 v (keysTo F k).length ((keysTo F k).map (Value.int .i64)) ∧ Below w1.heap.size w1 wr) (fun _ i _ => n2 - (intOf i).toNat)
    case atStart => exact ⟨0, Nat.zero_le _, rfl, World.ownsRow_nil _ _ _ _, Below.refl _ _⟩
    case round =>
      obtain ⟨k, hk, rfl, ho, hb⟩ := hrel
      by_cases hlt : k < n2
      · have hkl : k < F.length := by rw [HN.out]; exact hlt
        obtain ⟨b, off, ra, rn, rc, rfl, hbs, h0, h1, hrn, hrm, hri⟩ := (HH.out.below (chain HB1.out hb)) k hkl
        have hks : keysTo F (k + 1) = keysTo F k ++ (if (F[k]'hkl).1 = true then [(k : Int)] else []) := by show keysTo F k ++ _ = _; rw [List.getElem?_eq_getElem hkl]; rfl
        obtain ⟨K, hK⟩ : ∃ K, K = (F[k]'hkl).1 := ⟨_, rfl⟩
        rw [← hK] at h0 hks
        obtain ⟨la, lc, rfl⟩ := ownsRow_slice ho
        have hll := HKL.out k
        obtain ⟨L, hL⟩ : ∃ L, L = keysTo F k := ⟨_, rfl⟩
        rw [← hL] at ho hks hll ⊢
        have hba : ∀ o : Obj, Below w1.heap.size w1 (wr.alloc o) := fun o => hb.alloc hb.size o
        have hoa : ∀ o : Obj, (wr.alloc o).ownsRow w1.heap.size 3 1 (.slice la L.length lc) L.length (L.map (Value.int .i64)) := fun o => ho.alloc o
        have HKS := hid hks
        have HBA := hid hba
        have HOA := hid hoa
        have hki : (k : Int) < (n2 : Int) := by omega
        have hki0 : (0 : Int) ≤ (k : Int) := by omega
        have M1 := hid (show L.length + 1 ≤ maxLen by unfold maxLen; omega)
        have M2 := hid (show (L.length + 1) * 8 ≤ 140737488355328 by omega)
        clear hK hL hks hrn hri hb hba ho hoa hll
        cases K
        · have hks2 : keysTo F (k + 1) = L := by rw [HKS.out]; simp
          have HKS2 := hid hks2
          clear hks2
          go_wp2
          refine ⟨⟨k + 1, by omega, by go_num, ?_, HBA.out _⟩, by simp [intOf]; omega⟩
          rw [HKS2.out]; exact HOA.out _
        · have hks2 : keysTo F (k + 1) = L ++ [(k : Int)] := by rw [HKS.out]; simp
          have HKS2 := hid hks2
          clear hks2
          have hsz : ((wr.alloc (.cells #[.bool true, .slice ra rn rc] 50)).heap.size) = wr.heap.size + 1 := by simp
          have hnw := one_news (wr.alloc (.cells #[.bool true, .slice ra rn rc] 50)) (.int .i64 k) 3
          rw [hsz] at hnw
          have HNW := hid hnw
          have M3 := hid (Nat.le_trans (HBA.out (.cells #[.bool true, .slice ra rn rc] 50)).size (le_alloc _ (.cells #[.int .i64 (k : Int)] 3)))
          clear hnw hsz
          go_wp2_with (at_builtin; refine wpList_app _ rfl (.tmp 22) (.tmp 24) 25 rfl w1.heap.size 3 (.int .i64 0) 1 8 Try.underlying25 li_int rfl Nat.one_pos (.slice la L.length lc) L.length _ rfl ((HOA.out _).alloc _) (some ⟨wr.heap.size + 1, 0, none⟩) 1 1 [.int .i64 k] rfl rfl no_none HNW.out (li_one _) M1.out M2.out M3.out ?_; refine Stop.of ?_)
          refine Stop.go ?_
          intro a3 c3 w3 own3 g3
          have hB3 : Below w1.heap.size w1 w3 := ((HBA.out _).alloc (HBA.out _).size _).grown g3 M3.out (fun q hq => ((HOA.out (.cells #[.bool true, .slice ra rn rc] 50)).lt q hq).1)
          go_wp2
          refine ⟨⟨k + 1, by omega, by go_num, ?_, hB3⟩, by simp [intOf]; omega⟩
          rw [HKS2.out]
          simpa using own3
      · obtain rfl : n2 = k := by omega
        obtain ⟨va, vc, hva, hi, hmx⟩ := ints_of_own ho rfl
        subst hva
        have HI := hid hi
        have HMX := hid hmx
        have HBB := hid hb
        clear ho hi hmx hb
        go_wp2
        go_ret2
        exact ⟨va, vc, rfl, HMX.out, HI.out, chain HB1.out HBB.out⟩
end Go.Proofs.Ytkmjeegnijohmaa

namespace Go.Proofs.Ytkmjeegnijohmaa
open Go.RowKit
set_option linter.unusedVariables false

def jE (M : Mask) (A B : List Frm) : Int := if validB M A = true ∧ validB M B = true then (if 60 < A.length + B.length then 4 else 0) else 1
def jL (M : Mask) (A B : List Frm) : List Frm := if jE M A B = 0 then A ++ B else []

theorem FrmsO.new {W : World} {base base' : Nat} {v : Value} {F : List Frm} (h : FrmsO W base' (fun b => base' ≤ b) v F) : FrmsO W base (fun _ => True) v F ∨ base' < base := by
  rcases Nat.lt_or_ge base' base with hb | hb
  · exact .inr hb
  · left
    obtain ⟨xs, ho, _, he⟩ := h
    refine ⟨xs, own_mono ho hb, fun _ _ => trivial, fun j hj => ?_⟩
    obtain ⟨k1, u, k2, a, n, c, e, hn, hm, hel⟩ := he j hj
    refine ⟨k1, u, k2, a, n, c, e, hn, hm, fun i hi => ?_⟩
    obtain ⟨b, o, e2, hS, hlt, hty, hc⟩ := hel i hi
    refine ⟨b, o, e2, trivial, hlt, ?_, hc⟩
    rcases hty with h | h
    · omega
    · exact .inr h

set_option maxRecDepth 100000 in
set_option maxHeartbeats 600000 in
theorem sJoined_c (w : World) (a a1 a2 : Option Addr) (n cap n1 c1 n2 c2 : Nat) (M : Mask) (A B : List Frm) (hn : M.length = n) (hm : n ≤ maxLen) (H : RowsAt w a M) (hn1 : A.length = n1) (hm1 : n1 ≤ maxLen) (H1 : FramesAt w a1 A) (hn2 : B.length = n2) (hm2 : n2 ≤ maxLen) (H2 : FramesAt w a2 B) :
    Calls Try.prog 28 #[.slice a n cap, .slice a1 n1 c1, .slice a2 n2 c2] w fun e w' => ∃ va vc, e = .returned (.tuple #[.slice va (jL M A B).length vc, .int .i64 (jE M A B)]) ∧ (jL M A B).length ≤ maxLen ∧ FramesAt w' va (jL M A B) ∧ Below w.heap.size w w' := by
  have HVA := hid (svalid_c w a n cap M hn hm H a1 n1 c1 A hn1 hm1 H1)
  have HVB := hid (fun (X : World) (hX : Below w.heap.size w X) => svalid_c X a n cap M hn hm (H.below hX) a2 n2 c2 B hn2 hm2 (H2.below hX))
  cases hVA : validB M A
  · have e1 : jE M A B = 1 := by unfold jE; rw [hVA]; rfl
    have e2 : jL M A B = [] := by unfold jL; rw [e1]; rfl
    rw [hVA] at HVA
    rw [e1, e2]
    clear hn H hn1 H1 hn2 H2 hVA e1 e2
    go_enter Try.func28, Try.ntmps28
    go_wp2_with (go_at_call 18; refine HVA.out.mono ?_; rintro e w1 ⟨rfl, hb1⟩)
    go_ret2
    exact ⟨none, 0, rfl, by decide, frames_nil, hb1⟩
  · rw [hVA] at HVA
    cases hVB : validB M B
    · have e1 : jE M A B = 1 := by unfold jE; rw [hVA, hVB]; rfl
      have e2 : jL M A B = [] := by unfold jL; rw [e1]; rfl
      rw [hVB] at HVB
      rw [e1, e2]
      clear hn H hn1 H1 hn2 H2 hVA hVB e1 e2
      go_enter Try.func28, Try.ntmps28
      go_wp2_with first
        | (go_at_call 18; refine HVA.out.mono ?_; rintro e w1 ⟨rfl, hb1⟩; refine Stop.of ?_)
      refine Stop.go ?_
      go_wp2_with first
        | (go_at_call 18; refine (HVB.out _ hb1).mono ?_; rintro e w2 ⟨rfl, hb2⟩)
      go_ret2
      exact ⟨none, 0, rfl, by decide, frames_nil, chain hb1 hb2⟩
    · rw [hVB] at HVB
      obtain ⟨hM, ha1, ha60, hla⟩ := validB_ok hVA
      obtain ⟨_, hb1', hb60, hlb⟩ := validB_ok hVB
      have HW := hid (show wrap64 ((n1 : Int) + (n2 : Int)) = ((n1 + n2 : Nat) : Int) by unfold wrap64; omega)
      by_cases h60 : 60 < n1 + n2
      · have e1 : jE M A B = 4 := by unfold jE; rw [hVA, hVB, if_pos ⟨rfl, rfl⟩, if_pos (by omega)]
        have e2 : jL M A B = [] := by unfold jL; rw [e1]; rfl
        rw [e1, e2]
        obtain ⟨z, hz⟩ : ∃ z : Int, z = ((n1 + n2 : Nat) : Int) := ⟨_, rfl⟩
        have hgt : (60 : Int) < z := by omega
        have hw := HW.out
        rw [← hz] at hw
        have hw2 : IntKind.i64.wrap ((n1 : Int) + (n2 : Int)) = z := by rw [IntWalk.i64_left]; exact hw
        clear hn H hn1 H1 hn2 H2 hVA hVB e1 e2 hla hlb hz h60
        go_enter Try.func28, Try.ntmps28
        go_wp2_with first
          | (go_at_call 18; refine HVA.out.mono ?_; rintro e w1 ⟨rfl, hb1⟩; refine Stop.of ?_)
        refine Stop.go ?_
        go_wp2_with first
          | (go_at_call 18; refine (HVB.out _ hb1).mono ?_; rintro e w2 ⟨rfl, hb2⟩)
        go_ret2
        exact ⟨none, 0, rfl, by decide, frames_nil, chain hb1 hb2⟩
      · have e1 : jE M A B = 0 := by unfold jE; rw [hVA, hVB, if_pos ⟨rfl, rfl⟩, if_neg (by omega)]
        have e2 : jL M A B = A ++ B := by unfold jL; rw [e1]; rfl
        rw [e1, e2]
        obtain ⟨z, hz⟩ : ∃ z : Int, z = ((n1 + n2 : Nat) : Int) := ⟨_, rfl⟩
        have hgt : ¬ (60 : Int) < z := by omega
        have HCC := hid (fun (X : World) (hX : Below w.heap.size w X) (sb : Nat) (s0 : X.cell? ⟨sb, 0, none⟩ = some (.slice a1 n1 c1)) (s1 : X.cell? ⟨sb, 1, none⟩ = some (.slice a2 n2 c2)) (hsb : sb < X.heap.size) => concat_c X sb a1 a2 n1 c1 n2 c2 A B hn1 hn2 (by omega) (by omega) (by omega) (H1.below hX) (H2.below hX) s0 s1 hsb)
        have HLL := hid (show ∀ f ∈ A ++ B, f.2.length ≤ 1000 from fun f hf => by rcases List.mem_append.1 hf with h | h; exact hla f h; exact hlb f h)
        have HNL := hid (show (A ++ B).length = n1 + n2 by rw [List.length_append, hn1, hn2])
        have HN60 := hid (show n1 + n2 ≤ 60 by omega)
        obtain ⟨J, hJ⟩ : ∃ J, J = A ++ B := ⟨_, rfl⟩
        rw [← hJ] at HCC HLL HNL ⊢
        have hw := HW.out
        rw [← hz] at hw
        have hw2 : IntKind.i64.wrap ((n1 : Int) + (n2 : Int)) = z := by rw [IntWalk.i64_left]; exact hw
        clear hn H hn1 H1 hn2 H2 hVA hVB e1 e2 hla hlb hz h60 hJ
        go_enter Try.func28, Try.ntmps28
        go_wp2_with first
          | (go_at_call 18; refine HVA.out.mono ?_; rintro e w1 ⟨rfl, hb1⟩; refine Stop.of ?_)
        refine Stop.go ?_
        go_wp2_with first
          | (go_at_call 18; refine (HVB.out _ hb1).mono ?_; rintro e w2 ⟨rfl, hb2⟩; refine Stop.of ?_)
        refine Stop.go ?_
        have hbW := chain hb1 hb2
        have hbL : Below w2.heap.size w2 (w2.alloc (.cells #[.slice a1 n1 c1, .slice a2 n2 c2] 24)) := (Below.refl _ _).alloc (Nat.le_refl _) _
        have hcc := HCC.out (w2.alloc (.cells #[.slice a1 n1 c1, .slice a2 n2 c2] 24)) (chain hbW hbL) w2.heap.size (by rw [World.cell?_alloc_at _ _ _ _ rfl]; rfl) (by rw [World.cell?_alloc_at _ _ _ _ rfl]; rfl) (by simp)
        have HC2 := hid (hcc.mono (R' := fun e w' => ∃ v base, e = .returned v ∧ FrmsO w' base (fun _ => True) v J ∧ Below w.heap.size w w') (fun e w' ⟨v, he, ho, hb⟩ => ⟨v, _, he, ho, chain (chain hbW hbL) hb⟩))
        clear hcc hbW hbL hb1 hb2 HVA HVB HCC
        go_wp2_with first
          | (go_at_call 51; refine HC2.out.mono ?_; rintro e w3 ⟨v3, base3, rfl, ho3, hb3⟩; refine Stop.of ?_)
        refine Stop.go ?_
        obtain ⟨va, vc, rfl, hvm, hvf⟩ := ho3.reads
        have HCP := hid (copied_c w3 va J.length vc J rfl (by rw [HNL.out]; exact Nat.le_trans HN60.out (by decide)) HLL.out hvf)
        have HB3 := hid hb3
        clear ho3 hvm hvf hb3 HC2
        go_wp2_with first
          | (go_at_call 50; go_loud (refine HCP.out.mono ?_; rintro e w4 ⟨v4, rfl, ho4, hb4⟩; refine Stop.of ?_))
        refine Stop.go ?_
        obtain ⟨ua, uc, rfl, hum, huf⟩ := ho4.reads
        have HUF := hid huf
        have HB4 := hid (chain HB3.out hb4)
        clear ho4 huf hb4 HCP
        go_wp2
        go_ret2
        exact ⟨ua, uc, rfl, hum, HUF.out, HB4.out⟩
end Go.Proofs.Ytkmjeegnijohmaa

namespace Go.Proofs.Ytkmjeegnijohmaa
open Go.RowKit
set_option linter.unusedVariables false

set_option maxRecDepth 100000 in
set_option maxHeartbeats 600000 in
theorem r8Joined_c (w : World) (a a1 a2 : Option Addr) (n cap n1 c1 n2 c2 : Nat) (M : Mask) (A B : List Frm) (hn : M.length = n) (hm : n ≤ maxLen) (H : RowsAt w a M) (hn1 : A.length = n1) (hm1 : n1 ≤ maxLen) (H1 : FramesAt w a1 A) (hn2 : B.length = n2) (hm2 : n2 ≤ maxLen) (H2 : FramesAt w a2 B) :
    Calls Try.prog 29 #[.slice a n cap, .slice a1 n1 c1, .slice a2 n2 c2] w fun e w' => ∃ va vc, e = .returned (.tuple #[.slice va (jL M A B).length vc, .int .i64 (jE M A B)]) ∧ (jL M A B).length ≤ maxLen ∧ FramesAt w' va (jL M A B) ∧ Below w.heap.size w w' := by
  have HVA := hid (r8valid_c w a n cap M hn hm H a1 n1 c1 A hn1 hm1 H1)
  have HVB := hid (fun (X : World) (hX : Below w.heap.size w X) => r8valid_c X a n cap M hn hm (H.below hX) a2 n2 c2 B hn2 hm2 (H2.below hX))
  cases hVA : validB M A
  · have e1 : jE M A B = 1 := by unfold jE; rw [hVA]; rfl
    have e2 : jL M A B = [] := by unfold jL; rw [e1]; rfl
    rw [hVA] at HVA
    rw [e1, e2]
    clear hn H hn1 H1 hn2 H2 hVA e1 e2
    go_enter Try.func29, Try.ntmps29
    go_wp2_with (go_at_call 19; refine HVA.out.mono ?_; rintro e w1 ⟨rfl, hb1⟩)
    go_ret2
    exact ⟨none, 0, rfl, by decide, frames_nil, hb1⟩
  · rw [hVA] at HVA
    cases hVB : validB M B
    · have e1 : jE M A B = 1 := by unfold jE; rw [hVA, hVB]; rfl
      have e2 : jL M A B = [] := by unfold jL; rw [e1]; rfl
      rw [hVB] at HVB
      rw [e1, e2]
      clear hn H hn1 H1 hn2 H2 hVA hVB e1 e2
      go_enter Try.func29, Try.ntmps29
      go_wp2_with first
        | (go_at_call 19; refine HVA.out.mono ?_; rintro e w1 ⟨rfl, hb1⟩; refine Stop.of ?_)
      refine Stop.go ?_
      go_wp2_with first
        | (go_at_call 19; refine (HVB.out _ hb1).mono ?_; rintro e w2 ⟨rfl, hb2⟩)
      go_ret2
      exact ⟨none, 0, rfl, by decide, frames_nil, chain hb1 hb2⟩
    · rw [hVB] at HVB
      obtain ⟨hM, ha1, ha60, hla⟩ := validB_ok hVA
      obtain ⟨_, hb1', hb60, hlb⟩ := validB_ok hVB
      have HW := hid (show wrap64 ((n1 : Int) + (n2 : Int)) = ((n1 + n2 : Nat) : Int) by unfold wrap64; omega)
      by_cases h60 : 60 < n1 + n2
      · have e1 : jE M A B = 4 := by unfold jE; rw [hVA, hVB, if_pos ⟨rfl, rfl⟩, if_pos (by omega)]
        have e2 : jL M A B = [] := by unfold jL; rw [e1]; rfl
        rw [e1, e2]
        obtain ⟨z, hz⟩ : ∃ z : Int, z = ((n1 + n2 : Nat) : Int) := ⟨_, rfl⟩
        have hgt : (60 : Int) < z := by omega
        have hw := HW.out
        rw [← hz] at hw
        have hw2 : IntKind.i64.wrap ((n1 : Int) + (n2 : Int)) = z := by rw [IntWalk.i64_left]; exact hw
        clear hn H hn1 H1 hn2 H2 hVA hVB e1 e2 hla hlb hz h60
        go_enter Try.func29, Try.ntmps29
        go_wp2_with first
          | (go_at_call 19; refine HVA.out.mono ?_; rintro e w1 ⟨rfl, hb1⟩; refine Stop.of ?_)
        refine Stop.go ?_
        go_wp2_with first
          | (go_at_call 19; refine (HVB.out _ hb1).mono ?_; rintro e w2 ⟨rfl, hb2⟩)
        go_ret2
        exact ⟨none, 0, rfl, by decide, frames_nil, chain hb1 hb2⟩
      · have e1 : jE M A B = 0 := by unfold jE; rw [hVA, hVB, if_pos ⟨rfl, rfl⟩, if_neg (by omega)]
        have e2 : jL M A B = A ++ B := by unfold jL; rw [e1]; rfl
        rw [e1, e2]
        obtain ⟨z, hz⟩ : ∃ z : Int, z = ((n1 + n2 : Nat) : Int) := ⟨_, rfl⟩
        have hgt : ¬ (60 : Int) < z := by omega
        have HCC := hid (show A ++ B = A ++ B from rfl)
        have HLA := hid (fun (X : World) (hX : Below w.heap.size w X) => r8lose_c X a1 n1 c1 A (-1) hn1 (by omega) hla (H1.below hX))
        have HLB := hid (fun (X : World) (hX : Below w.heap.size w X) => r8lose_c X a2 n2 c2 B (-1) hn2 (by omega) hlb (H2.below hX))
        rw [loseF_none] at HLA HLB
        have HN1 := hid hn1
        have HN2 := hid hn2
        have hn2' : 1 ≤ n2 := by omega
        have HLL := hid (show ∀ f ∈ A ++ B, f.2.length ≤ 1000 from fun f hf => by rcases List.mem_append.1 hf with h | h; exact hla f h; exact hlb f h)
        have HNL := hid (show (A ++ B).length = n1 + n2 by rw [List.length_append, hn1, hn2])
        have HN60 := hid (show n1 + n2 ≤ 60 by omega)
        obtain ⟨J, hJ⟩ : ∃ J, J = A ++ B := ⟨_, rfl⟩
        rw [← hJ] at HLL HNL ⊢
        have HJ := hid hJ
        clear HCC
        have hw := HW.out
        rw [← hz] at hw
        have hw2 : IntKind.i64.wrap ((n1 : Int) + (n2 : Int)) = z := by rw [IntWalk.i64_left]; exact hw
        clear hn H hn1 H1 hn2 H2 hVA hVB e1 e2 hla hlb hz h60 hJ
        go_enter Try.func29, Try.ntmps29
        go_wp2_with first
          | (go_at_call 19; refine HVA.out.mono ?_; rintro e w1 ⟨rfl, hb1⟩; refine Stop.of ?_)
        refine Stop.go ?_
        go_wp2_with first
          | (go_at_call 19; refine (HVB.out _ hb1).mono ?_; rintro e w2 ⟨rfl, hb2⟩; refine Stop.of ?_)
        refine Stop.go ?_
        have HBW := hid (chain hb1 hb2)
        clear hb1 hb2 HVA HVB
        go_wp2_with first
          | (go_at_call 52; refine (HLA.out _ HBW.out).mono ?_; rintro e w3 ⟨vA, rfl, hoA, hb3⟩; refine Stop.of ?_)
        refine Stop.go ?_
        have HOA := hid (hoA.keep (S' := fun _ => True) (Keep.refl _ _ : Keep (fun _ => True) _ _) (fun _ _ _ => ⟨trivial, trivial⟩))
        have HB3 := hid hb3
        clear hoA hb3 HLA
        go_wp2_with first
          | (go_at_call 52; refine (HLB.out _ (chain HBW.out HB3.out)).mono ?_; rintro e w4 ⟨vB, rfl, hoB, hb4⟩; refine Stop.of ?_)
        refine Stop.go ?_
        have hA4 := HOA.out.below hb4
        have hB4 : FrmsO w4 w2.heap.size (fun _ => True) vB B := by
          rcases hoB.new (base := w2.heap.size) with h | h
          · exact h
          · have := HB3.out.size; omega
        obtain ⟨aA, cA, hvA⟩ := hA4.slice
        rw [HN1.out] at hvA
        subst hvA
        obtain ⟨xs, hoo, hgg, hoe⟩ := hA4
        obtain ⟨ys, hyo, hyg, hye⟩ := hB4
        have hoo' := hoo
        have hyo' := hyo
        rw [HN1.out] at hoo'
        rw [HN2.out] at hyo'
        rcases hyo'.2 with ⟨_, h3⟩ | ⟨g, cB, cur, rfl, hbg, hgg', hnc, hcm, hsz, htk⟩
        · omega
        have HNW := hid (show ∀ ad, (some ⟨g, 0, none⟩ : Option Addr) = some ad → ∀ j u, ys[j]? = some u → w4.cell? (ad.add j) = some u from fun ad e j u hu => by
          cases e
          rw [Addr.add_lit, Nat.zero_add]
          have hlt := (List.getElem?_eq_some_iff.1 hu).1
          have hyl := hyo'.1
          have hc := World.ownsRow.cellAt (w := w4) (base := w2.heap.size) (e := 50) (size := 2) (g := g) (n := n2) (cap := cB) (xs := ys) ⟨hyo'.1, .inr ⟨g, cB, cur, rfl, hbg, hgg', hnc, hcm, hsz, htk⟩⟩ j (by omega)
          rw [hc]; exact hu)
        have HONE := hid (show ∀ u ∈ ys, u.oneCell' = true from fun u hu => by
          obtain ⟨j, hj, rfl⟩ := List.getElem_of_mem hu
          have hyl := hyo.1
          obtain ⟨k1, u2, k2, a', n', c', e', _⟩ := hye (j / 2) (by omega)
          rcases Nat.mod_two_eq_zero_or_one j with hm | hm
          · rw [show j / 2 * 2 = j by omega, List.getElem?_eq_getElem hj] at k1
            simp only [Option.some.injEq] at k1
            rw [k1]; rfl
          · rw [show j / 2 * 2 + 1 = j by omega, List.getElem?_eq_getElem hj] at k2
            simp only [Option.some.injEq] at k2
            rw [k2, e']; rfl)
        have HOO := hid hoo
        have HOE := hid hoe
        have HOO' := hid hoo'
        have HYL := hid hyo'.1
        have HYE := hid hye
        have HB4 := hid (chain HB3.out hb4)
        have M1 := hid (show n1 + n2 ≤ maxLen from Nat.le_trans HN60.out (by decide))
        have M2 := hid (show (n1 + n2) * 32 ≤ 140737488355328 from Nat.le_trans (Nat.mul_le_mul_right 32 HN60.out) (by decide))
        have M3 := hid (chain HB3.out hb4).size
        clear hoo hgg hoe hoo' hyo hyg hye hyo' hbg hgg' hnc hcm hsz htk hoB hb4 HOA HLB
        go_wp2_with first
          | (at_builtin; refine wpList_app _ rfl (.tmp 25) (.tmp 27) 24 rfl w2.heap.size 50 (.agg #[.bool false, .slice none 0 0]) 2 32 Try.underlying24 info_frame rfl (by decide) (.slice aA n1 cA) n1 xs rfl HOO'.out (some ⟨g, 0, none⟩) n2 cB ys rfl HYL.out no_none HNW.out HONE.out M1.out M2.out M3.out ?_; intro a9 c9 w9 own9 g9; refine Stop.of ?_)
        refine Stop.go ?_
        have hfo := FrmsO.app (F := B) HOO.out HOE.out (by rw [HYL.out, HN2.out]) HYE.out (Below.refl _ _) g9 (by rw [HN1.out, HN2.out]; exact own9) (fun _ _ => trivial)
        rw [← HJ.out] at hfo
        have hB9 : Below w2.heap.size w2 w9 := HB4.out.grown g9 M3.out (fun q hq => (HOO'.out.lt q hq).1)
        obtain ⟨ua, uc, hue, hum, huf⟩ := hfo.reads
        have hue2 : c9 = uc ∧ a9 = ua := by
          simp only [Value.slice.injEq] at hue
          exact ⟨hue.2.2, hue.1⟩
        obtain ⟨rfl, rfl⟩ := hue2
        have HUF := hid huf
        have HUM := hid hum
        have HB9 := hid (chain HBW.out hB9)
        clear hfo hB9 own9 g9 hue huf hum
        go_wp2
        go_ret2
        rw [HNL.out]
        exact ⟨_, _, rfl, by have := HUM.out; rwa [HNL.out] at this, HUF.out, HB9.out⟩
end Go.Proofs.Ytkmjeegnijohmaa

namespace Go.Proofs.Ytkmjeegnijohmaa
open Go.RowKit
set_option linter.unusedVariables false

def TruthB (e : Ending) : Prop := ∃ b, e = .returned (.bool b)
theorem TruthB.mk (b : Bool) : TruthB (.returned (.bool b)) := ⟨b, rfl⟩

set_option maxHeartbeats 1000000 in
theorem l8fit_c (w : World) (a : Option Addr) (n cap : Nat) (M : Mask) (hn : M.length = n) (hm : n ≤ maxLen) (H : RowsAt w a M) :
    Calls Try.prog 6 #[.slice a n cap] w fun e w' => TruthB e ∧ w = w' := by
  have HN := hid hn
  have HH := hid H
  unfold maxLen at hm
  clear hn H
  go_enter Try.func6, Try.ntmps6
  go_wp2
  go_loop [7] (fun i => ∃ k : Nat, k ≤ n ∧ i = .int .i64 k) (fun i => n - (intOf i).toNat)
  case atStart => exact ⟨0, Nat.zero_le _, rfl⟩
  case round =>
    obtain ⟨k, hk, rfl⟩ := hrel
    by_cases hlt : k < n
    · obtain ⟨b, off, ra, rn, rc, rfl, hbs, hc, hrn, hrm, hri⟩ := HH.out k (by rw [HN.out]; exact hlt)
      clear hrn hri
      by_cases h1 : (6 : Int) < (rn : Int) <;> by_cases h2 : (rn : Int) ≤ 10 <;> by_cases h3 : (20 : Int) < (rn : Int)
      all_goals
        go_wp2
        first
          | (go_round
             case rel => exact ⟨k + 1, by omega, by go_num⟩
             case measure => simp [intOf]; omega)
          | (go_ret
             exact ⟨TruthB.mk _, rfl⟩)
    · go_wp2
      go_ret
      exact ⟨TruthB.mk _, rfl⟩

set_option maxHeartbeats 1000000 in
theorem l8frames_c (w : World) (a2 : Option Addr) (n2 cap2 : Nat) (L : List Frm) (hn2 : L.length = n2) (hm2 : n2 ≤ maxLen) (H2 : FramesAt w a2 L) (most : Nat) :
    Calls Try.prog 8 #[.slice a2 n2 cap2, .int .i64 most] w fun e w' => TruthB e ∧ Below w.heap.size w w' := by
  have HN := hid hn2
  have HH := hid H2
  unfold maxLen at hm2
  clear hn2 H2
  go_enter Try.func8, Try.ntmps8
  go_wp2
  go_loopw [9] (fun i wr => ∃ k : Nat, k ≤ n2 ∧ i = .int .i64 k ∧ Below w.heap.size w wr) (fun i _ => n2 - (intOf i).toNat)
  case atStart => exact ⟨0, Nat.zero_le _, rfl, Below.refl _ _⟩
  case round =>
    obtain ⟨k, hk, rfl, hb⟩ := hrel
    by_cases hlt : k < n2
    · obtain ⟨b, off, ra, rn, rc, rfl, hbs, h0, hc, hrn, hrm, hri⟩ := (HH.out.below hb) k (by rw [HN.out]; exact hlt)
      obtain ⟨K, hK⟩ : ∃ K, K = (L[k]'(by rw [HN.out]; exact hlt)).1 := ⟨_, rfl⟩
      rw [← hK] at h0
      have hba : ∀ o : Obj, Below w.heap.size w (wr.alloc o) := fun o => hb.alloc hb.size o
      have HBA := hid hba
      clear hrn hri hK hb hba
      by_cases h3 : (20 : Int) < (rn : Int)
      · go_wp2
        go_ret
        exact ⟨TruthB.mk _, HBA.out _⟩
      · go_wp2
        exact ⟨⟨k + 1, by omega, by go_num, HBA.out _⟩, by simp [intOf]; omega⟩
    · obtain rfl : k = n2 := by omega
      have HB := hid hb
      clear hb
      by_cases h1 : (k : Int) ≤ (most : Int) <;> by_cases h2 : (60 : Int) < (k : Int) <;> by_cases h3 : (k : Int) < 64
      all_goals
        go_wp2
        go_ret
        exact ⟨TruthB.mk _, HB.out⟩
end Go.Proofs.Ytkmjeegnijohmaa

namespace Go.Proofs.Ytkmjeegnijohmaa
open Go.ChangeShapes Go.WideShapes Go.ChangeAt Go.RowKit Go.Deep
set_option linter.unusedVariables false

def Fits64 (n : Int) : Prop := -9223372036854775808 ≤ n ∧ n ≤ 9223372036854775807
theorem fits64 {n : Int} (h : (Lit.int .i64 n).wf = true) : Fits64 n := by
  simpa [Fits64, Lit.wf, IntKind.min, IntKind.max, IntKind.signed, IntKind.bits] using h

theorem cell_plain {w : World} {a : Addr} {v : Value} (h : w.cell? a = some v) : a = ⟨a.block, a.off, none⟩ ∧ a.block < w.heap.size := by
  unfold World.cell? at h
  split at h
  · rename_i c _ _ hb
    obtain ⟨b, o, s⟩ := a
    cases s with
    | none => exact ⟨rfl, (Array.getElem?_eq_some_iff.1 hb).1⟩
    | some s => simp at h
  · simp at h

theorem add_plain (b o : Nat) (i : Nat) : (Addr.mk b o none).add i = ⟨b, o + i, none⟩ := by
  unfold Addr.add
  split
  · rename_i h; rw [h]; rfl
  · rfl

section
variable {H : Type} {enc : TypeId × Value → H} {P : Program} {w : World} {base : Nat} {held : Bool}

theorem ints_opened {e q : TypeId} {fuel : Nat} {a : Option Addr} {n cap : Nat} {x : DataW H × List MemPlace} (he : P.underlying e = some (.slice q)) (hq : P.underlying q = some (.int .i64)) (cq : P.cellsOf q = 1)
    (h : DataW.trod enc P w base (fun _ => true) held fuel e [.slice a n cap] = some x) : ∃ l : List Int, l.length = n ∧ n ≤ maxLen ∧ IntsAt w a l ∧ ∀ y ∈ l, Fits64 y := by
  rcases open_ints he hq cq h with ⟨hcs, _⟩ | ⟨x, l, c, zs, hcs, _, hl, hm, hz, _, hcell, hwz⟩
  · simp at hcs
    obtain ⟨rfl, rfl, rfl⟩ := hcs
    exact ⟨[], rfl, by decide, fun j hj => by simp at hj, fun y hy => by simp at hy⟩
  · simp at hcs
    obtain ⟨rfl, rfl, rfl⟩ := hcs
    simp only [if_true] at hz
    refine ⟨zs.take n, by rw [List.length_take]; omega, by omega, fun j hj => ?_, fun y hy => fits64 (hwz y (List.mem_of_mem_take hy))⟩
    rw [List.length_take] at hj
    have h0 := cell_plain (hcell 0 (by omega))
    simp only [Addr.add, if_true] at h0
    obtain ⟨b, o, s⟩ := x
    have hs : s = none := by have := h0.1; simp at this; exact this
    subst hs
    refine ⟨b, o, rfl, h0.2, ?_⟩
    have := hcell j (by omega)
    rw [add_plain] at this
    rw [this]
    simp [List.getElem?_take, show j < n by omega, List.getD]

theorem arg_rows {r : Reach} {b0 : Nat} {t e q : TypeId} {v : Value} {d : DataW H} {p : List MemPlace} (ht : P.underlying t = some (.slice e)) (ce : P.cellsOf e = 1) (he : P.underlying e = some (.slice q)) (hq : P.underlying q = some (.int .i64)) (cq : P.cellsOf q = 1)
    (hv : Value.okWide P w r b0 t v) (h : DataW.Trod enc P w base (fun _ => true) held t v d p) : ∃ a n cap, ∃ l : List (List Int), v = .slice a n cap ∧ l.length = n ∧ n ≤ maxLen ∧ RowsAt w a l ∧ ∀ y ∈ l, ∀ z ∈ y, Fits64 z := by
  obtain ⟨a, n, cap, rfl⟩ := okWide_slice ht hv
  obtain ⟨fuel, hf⟩ := h
  rcases open_slice1 ht ce (by simpa [Value.cells] using hf) with ⟨hcs, _⟩ | ⟨x, len, c', m, nn, V, D, Pl, hcs, _, hl, hm, hmm, _, hx⟩
  · simp at hcs
    obtain ⟨rfl, rfl, rfl⟩ := hcs
    exact ⟨none, 0, 0, [], rfl, rfl, by decide, fun j hj => by simp at hj, fun y hy => by simp at hy⟩
  simp at hcs
  obtain ⟨rfl, rfl, rfl⟩ := hcs
  simp only [if_true] at hmm
  have each : ∀ i, i < n → ∃ y : List Int × Option Addr × Nat × Nat, w.cell? (x.add i) = some (.slice y.2.1 y.2.2.1 y.2.2.2) ∧ y.1.length = y.2.2.1 ∧ y.2.2.1 ≤ maxLen ∧ IntsAt w y.2.1 y.1 ∧ (∀ z ∈ y.1, Fits64 z) := by
    intro i hi
    obtain ⟨hc, t0⟩ := hx i (by omega)
    have hsl : ∃ ra rn rc, V i = .slice ra rn rc := by
      rcases open_ints he hq cq t0 with ⟨hcs, _⟩ | ⟨x, l, c, zs, hcs, _⟩
      · simp at hcs; exact ⟨_, _, _, hcs⟩
      · simp at hcs; exact ⟨_, _, _, hcs⟩
    obtain ⟨ra, rn, rc, hV⟩ := hsl
    rw [hV] at hc t0
    obtain ⟨l, q1, q2, q3, q4⟩ := ints_opened he hq cq t0
    exact ⟨(l, ra, rn, rc), hc, q1, q2, q3, q4⟩
  haveI : Inhabited (List Int × Option Addr × Nat × Nat) := ⟨([], none, 0, 0)⟩
  obtain ⟨y, hy⟩ := choose_lt each
  refine ⟨some x, n, cap, (List.range n).map fun i => (y i).1, rfl, by simp, by omega, fun j hj => ?_, fun z hz => ?_⟩
  · have hjn : j < n := by simpa using hj
    have hp := cell_plain (hy 0 (by omega)).1
    simp only [Addr.add, if_true] at hp
    obtain ⟨b, o, s⟩ := x
    have hs' : s = none := by have := hp.1; simp at this; exact this
    subst hs'
    obtain ⟨r0, r3, r4, r5, r6⟩ := hy j hjn
    rw [add_plain] at r0
    refine ⟨b, o, (y j).2.1, (y j).2.2.1, (y j).2.2.2, rfl, hp.2, r0, ?_, r4, ?_⟩ <;> simp only [List.getElem_map, List.getElem_range] <;> assumption
  · obtain ⟨i, hi, rfl⟩ := List.mem_map.1 hz
    exact (hy i (List.mem_range.1 hi)).2.2.2.2
end
end Go.Proofs.Ytkmjeegnijohmaa

namespace Go.Proofs.Ytkmjeegnijohmaa
open Go.RowKit
set_option linter.unusedVariables false

theorem jE_ok {M : Mask} {A B : List Frm} (h : jE M A B = 0) : validB M A = true ∧ validB M B = true ∧ jL M A B = A ++ B ∧ validB M (A ++ B) = true := by
  have hL : jL M A B = A ++ B := by unfold jL; rw [if_pos h]
  unfold jE at h
  split at h
  · rename_i hv
    split at h
    · simp at h
    · rename_i h60
      refine ⟨hv.1, hv.2, hL, ?_⟩
      have hA := hv.1
      have hB := hv.2
      unfold validB inB at hA hB ⊢
      simp only [Bool.and_eq_true, decide_eq_true_eq, List.all_eq_true] at hA hB ⊢
      obtain ⟨⟨⟨hM, h1⟩, h2⟩, h3⟩ := hA
      obtain ⟨⟨⟨_, h1'⟩, h2'⟩, h3'⟩ := hB
      refine ⟨⟨⟨hM, by rw [List.length_append]; omega⟩, ?_⟩, fun f hf => ?_⟩
      · rw [List.getElem?_append_left (by omega)]; exact h2
      · rcases List.mem_append.1 hf with h | h
        · exact h3 f h
        · exact h3' f h
  · simp at h
theorem cost_all {M : Mask} {A B : List Frm} (h : jE M A B = 0) : vE M B = 0 ∧ vE M (jL M A B) = 0 ∧ costV M (jL M A B) = costV M A + costV M B ∧ costV M A ≤ 60000 ∧ costV M B ≤ 60000 := by
  obtain ⟨hA, hB, hL, hJ⟩ := jE_ok h
  have hb : ∀ F, validB M F = true → costF F ≤ 60000 := fun F hF => by
    obtain ⟨_, _, h60, hl⟩ := validB_ok hF
    have := costTo_le hl F.length (Nat.le_refl _)
    unfold costF
    omega
  rw [hL]
  refine ⟨by unfold vE; rw [hB]; rfl, by unfold vE; rw [hJ]; rfl, ?_, ?_, ?_⟩
  · unfold costV; rw [if_pos hA, if_pos hB, if_pos hJ, costF_app]
  · unfold costV; rw [if_pos hA]; exact hb A hA
  · unfold costV; rw [if_pos hB]; exact hb B hB

set_option maxRecDepth 100000 in
set_option maxHeartbeats 2000000 in
theorem streamJoined_c (w : World) (a : Option Addr) (n cap : Nat) (M : Mask) (hn : M.length = n) (hm : n ≤ maxLen) (H : RowsAt w a M) (_w0 : ∀ y ∈ M, ∀ z ∈ y, Fits64 z)
    (a1 : Option Addr) (n1 c1 : Nat) (A : List Frm) (hn1 : A.length = n1) (hm1 : n1 ≤ maxLen) (H1 : FramesAt w a1 A) (_w1 : ∀ y ∈ A, ∀ z ∈ y.2, Fits64 z)
    (a2 : Option Addr) (n2 c2 : Nat) (B : List Frm) (hn2 : B.length = n2) (hm2 : n2 ≤ maxLen) (H2 : FramesAt w a2 B) (_w2 : ∀ y ∈ B, ∀ z ∈ y.2, Fits64 z) :
    Calls Try.prog 5 #[.slice a n cap, .slice a1 n1 c1, .slice a2 n2 c2] w fun e w' => e = .returned (.bool true) ∧ Below w.heap.size w w' := by
  clear _w0 _w1 _w2
  have HFit := hid (l8fit_c w a n cap M hn hm H)
  have HF1 := hid (l8frames_c w a1 n1 c1 A hn1 hm1 H1 40)
  have HF2 := hid (fun (X : World) (hX : Below w.heap.size w X) => l8frames_c X a2 n2 c2 B hn2 hm2 (H2.below hX) 40)
  have HC1 := hid (fun (X : World) (hX : Below w.heap.size w X) => sCost_c X a a1 n cap n1 c1 M A hn hm (H.below hX) hn1 hm1 (H1.below hX))
  have HC2 := hid (fun (X : World) (hX : Below w.heap.size w X) => r8Cost_c X a a1 n cap n1 c1 M A hn hm (H.below hX) hn1 hm1 (H1.below hX))
  have HK1 := hid (fun (X : World) (hX : Below w.heap.size w X) => sKeys_c X a a1 n cap n1 c1 M A hn hm (H.below hX) hn1 hm1 (H1.below hX))
  have HK2 := hid (fun (X : World) (hX : Below w.heap.size w X) => r8Keys_c X a a1 n cap n1 c1 M A hn hm (H.below hX) hn1 hm1 (H1.below hX))
  have HJ1 := hid (fun (X : World) (hX : Below w.heap.size w X) => sJoined_c X a a1 a2 n cap n1 c1 n2 c2 M A B hn hm (H.below hX) hn1 hm1 (H1.below hX) hn2 hm2 (H2.below hX))
  have HJ2 := hid (fun (X : World) (hX : Below w.heap.size w X) => r8Joined_c X a a1 a2 n cap n1 c1 n2 c2 M A B hn hm (H.below hX) hn1 hm1 (H1.below hX) hn2 hm2 (H2.below hX))
  have HCB := hid (fun (X : World) (hX : Below w.heap.size w X) => sCost_c X a a2 n cap n2 c2 M B hn hm (H.below hX) hn2 hm2 (H2.below hX))
  have HCX := hid (fun (X : World) (hX : Below w.heap.size w X) (va : Option Addr) (vn vc : Nat) (L : List Frm) (hl : L.length = vn) (hlm : vn ≤ maxLen) (hf : FramesAt X va L) => sCost_c X a va n cap vn vc M L hn hm (H.below hX) hl hlm hf)
  have HOK := hid (fun (h : jE M A B = 0) => cost_all h)
  clear hn H hn1 H1 hn2 H2
  unfold maxLen at hm hm1 hm2
  obtain ⟨LX, hLX⟩ : ∃ L, L = jL M A B := ⟨_, rfl⟩
  obtain ⟨E, hE⟩ : ∃ E, E = jE M A B := ⟨_, rfl⟩
  obtain ⟨LK, hLK⟩ : ∃ L, L = keysV M A := ⟨_, rfl⟩
  obtain ⟨EA, hEA⟩ : ∃ E, E = vE M A := ⟨_, rfl⟩
  obtain ⟨CA, hCA⟩ : ∃ E, E = costV M A := ⟨_, rfl⟩
  obtain ⟨CB, hCB⟩ : ∃ E, E = costV M B := ⟨_, rfl⟩
  obtain ⟨EB, hEB⟩ : ∃ E, E = vE M B := ⟨_, rfl⟩
  rw [← hLX, ← hE] at HJ1 HJ2
  rw [← hLX, ← hE, ← hCA, ← hCB, ← hEB] at HOK
  rw [← hLK, ← hEA] at HK1 HK2
  rw [← hCA, ← hEA] at HC1 HC2
  rw [← hCB, ← hEB] at HCB
  have q1 : ((CA : Int) != (CA : Int)) = false := by simp
  have q2 : (EA != EA) = false := by simp
  have q3 : (E != E) = false := by simp
  clear hLX hE hLK hEA hCA hCB hEB
  go_enter Try.func5, Try.ntmps5
  go_wp2_with first
    | (go_at_call 6; refine HFit.out.mono ?_; rintro e w1 ⟨⟨b1, rfl⟩, rfl⟩; cases b1)
    | (go_at_call 9; refine (awake8_c _).mono ?_; rintro e w2 ⟨rfl, hb2⟩)
    | (go_at_call 8; refine HF1.out.mono ?_; rintro e w1 ⟨⟨b3, rfl⟩, hb1⟩; cases b3 <;> refine Stop.of ?_)
  · go_ret
    exact ⟨rfl, hb2⟩
  · refine Stop.go ?_
    go_wp2_with first
      | (go_at_call 9; refine (awake8_c _).mono ?_; rintro e w2 ⟨rfl, hb2⟩)
    go_ret
    exact ⟨rfl, chain hb1 hb2⟩
  · refine Stop.go ?_
    go_wp2_with first
      | (go_at_call 9; refine (awake8_c _).mono ?_; rintro e w2 ⟨rfl, hb2⟩)
      | (go_at_call 8; refine (HF2.out _ hb1).mono ?_; rintro e w1' ⟨⟨b3, rfl⟩, hb1'⟩; cases b3)
      | (go_at_call 25; refine (HC1.out _ (chain hb1 hb1')).mono ?_; rintro e w2 ⟨rfl, hb2⟩; refine Stop.of ?_)
    · go_ret
      exact ⟨rfl, chain (chain hb1 hb1') hb2⟩
    refine Stop.go ?_
    have HB2 := hid (chain (chain hb1 hb1') hb2)
    clear hb1 hb1' hb2 HFit HF1 HF2 HC1
    go_wp2_with (go_at_call 26; refine (HC2.out _ HB2.out).mono ?_; rintro e w3 ⟨rfl, hb3⟩; refine Stop.of ?_)
    refine Stop.go ?_
    have HB3 := hid (chain HB2.out hb3)
    clear hb3 HC2 HB2
    go_wp2_with (go_at_call 24; refine (HK1.out _ HB3.out).mono ?_; rintro e w4 ⟨ka, kc, rfl, hkm, hki, hb4⟩; refine Stop.of ?_)
    refine Stop.go ?_
    have HB4 := hid (chain HB3.out hb4)
    have HKI := hid hki
    have HKM := hid hkm
    clear hb4 HK1 HB3 hki hkm
    go_wp2_with (go_at_call 27; refine (HK2.out _ HB4.out).mono ?_; rintro e w5 ⟨la, lc, rfl, hlm, hli, hb5⟩; refine Stop.of ?_)
    refine Stop.go ?_
    have HB5 := hid (chain HB4.out hb5)
    have HKI5 := hid (HKI.out.below hb5)
    have HLI := hid hli
    clear hb5 HK2 HB4 hli hlm HKI
    go_wp2_with (go_at_call 28; refine (HJ1.out _ HB5.out).mono ?_; rintro e w6 ⟨xa, xc, rfl, hxm, hxf, hb6⟩; refine Stop.of ?_)
    refine Stop.go ?_
    have HB6 := hid (chain HB5.out hb6)
    have HKI6 := hid (HKI5.out.below hb6)
    have HLI6 := hid (HLI.out.below hb6)
    have HX := hid hxf
    have HXM := hid hxm
    clear hb6 HJ1 HB5 HKI5 HLI hxf hxm
    go_wp2_with (go_at_call 29; refine (HJ2.out _ HB6.out).mono ?_; rintro e w7 ⟨ya, yc, rfl, hym, hyf, hb7⟩; refine Stop.of ?_)
    refine Stop.go ?_
    have HB7 := hid (chain HB6.out hb7)
    have HX7 := hid (HX.out.below hb7)
    have HY7 := hid hyf
    have HSI := hid (s8Ints_t w7 ka la LK.length kc lc LK rfl HKM.out (HKI6.out.below hb7) (HLI6.out.below hb7))
    have HSF := hid (fun (X : World) (hX : Below w7.heap.size w7 X) => s8Frames_t X xa ya LX.length xc yc LX rfl HXM.out (HX7.out.below hX) (HY7.out.below hX))
    have HCL := hid (fun (X : World) (hX : Below w7.heap.size w7 X) => HCX.out X (chain HB7.out hX) xa LX.length xc LX rfl HXM.out (HX7.out.below hX))
    clear hb7 HJ2 HB6 HKI6 HLI6 HX hyf hym HY7 HCX
    go_wp2_with first
      | (go_at_call 21; refine HSI.out.mono ?_; rintro e w8 ⟨rfl, hb8⟩)
      | (go_at_call 20; refine (HSF.out _ hb8).mono ?_; rintro e w9 ⟨rfl, hb9⟩; refine Stop.of ?_)
    refine Stop.go ?_
    have HB9 := hid (chain hb8 hb9)
    clear hb8 hb9 HSI HSF
    by_cases hE0 : E = 0
    · obtain ⟨e1, e2, e3, e4, e5⟩ := HOK.out hE0
      rw [e2, e3] at HCL
      rw [e1] at HCB
      have hEn : (E != 0) = false := by simp [hE0]
      obtain ⟨z, hz⟩ : ∃ z : Int, z = ((CA + CB : Nat) : Int) := ⟨_, rfl⟩
      have hw : wrap64 ((CA : Int) + (CB : Int)) = z := by rw [hz]; unfold wrap64; omega
      have hw2 : IntKind.i64.wrap ((CA : Int) + (CB : Int)) = z := by rw [IntWalk.i64_left]; exact hw
      have hzz : (z == z) = true := by simp
      rw [← hz] at HCL
      clear hE0 HOK e1 e2 e3 e4 e5 hz
      go_wp2_with first
        | (go_at_call 25; refine (HCB.out _ (chain HB7.out HB9.out)).mono ?_; rintro e w10 ⟨rfl, hb10⟩; refine Stop.of ?_)
      refine Stop.go ?_
      have HB10 := hid (chain HB9.out hb10)
      clear hb10 HB9 HCB
      go_wp2_with first
        | (go_at_call 25; refine (HCL.out _ HB10.out).mono ?_; rintro e w11 ⟨rfl, hb11⟩; refine Stop.of ?_)
      refine Stop.go ?_
      have HB11 := hid (chain HB10.out hb11)
      clear hb11 HB10 HCL
      go_wp2_with first
        | (go_at_call 9; refine (awake8_c _).mono ?_; rintro e w12 ⟨rfl, hb12⟩)
      go_ret
      exact ⟨rfl, chain (chain HB7.out HB11.out) hb12⟩
    · have hEn : (E != 0) = true := by simp [hE0]
      clear hE0 HOK HCL HCB
      go_wp2_with first
        | (go_at_call 9; refine (awake8_c _).mono ?_; rintro e w12 ⟨rfl, hb12⟩)
      go_ret
      exact ⟨rfl, chain (chain HB7.out HB9.out) hb12⟩
end Go.Proofs.Ytkmjeegnijohmaa

namespace Go.Proofs.Ytkmjeegnijohmaa
open Go.ChangeShapes Go.WideShapes Go.ChangeAt Go.RowKit Go.Deep
set_option linter.unusedVariables false

section
variable {H : Type} {enc : TypeId × Value → H} {P : Program} {w : World} {base : Nat} {held : Bool}
theorem arg_frames {r : Reach} {b0 : Nat} {t c q : TypeId} {f0 f1 : Field} {v : Value} {d : DataW H} {p : List MemPlace} (ht : P.underlying t = some (.slice c)) (hs : P.underlying c = some (.struct #[f0, f1])) (hone : oneCellFields P #[f0, f1] = true) (hC : P.cellsOf c = 2)
    (he0 : P.underlying f0.type = some .bool) (he1 : P.underlying f1.type = some (.slice q)) (hq : P.underlying q = some (.int .i64)) (cq : P.cellsOf q = 1)
    (hv : Value.okWide P w r b0 t v) (h : DataW.Trod enc P w base (fun _ => true) held t v d p) : ∃ a n cap, ∃ l : List Frm, v = .slice a n cap ∧ l.length = n ∧ n ≤ maxLen ∧ FramesAt w a l ∧ ∀ y ∈ l, ∀ z ∈ y.2, Fits64 z := by
  obtain ⟨a, n, cap, rfl⟩ := okWide_slice ht hv
  obtain ⟨fuel, hf⟩ := h
  rcases open_slice ht (by simpa [Value.cells] using hf) with ⟨hcs, _⟩ | ⟨x, len, c', m, nn, D, Pl, hcs, _, hl, hm, hmm, _, hx⟩
  · simp at hcs
    obtain ⟨rfl, rfl, rfl⟩ := hcs
    exact ⟨none, 0, 0, [], rfl, rfl, by decide, fun j hj => by simp at hj, fun y hy => by simp at hy⟩
  simp at hcs
  obtain ⟨rfl, rfl, rfl⟩ := hcs
  simp only [if_true] at hmm
  obtain ⟨o0, k0⟩ := hone_of hone 0 f0 rfl
  obtain ⟨o1, k1⟩ := hone_of hone 1 f1 rfl
  have hsl : ∀ {fuel : Nat} {e : TypeId} (he : P.underlying e = some (.slice q)) {v0 : Value} {x : DataW H × List MemPlace}, DataW.trod enc P w base (fun _ => true) held fuel e [v0] = some x → ∃ ra rn rc, v0 = .slice ra rn rc := by
    intro fuel e he v0 x k0
    rcases open_ints he hq cq k0 with ⟨hcs, _⟩ | ⟨x, l, c, zs, hcs, _⟩
    · simp at hcs; exact ⟨_, _, _, hcs⟩
    · simp at hcs; exact ⟨_, _, _, hcs⟩
  have each : ∀ i, i < n → ∃ y : Frm × (Option Addr × Nat × Nat), w.cell? (x.add (i * 2)) = some (.bool y.1.1) ∧ w.cell? ((x.add (i * 2)).add 1) = some (.slice y.2.1 y.2.2.1 y.2.2.2) ∧
      y.1.2.length = y.2.2.1 ∧ y.2.2.1 ≤ maxLen ∧ IntsAt w y.2.1 y.1.2 ∧ (∀ z ∈ y.1.2, Fits64 z) := by
    intro i hi
    obtain ⟨cs', hc, htr⟩ := hx i (by omega)
    rw [hC] at hc
    obtain ⟨_, hlen, hcell⟩ := World.cells?_some hc
    match cs', hlen with
    | [c0, c1], _ =>
      obtain ⟨y0, y1, n', _, _, t0, t1⟩ := trod_struct2 hs htr
      rw [o0, k0] at t0
      rw [o1, k1] at t1
      simp at t0 t1
      obtain ⟨kf, e0, _⟩ := DataW.trod_bool he0 t0
      simp at e0
      subst e0
      obtain ⟨ra, rn, rc, rfl⟩ := hsl he1 t1
      obtain ⟨l1, q1, q2, q3, q4⟩ := ints_opened he1 hq cq t1
      have hc0 := hcell 0 (by omega)
      rw [show (x.add (i * 2)).add 0 = x.add (i * 2) from rfl] at hc0
      exact ⟨((kf, l1), (ra, rn, rc)), by simpa using hc0, by simpa using hcell 1 (by omega), q1, q2, q3, q4⟩
  haveI : Inhabited (Frm × (Option Addr × Nat × Nat)) := ⟨((false, []), (none, 0, 0))⟩
  obtain ⟨y, hy⟩ := choose_lt each
  refine ⟨some x, n, cap, (List.range n).map fun i => (y i).1, rfl, by simp, by omega, fun j hj => ?_, fun z hz => ?_⟩
  · have hjn : j < n := by simpa using hj
    have hp := cell_plain (hy 0 (by omega)).1
    simp only [Addr.add, Nat.zero_mul, if_true] at hp
    obtain ⟨b, o, s⟩ := x
    have hs' : s = none := by have := hp.1; simp at this; exact this
    subst hs'
    obtain ⟨r0, r1, r3, r4, r5, r6⟩ := hy j hjn
    rw [add_plain] at r0 r1
    rw [add_plain] at r1
    refine ⟨b, o, (y j).2.1, (y j).2.2.1, (y j).2.2.2, rfl, hp.2, ?_, r1, ?_, r4, ?_⟩ <;> simp only [List.getElem_map, List.getElem_range] <;> assumption
  · obtain ⟨i, hi, rfl⟩ := List.mem_map.1 hz
    obtain ⟨r0, r1, r3, r4, r5, r6⟩ := hy i (List.mem_range.1 hi)
    exact r6
end
end Go.Proofs.Ytkmjeegnijohmaa
