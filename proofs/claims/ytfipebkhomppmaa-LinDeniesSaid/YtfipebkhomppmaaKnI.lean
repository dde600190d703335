/- Plain: the value of a known pixel is the same of the program and of the reference. · Walks: every, Read, Any, Possible (reference 03). · Walk: Value (package lin). · Walk: Value (reference 03). -/
import Derived.Test.YtfipebkhomppmaaKnF
import Derived.Test.YtfipebkhomppmaaRatG
import Derived.WalkSpells
namespace Go.Proofs.Ytfipebkhomppmaa
section
set_option linter.unusedVariables false

theorem dotV_confZ {M : Mask} (hok : okM M = true) {y : List Int} {q : Nat} (hq : q < M.length) : dotV (confZ M (colsM M) q) y = dotY (colsM M) (rowv (RE M (colsM M)) q) (vec y) M.length := by
  have hl := (confZ_len hok hq).1
  unfold dotV dotY
  rw [hl]
  refine sm_congr fun i _ => ?_
  unfold confZ
  rw [vec_drop]; rfl
theorem conf_none_iff {M : Mask} (hok : okM M = true) {y : List Int} : conflictF M y = none ↔ ¬ confF M (colsM M) y := by
  unfold conflictF confF
  rw [Option.map_eq_none_iff, List.find?_eq_none]
  constructor
  · rintro h ⟨q, h1, h2, h3⟩
    have := h q (by rw [List.mem_range'_1]; omega)
    rw [dotV_confZ hok h2] at this
    simp at this
    exact h3 this
  · intro h q hq
    rw [List.mem_range'_1] at hq
    have h2 : q < M.length := by omega
    rw [dotV_confZ hok h2]
    simp only [decide_eq_true_eq]
    exact fun h3 => h ⟨q, hq.1, h2, h3⟩

theorem foldl_set_len {α : Type} (f : Nat → α) (g : Nat → Nat) (l : List α) : ∀ (K : Nat), ((List.range K).foldl (fun out i => out.set (g i) (f i)) l).length = l.length
  | 0 => by simp
  | K + 1 => by rw [List.range_succ, List.foldl_append]; simp [foldl_set_len f g l K]
theorem foldl_set_at {α : Type} (f : Nat → α) (g : Nat → Nat) (l : List α) : ∀ (K i : Nat), i < K → g i < l.length → (∀ a b, a < b → b < K → g a ≠ g b) → ((List.range K).foldl (fun out i => out.set (g i) (f i)) l)[g i]? = some (f i)
  | 0, i, h, _, _ => by omega
  | K + 1, i, h, hl, hd => by
    rw [List.range_succ, List.foldl_append]
    simp only [List.foldl_cons, List.foldl_nil]
    by_cases e : i = K
    · subst e
      rw [List.getElem?_set_self (by rw [foldl_set_len]; exact hl)]
    · rw [List.getElem?_set_ne (fun e2 => hd i K (by omega) (by omega) e2.symm)]
      exact foldl_set_at f g l K i (by omega) hl (fun a b h1 h2 => hd a b h1 (by omega))

theorem solved_conf {M : Mask} {y : List Int} (hok : okM M = true) (hy : y.length = M.length) : (solvedR (withY M y) (colsM M)).2.2 = (conflictF M y).isNone := by
  obtain ⟨hM, _⟩ := okM_ok hok
  have h1 := conf_none_iff hok (y := y)
  have h2 := hM.conf_iff hy
  unfold solvedR
  simp only []
  by_cases h : colsM M ∈ (rRed (withY M y) (colsM M + 1)).piv
  · rw [if_pos h]
    have : conflictF M y ≠ none := fun e => h1.1 e (h2.2 h)
    cases e : conflictF M y with
    | none => exact absurd e this
    | some z => rfl
  · rw [if_neg h, h1.2 (fun e => h (h2.1 e))]; rfl

theorem solved_at {M : Mask} {y : List Int} (hok : okM M = true) (hy : y.length = M.length) (hc : conflictF M y = none) {p : Nat} (hp : p < colsM M) {z : List Int} {c : Int} (hw : weightF M (colsM M) p = some (z, c)) :
    (solvedR (withY M y) (colsM M)).1[p]? = some (ofF (dotV z y) c) := by
  obtain ⟨hM, _⟩ := okM_ok hok
  have hnc := (conf_none_iff hok).1 hc
  have hnp : colsM M ∉ (rRed (withY M y) (colsM M + 1)).piv := fun hm => hnc ((hM.conf_iff hy).2 hm)
  obtain ⟨hzl, _, hc1, _, _, k, hk, hce, hdot⟩ := hM.weight hw
  obtain ⟨i, hi, hji, hpos, heq⟩ := hM.value hy hk hp hnc
  have hd : dotV z y = dotY (colsM M) (rowv (RE M (colsM M)) k) (vec y) M.length := by
    rw [← hdot]; unfold dotV; rw [hzl]
  have hww : ∀ r ∈ withY M y, r.length = colsM M + 1 := fun r hr => by
    obtain ⟨r', h1, v, _, rfl⟩ := withY_mem hr
    simp [hM.wid r' h1]
  obtain ⟨kk, hkk⟩ := rRed_inv (withY M y) hww (colsM M + 1)
  unfold solvedR
  simp only []
  rw [if_neg hnp]
  have := foldl_set_at (fun i => ratioF (vec ((rRed (withY M y) (colsM M + 1)).done[i]?.getD []) (colsM M)) (vec ((rRed (withY M y) (colsM M + 1)).done[i]?.getD []) (jf (rRed (withY M y) (colsM M + 1)).piv i))) (fun i => jf (rRed (withY M y) (colsM M + 1)).piv i) (List.replicate (colsM M) (0, 1)) (rRed (withY M y) (colsM M + 1)).piv.length i hi (by simp only [List.length_replicate]; rw [hji]; exact hp)
    (fun a b h1 h2 => by have := kk.ech.asc a b h1 h2; omega)
  rw [hji] at this
  rw [this, ofF_pos (by omega)]
  congr 1
  refine ratioF_eq hpos (by omega) ?_
  rw [hd, hce]
  exact heq.symm

/-- the value as the reference has it -/
def valueR (M : Mask) (y : List Int) (p : Int) : Rt × Int :=
  if checkE M y [p] = 0 then
    (if knB M p.toNat = true then (if (solvedR (withY M y) (colsM M)).2.2 = true then ((solvedR (withY M y) (colsM M)).1[p.toNat]?.getD (0, 0), 0) else ((0, 0), 10)) else ((0, 0), 8))
  else ((0, 0), checkE M y [p])
theorem value_same (M : Mask) (y : List Int) (p : Int) : valueV M y p = valueR M y p := by
  unfold valueV valueR
  by_cases h : checkE M y [p] = 0
  · rw [if_pos h, if_pos h]
    obtain ⟨hok, hyl, hmil, hso⟩ := check_ok h
    have hpb := hso.2 p (by simp)
    unfold knB
    cases hw : weightF M (colsM M) p.toNat with
    | none => rfl
    | some x =>
      obtain ⟨z, c⟩ := x
      simp only [Option.isSome_some, if_true]
      rw [solved_conf hok hyl]
      cases hc : conflictF M y with
      | some u => simp
      | none =>
        simp only [Option.isNone_none, if_true]
        rw [solved_at hok hyl hc (by omega) hw]; rfl
  · rw [if_neg h, if_neg h]
end

section
open Go.RowKit
set_option linter.unusedVariables false

theorem allI_ok (n : Nat) : SetOk n (allI n) := by
  refine ⟨?_, fun j hj => ?_⟩
  · unfold allI
    rw [List.pairwise_map]
    exact List.pairwise_lt_range.imp fun h => by omega
  · exact allI_mem hj

theorem r3every_c (w : World) (a : Option Addr) (N cap : Nat) (M : Mask) (hN : M.length = N) (H : RowsAt w a M) (hok : okM M = true) :
    Calls Try.prog 148 #[.slice a N cap] w fun e w' => ∃ v, e = .returned v ∧ w'.ownsRow w.heap.size 3 1 v (colsM M) ((allI (colsM M)).map (Value.int .i64)) ∧ Below w.heap.size w w' := by
  obtain ⟨hM, h1, h6, hc1, hc10⟩ := okM_ok hok
  obtain ⟨b, off, ra, rc, rfl, hb, hc⟩ := rows_head H (by omega)
  obtain ⟨n, hn⟩ : ∃ n, n = colsM M := ⟨_, rfl⟩
  rw [← hn] at hc hc10 ⊢
  have i0 : (0 : Int) < (N : Int) := by omega
  clear hM hN H hok h1 h6 hn
  go_enter Try.func148, Try.ntmps148
  go_wp2
  clear hc
  go_loopw [3, 9] (fun v i wr => ∃ k : Nat, k ≤ n ∧ i = .int .i64 k ∧ wr.ownsRow w.heap.size 3 1 v k ((allI k).map (Value.int .i64)) ∧ Below w.heap.size w wr) (fun _ i _ => n - (intOf i).toNat)
  case atStart => exact ⟨0, Nat.zero_le _, rfl, World.ownsRow_nil _ _ _ _, Below.refl _ _⟩
  case round =>
    obtain ⟨k, hk, rfl, hown, hbk⟩ := hrel
    by_cases hlt : k < n
    · obtain ⟨va, vc, rfl⟩ := ownsRow_slice hown
      have HO := hid hown
      have M1 := hid (show k + 1 ≤ maxLen by unfold maxLen; omega)
      have M2 := hid (show (k + 1) * 8 ≤ 140737488355328 by omega)
      have M3 := hid (Nat.le_trans hbk.size (le_alloc wr (.cells #[.int .i64 (k : Int)] 3)))
      clear hown
      go_wp2_with (at_builtin; refine wpList_app _ rfl (.tmp 12) (.tmp 14) 31 rfl w.heap.size 3 (.int .i64 0) 1 8 Try.underlying31 li_int rfl Nat.one_pos (.slice va k vc) k _ rfl (HO.out.alloc _) (some ⟨wr.heap.size, 0, none⟩) 1 1 [.int .i64 (k : Int)] rfl rfl no_none (one_news wr _ _) (li_one _) M1.out M2.out M3.out ?_; refine Stop.of ?_)
      refine Stop.go ?_
      intro a3 c3 w3 own3 g3
      have hB3 : Below w.heap.size w w3 := (hbk.alloc hbk.size _).grown g3 M3.out (fun k hk => (HO.out.lt k hk).1)
      go_wp2
      refine ⟨⟨k + 1, by omega, by go_num, ?_, hB3⟩, by simp [intOf]; omega⟩
      rw [allI_succ]
      simpa using own3
    · obtain rfl : k = n := by omega
      go_wp2
      go_ret
      exact ⟨_, rfl, hown, hbk⟩

/-- the error of a mask and a reading -/
def rdE (M : Mask) (y : List Int) : Int := if okM M = true then readE M y else 1
theorem rd_check (M : Mask) (y : List Int) : rdE M y = checkE M y [] := by
  unfold rdE checkE readE pixE namedE
  cases okM M <;> simp [ascB]
theorem rd_ok {M : Mask} {y : List Int} (h : rdE M y = 0) : okM M = true ∧ y.length = M.length ∧ milB y = true := by
  rw [rd_check] at h
  obtain ⟨h1, h2, h3, _⟩ := check_ok h
  exact ⟨h1, h2, h3⟩

theorem r3Read_c (w : World) (a a2 : Option Addr) (n cap n2 cap2 : Nat) (M : Mask) (y : List Int) (hn : M.length = n) (hn2 : y.length = n2) (hm : n ≤ maxLen) (hm2 : n2 ≤ maxLen) (H : RowsAt w a M) (H2 : IntsAt w a2 y) :
    Calls Try.prog 99 #[.slice a n cap, .slice a2 n2 cap2] w fun e w' => e = .returned (.int .i64 (rdE M y)) ∧ w = w' := by
  have HV := hid (r2Valid_c w a n cap M hn hm H)
  have HR := hid (r3reading_c w a2 n cap n2 cap2 M y a hn hn2 hm2 H2)
  unfold rdE
  cases hok : okM M
  · rw [hok] at HV
    simp only [Bool.false_eq_true, if_false]
    clear hn hn2 H H2 hok HR
    go_enter Try.func99, Try.ntmps99
    go_wp2_with (go_at_call 64; refine HV.out.mono ?_; rintro e w1 ⟨rfl, rfl⟩)
    go_ret
    exact ⟨rfl, rfl⟩
  · rw [hok] at HV
    simp only [if_true]
    clear hn hn2 H H2 hok
    go_enter Try.func99, Try.ntmps99
    go_wp2_with (go_at_call 64; refine HV.out.mono ?_; rintro e w1 ⟨rfl, rfl⟩; refine Stop.of ?_)
    refine Stop.go ?_
    go_wp2_with (go_at_call 93; refine HR.out.mono ?_; rintro e w1 ⟨rfl, rfl⟩; refine Stop.of ?_)
    refine Stop.go ?_
    go_wp2
    go_ret
    exact ⟨rfl, rfl⟩

/-- the picture that makes a reading, and the error -/
def anyV (M : Mask) (y : List Int) : List Rt × Int :=
  if rdE M y = 0 then (if (solvedR (withY M y) (colsM M)).2.2 = true then ((solvedR (withY M y) (colsM M)).1, 0) else ([], 10)) else ([], rdE M y)

set_option maxRecDepth 100000 in
set_option maxHeartbeats 4000000 in
theorem r3Any_c (w : World) (a a2 : Option Addr) (n cap n2 cap2 : Nat) (M : Mask) (y : List Int) (hn : M.length = n) (hn2 : y.length = n2) (hm : n ≤ maxLen) (hm2 : n2 ≤ maxLen) (H : RowsAt w a M) (H2 : IntsAt w a2 y) :
    Calls Try.prog 112 #[.slice a n cap, .slice a2 n2 cap2] w fun e w' => ∃ v base, e = .returned (.tuple #[v, .int .i64 (anyV M y).2]) ∧ w.heap.size ≤ base ∧ RatsO w' base v (anyV M y).1 ∧ Below w.heap.size w w' := by
  have HR := hid (r3Read_c w a a2 n cap n2 cap2 M y hn hn2 hm hm2 H H2)
  by_cases h0 : rdE M y = 0
  · obtain ⟨hok, hyl, hmil⟩ := rd_ok h0
    obtain ⟨hM, h1, h6, hc1, hc10⟩ := okM_ok hok
    have hav : anyV M y = (if (solvedR (withY M y) (colsM M)).2.2 = true then ((solvedR (withY M y) (colsM M)).1, 0) else ([], 10)) := by unfold anyV; rw [if_pos h0]
    rw [h0] at HR
    have HE := hid (fun (X : World) (hX : Below w.heap.size w X) => r3every_c X a n cap M hn (H.below hX) hok)
    obtain rfl : n2 = n := by omega
    have HSO := hid (fun (X : World) (hX : Below w.heap.size w X) (ea : Option Addr) (ec : Nat) (hI : IntsAt X ea (allI (colsM M))) => r3solved_c X a ea a2 n2 cap (colsM M) ec cap2 M (allI (colsM M)) y hn (allI_len _) hn2 (H.below hX) hI (H2.below hX) hok hmil (allI_ok _))
    rw [cols_all hM.wid] at HSO
    obtain ⟨⟨S1, S2, S3⟩, hS⟩ : ∃ S, S = solvedR (withY M y) (colsM M) := ⟨_, rfl⟩
    rw [← hS] at HSO hav
    obtain ⟨⟨A1, A2⟩, hA⟩ : ∃ A, A = anyV M y := ⟨_, rfl⟩
    rw [← hA] at hav ⊢
    obtain ⟨W, hW⟩ : ∃ W, W = colsM M := ⟨_, rfl⟩
    rw [← hW] at HSO HE
    simp only [] at HSO hav ⊢
    have HAV := hid hav
    have HAL := hid (allI_len W)
    clear hn hn2 H H2 hok hyl hmil hM h1 h6 hc1 hc10 hav hS hA hW h0
    go_enter Try.func112, Try.ntmps112
    go_wp2_with (go_at_call 99; refine HR.out.mono ?_; rintro e w1 ⟨rfl, rfl⟩; refine Stop.of ?_)
    refine Stop.go ?_
    have HB1 := hid (Below.refl w.heap.size w)
    go_wp2_with (go_at_call 148; refine (HE.out _ HB1.out).mono ?_; rintro e w2 ⟨v2, rfl, ho2, hb2⟩; refine Stop.of ?_)
    refine Stop.go ?_
    obtain ⟨ea, ec, rfl, hi2, _⟩ := ints_of_own ho2 HAL.out
    have HB2 := hid (chain HB1.out hb2)
    have HS2 := hid (HSO.out _ HB2.out ea ec hi2)
    clear hb2 ho2 hi2 HSO HE HR
    go_wp2_with (go_at_call 94; refine HS2.out.mono ?_; rintro e w3 ⟨v, base, rfl, hbs, hO, hb3⟩; refine Stop.of ?_)
    refine Stop.go ?_
    have hb := chain HB2.out hb3
    have hbs' : w.heap.size ≤ base := Nat.le_trans HB2.out.size hbs
    obtain ⟨va, vc, rfl⟩ := ownsRow_slice hO
    have HO := hid hO
    have HBF := hid hb
    clear hb3 hbs hO hb
    cases S3
    · obtain ⟨rfl, rfl⟩ := Prod.mk.inj (HAV.out.trans (if_neg (by decide)))
      go_wp2
      go_ret2
      first | exact ⟨.slice none 0 0, w.heap.size, rfl, Nat.le_refl _, RatsO.nil _ _, HBF.out⟩ | exact ⟨.slice none 0 0, rfl, w.heap.size, Nat.le_refl _, RatsO.nil _ _, HBF.out⟩
    · obtain ⟨rfl, rfl⟩ := Prod.mk.inj (HAV.out.trans (if_pos rfl))
      go_wp2
      go_ret2
      first | exact ⟨_, base, rfl, hbs', HO.out, HBF.out⟩ | exact ⟨_, rfl, base, hbs', HO.out, HBF.out⟩
  · have hav : anyV M y = ([], rdE M y) := by unfold anyV; rw [if_neg h0]
    rw [hav]
    obtain ⟨E, hE⟩ : ∃ E, E = rdE M y := ⟨_, rfl⟩
    rw [← hE] at HR h0 ⊢
    have hpb : (E != 0) = true := by simpa using h0
    clear hn hn2 H H2 hav hE
    go_enter Try.func112, Try.ntmps112
    go_wp2_with (go_at_call 99; refine HR.out.mono ?_; rintro e w1 ⟨rfl, rfl⟩)
    go_ret2
    exact ⟨.slice none 0 0, w.heap.size, rfl, Nat.le_refl _, RatsO.nil _ _, Below.refl w.heap.size w⟩
end

section
open Go.RowKit
set_option linter.unusedVariables false

theorem value_none {M : Mask} {y : List Int} {q : Nat} (h : checkE M y [(q : Int)] = 0) (hw : weightF M (colsM M) q = none) : valueV M y (q : Int) = ((0, 0), 8) := by
  unfold valueV
  rw [if_pos h, show ((q : Int)).toNat = q by omega, hw]
theorem value_conf {M : Mask} {y : List Int} {q : Nat} {z u : List Int} {c : Int} (h : checkE M y [(q : Int)] = 0) (hw : weightF M (colsM M) q = some (z, c)) (hc : conflictF M y = some u) : valueV M y (q : Int) = ((0, 0), 10) := by
  unfold valueV
  rw [if_pos h, show ((q : Int)).toNat = q by omega, hw, hc]
theorem value_ok {M : Mask} {y : List Int} {q : Nat} {z : List Int} {c : Int} (h : checkE M y [(q : Int)] = 0) (hw : weightF M (colsM M) q = some (z, c)) (hc : conflictF M y = none) : valueV M y (q : Int) = (ofF (dotV z y) c, 0) := by
  unfold valueV
  rw [if_pos h, show ((q : Int)).toNat = q by omega, hw, hc]

set_option maxRecDepth 100000 in
set_option maxHeartbeats 400000 in
theorem lvalue_c (w : World) (a a2 : Option Addr) (n cap n2 cap2 : Nat) (M : Mask) (y : List Int) (hn : M.length = n) (hn2 : y.length = n2) (hm : n ≤ maxLen) (hm2 : n2 ≤ maxLen) (H : RowsAt w a M) (H2 : IntsAt w a2 y) (p : Int) :
    Calls Try.prog 53 #[.slice a n cap, .slice a2 n2 cap2, .int .i64 p] w fun e w' => e = .returned (.tuple #[ratV (valueV M y p).1, .int .i64 (valueV M y p).2]) ∧ Below w.heap.size w w' := by
  obtain ⟨s, hs⟩ : ∃ s, s = w.heap.size := ⟨_, rfl⟩
  obtain ⟨wf, hwf⟩ : ∃ wf, wf = (w.alloc (.cells #[.int .i64 0, .int .i64 0] 46)).alloc (.cells #[.int .i64 p] 3) := ⟨_, rfl⟩
  have hb0 : Below w.heap.size w wf := by rw [hwf]; exact ((Below.refl _ _).alloc (Nat.le_refl _) _).alloc (by simp) _
  have hI : IntsAt wf (some ⟨s + 1, 0, none⟩) [p] := by
    intro j hj
    obtain rfl : j = 0 := by simpa using hj
    refine ⟨s + 1, 0, rfl, by rw [hwf, hs]; simp, ?_⟩
    rw [hwf, World.cell?_alloc_at _ _ _ _ (by rw [hs]; simp)]; rfl
  have hq0 : wf.heap[s]? = some (.cells #[.int .i64 0, .int .i64 0] 46 (0, 0)) := by
    rw [hwf, hs]
    have h1 : (w.alloc (.cells #[.int .i64 0, .int .i64 0] 46)).heap[w.heap.size]? = some (.cells #[.int .i64 0, .int .i64 0] 46 (0, 0)) := World.alloc_heap_new w _
    exact (((Below.refl _ (w.alloc (.cells #[.int .i64 0, .int .i64 0] 46))).alloc (Nat.le_refl _) (.cells #[.int .i64 p] 3)).block _ (by simp)).trans h1
  have hsf : s < wf.heap.size := (Array.getElem?_eq_some_iff.1 hq0).1
  have HS := hid (fun (X : World) (hX : Below wf.heap.size wf X) => show X.cell? ⟨s, 0, none⟩ = some (.int .i64 0) ∧ X.cell? ⟨s, 1, none⟩ = some (.int .i64 0) ∧ X.frozen? ⟨s, 0, none⟩ = false ∧ X.frozen? ⟨s, 1, none⟩ = false ∧ s < X.heap.size from by
    have h1 := (hX.block s hsf).trans hq0
    exact ⟨by simp [World.cell?, h1], by simp [World.cell?, h1], by simp [World.frozen?, h1], by simp [World.frozen?, h1], (Array.getElem?_eq_some_iff.1 h1).1⟩)
  have HCK := hid (check_c wf a a2 (some ⟨s + 1, 0, none⟩) n cap n2 cap2 1 1 M y [p] hn hn2 rfl hm hm2 (by decide) (H.below hb0) (H2.below hb0) hI)
  have HB0 := hid hb0
  have HSS := hid hs
  have HFIN := hid (fun (X : World) (hX : Below wf.heap.size wf X) (u v : Value) => show Below w.heap.size w ((X.setCell ⟨s, 0, none⟩ u).setCell ⟨s, 1, none⟩ v) from
    below_set (below_set (chain hb0 hX) (by rw [← hs]; exact Nat.le_refl s) 0 u) (by rw [← hs]; exact Nat.le_refl s) 1 v)
  have hv : ∀ r, valueV M y p = r → ∀ e : Ending, e = .returned (.tuple #[ratV r.1, .int .i64 r.2]) → e = .returned (.tuple #[ratV (valueV M y p).1, .int .i64 (valueV M y p).2]) := by rintro _ rfl e h; exact h
  by_cases hck : checkE M y [p] = 0
  · rw [hck] at HCK
    obtain ⟨hok, hyl, hmil, hso⟩ := check_ok hck
    have hpb := hso.2 p (by simp)
    obtain ⟨q, rfl⟩ : ∃ q : Nat, p = (q : Int) := ⟨p.toNat, by omega⟩
    have hqW : q < colsM M := by omega
    obtain ⟨hM, h1, h6, hc1, hc10⟩ := okM_ok hok
    have HWT := hid (fun (X : World) (hX : Below wf.heap.size wf X) => weight_c X a n cap M hn (H.below (chain hb0 hX)) hok q hqW)
    obtain rfl : n = n2 := by omega
    have HCF := hid (fun (X : World) (hX : Below wf.heap.size wf X) => conflict_c X a a2 n cap cap2 M y hn (by omega) (H.below (chain hb0 hX)) (H2.below (chain hb0 hX)) hok hmil)
    have HYI := hid (fun (X : World) (hX : Below wf.heap.size wf X) => H2.below (chain hb0 hX))
    have HYB := hid (mil_bnd hmil)
    have hneq := fun (w : World) (a : Option Addr) (n c : Nat) => run_neq_slice_nil_any (P := Try.prog) w 31 3 a n c 0 0 Try.underlying31
    have HN2 := hid hn2
    have hn6 : n ≤ 6 := by omega
    have HZF := hid (fun z c (e : weightF M (colsM M) q = some (z, c)) => show z.length = n ∧ BndL 67108864 z ∧ (1 ≤ c ∧ c ≤ 720) ∧ -4320000000 ≤ dotV z y ∧ dotV z y ≤ 4320000000 from by
      obtain ⟨hl, hz, hc1, hc2, _⟩ := hM.weight e
      exact ⟨by omega, mem_vec (P := fun x => -((67108864 : Nat) : Int) ≤ x ∧ x ≤ ((67108864 : Nat) : Int)) (fun c => by have := hz c; omega), ⟨hc1, hc2⟩, dot_bnd hz (by omega) hmil⟩)
    have HV0 := hid (fun (hw : weightF M (colsM M) q = none) => hv _ (value_none hck hw))
    have HV1 := hid (fun z c u (hw : weightF M (colsM M) q = some (z, c)) (hc : conflictF M y = some u) => hv _ (value_conf hck hw hc))
    have HV2 := hid (fun z c (hw : weightF M (colsM M) q = some (z, c)) (hc : conflictF M y = none) => hv _ (value_ok hck hw hc))
    obtain ⟨P, hP⟩ : ∃ P : Ending → Prop, P = fun e => e = .returned (.tuple #[ratV (valueV M y (q : Int)).1, .int .i64 (valueV M y (q : Int)).2]) := ⟨_, rfl⟩
    have hPg : (fun (e : Ending) (w' : World) => e = .returned (.tuple #[ratV (valueV M y (q : Int)).1, .int .i64 (valueV M y (q : Int)).2]) ∧ Below w.heap.size w w') = fun e w' => P e ∧ Below w.heap.size w w' := by rw [hP]
    rw [hPg]
    have HP := hid hP
    clear hP hPg hv
    clear hn hn2 H H2 hok hyl hmil hso hpb hqW hM h1 h6 hc1 hc10 hck hI hq0 hsf hb0
    go_enter Try.func53, Try.ntmps53
    go_wp2_with fail
    rw [← hs, ← hwf]
    clear hwf hs
    go_wp2_with (go_at_call 90; refine HCK.out.mono ?_; rintro e w1 ⟨rfl, hb1⟩; refine Stop.of ?_)
    refine Stop.go ?_
    have HB1 := hid hb1
    clear hb1 HCK
    go_wp2_with (go_at_call 83; refine (HWT.out w1 HB1.out).mono ?_; rintro e w2 ⟨hb2, hpost⟩; rcases hpost with ⟨hwn, rfl⟩ | ⟨z, c, aa, cap', hws, rfl, hzi⟩; all_goals refine Stop.of ?_)
    · refine Stop.go ?_
      have hb := chain HB1.out hb2
      obtain ⟨c0, c1, f0, f1, hlt⟩ := HS.out w2 hb
      have HBF := hid (HFIN.out w2 hb)
      have HWN := hid hwn
      clear hb hb2 hwn
      go_wp2
      refine bodyPost_ret (v := .tuple #[.agg #[.int .i64 0, .int .i64 0], .int .i64 8]) ?_ rfl ⟨by rw [HP.out]; exact HV0.out HWN.out _ rfl, HBF.out _ _⟩
      simp [results, Try.results53, go_sem, c0, c1, f0, f1, hlt]
    · refine Stop.go ?_
      have HB2 := hid (chain HB1.out hb2)
      obtain ⟨hzl, hzb, hcb, hdb⟩ := HZF.out z c hws
      have HWS := hid hws
      have HZL := hid hzl
      have HZB := hid hzb
      have HZI := hid hzi
      clear hb2 hws hzl hzb hzi HWT HB1
      go_wp2_with (go_at_call 110; refine (HCF.out w2 HB2.out).mono ?_; rintro e w3 ⟨hb3, hpost⟩; rcases hpost with ⟨hcn, rfl⟩ | ⟨u, ua, uc, hcs, rfl, hui⟩; all_goals refine Stop.of ?_)
      · refine Stop.go ?_
        have HB3 := hid (chain HB2.out hb3)
        have HCN := hid hcn
        have HDT := hid (pdot_c w3 aa a2 n cap' n cap2 z y HZL.out HN2.out (by omega) (Nat.le_refl _) (HZI.out.below hb3) (HYI.out w3 HB3.out) HZB.out HYB.out)
        have HV2' := hid (HV2.out z c HWS.out hcn)
        obtain ⟨d, hd⟩ : ∃ d, d = dotV z y := ⟨_, rfl⟩
        rw [← hd] at HDT HV2' hdb
        have hc0 : c ≠ 0 := by omega
        have HOF := hid (fun X => of_c X d c (by omega) (by omega) hc0)
        clear hb3 hcn hd hdb hcb hc0 HCF
        go_wp2_with (go_at_call 111; refine HDT.out.mono ?_; rintro e w4 ⟨rfl, k4, rfl⟩; refine Stop.of ?_)
        refine Stop.go ?_
        have HB4 := hid (below_drewN HB3.out k4)
        go_wp2_with (go_at_call 92; refine (HOF.out _).mono ?_; rintro e w5 ⟨rfl, hb5⟩; refine Stop.of ?_)
        refine Stop.go ?_
        have hb := chain HB4.out hb5
        obtain ⟨c0, c1, f0, f1, hlt⟩ := HS.out w5 hb
        have HBF := hid (HFIN.out w5 hb)
        obtain ⟨⟨r1, r2⟩, hr⟩ : ∃ r, r = ofF d c := ⟨_, rfl⟩
        rw [← hr] at HV2' ⊢
        simp only [ratV]
        clear hb hb5 hr
        go_wp2
        refine bodyPost_ret (v := .tuple #[.agg #[.int .i64 r1, .int .i64 r2], .int .i64 0]) ?_ rfl ⟨by rw [HP.out]; exact HV2'.out _ rfl, HBF.out _ _⟩
        simp [results, Try.results53, go_sem, c0, c1, f0, f1, hlt]
      · refine Stop.go ?_
        have hb := chain HB2.out hb3
        obtain ⟨c0, c1, f0, f1, hlt⟩ := HS.out w3 hb
        have HBF := hid (HFIN.out w3 hb)
        have HV1' := hid (HV1.out z c u HWS.out hcs)
        clear hb hb3 hcs hui
        go_wp2
        refine bodyPost_ret (v := .tuple #[.agg #[.int .i64 0, .int .i64 0], .int .i64 10]) ?_ rfl ⟨by rw [HP.out]; exact HV1'.out _ rfl, HBF.out _ _⟩
        simp [results, Try.results53, go_sem, c0, c1, f0, f1, hlt]
  · have hve : valueV M y p = ((0, 0), checkE M y [p]) := by unfold valueV; rw [if_neg hck]
    rw [hve]
    obtain ⟨E, hE⟩ : ∃ E, E = checkE M y [p] := ⟨_, rfl⟩
    rw [← hE] at HCK hck ⊢
    have hpb : (E != 0) = true := by simpa using hck
    clear hn hn2 H H2 hE hve hv hI hq0 hsf hb0
    go_enter Try.func53, Try.ntmps53
    go_wp2_with fail
    rw [← hs, ← hwf]
    clear hwf hs
    go_wp2_with (go_at_call 90; refine HCK.out.mono ?_; rintro e w1 ⟨rfl, hb1⟩; refine Stop.of ?_)
    refine Stop.go ?_
    obtain ⟨c0, c1, f0, f1, hlt⟩ := HS.out w1 hb1
    have HBF := hid (HFIN.out w1 hb1)
    clear hb1
    go_wp2
    refine bodyPost_ret (v := .tuple #[.agg #[.int .i64 0, .int .i64 0], .int .i64 E]) ?_ rfl ⟨rfl, HBF.out _ _⟩
    simp [results, Try.results53, go_sem, c0, c1, f0, f1, hlt]
end

section
open Go.RowKit
set_option linter.unusedVariables false

theorem check_one {M : Mask} {y : List Int} (p : Int) : checkE M y [p] = if rdE M y = 0 then (if inB p 0 ((colsM M : Int) - 1) = true then 0 else 5) else rdE M y := by
  unfold checkE rdE readE pixE
  cases hok : okM M
  · simp
  · simp only [if_true]
    by_cases h1 : y.length = M.length
    · rw [if_pos h1, if_pos h1]
      cases h2 : milB y
      · simp
      · simp only [if_true]
        have : ascB [p] = true := by unfold ascB; simp
        simp [namedE, this]
    · rw [if_neg h1, if_neg h1]; simp

set_option maxRecDepth 100000 in
set_option maxHeartbeats 400000 in
theorem r3Value_c (w : World) (a a2 : Option Addr) (n cap n2 cap2 : Nat) (M : Mask) (y : List Int) (hn : M.length = n) (hn2 : y.length = n2) (hm : n ≤ maxLen) (hm2 : n2 ≤ maxLen) (H : RowsAt w a M) (H2 : IntsAt w a2 y) (p : Int) :
    Calls Try.prog 54 #[.slice a n cap, .slice a2 n2 cap2, .int .i64 p] w fun e w' => e = .returned (.tuple #[ratV (valueV M y p).1, .int .i64 (valueV M y p).2]) ∧ Below w.heap.size w w' := by
  rw [value_same]
  obtain ⟨s, hs⟩ : ∃ s, s = w.heap.size := ⟨_, rfl⟩
  obtain ⟨wf, hwf⟩ : ∃ wf, wf = w.alloc (.cells #[.int .i64 0, .int .i64 0] 46) := ⟨_, rfl⟩
  have hb0 : Below w.heap.size w wf := by rw [hwf]; exact (Below.refl _ _).alloc (Nat.le_refl _) _
  have hq0 : wf.heap[s]? = some (.cells #[.int .i64 0, .int .i64 0] 46 (0, 0)) := by
    rw [hwf, hs]
    exact World.alloc_heap_new w _
  have hsf : s < wf.heap.size := (Array.getElem?_eq_some_iff.1 hq0).1
  have HS := hid (fun (X : World) (hX : Below wf.heap.size wf X) => show X.cell? ⟨s, 0, none⟩ = some (.int .i64 0) ∧ X.cell? ⟨s, 1, none⟩ = some (.int .i64 0) ∧ X.frozen? ⟨s, 0, none⟩ = false ∧ X.frozen? ⟨s, 1, none⟩ = false ∧ s < X.heap.size from by
    have h1 := (hX.block s hsf).trans hq0
    exact ⟨by simp [World.cell?, h1], by simp [World.cell?, h1], by simp [World.frozen?, h1], by simp [World.frozen?, h1], (Array.getElem?_eq_some_iff.1 h1).1⟩)
  have HRD := hid (r3Read_c wf a a2 n cap n2 cap2 M y hn hn2 hm hm2 (H.below hb0) (H2.below hb0))
  have HFIN := hid (fun (X : World) (hX : Below wf.heap.size wf X) (u v : Value) => show Below w.heap.size w ((X.setCell ⟨s, 0, none⟩ u).setCell ⟨s, 1, none⟩ v) from
    below_set (below_set (chain hb0 hX) (by rw [← hs]; exact Nat.le_refl s) 0 u) (by rw [← hs]; exact Nat.le_refl s) 1 v)
  have hv : ∀ r, valueR M y p = r → ∀ e : Ending, e = .returned (.tuple #[ratV r.1, .int .i64 r.2]) → e = .returned (.tuple #[ratV (valueR M y p).1, .int .i64 (valueR M y p).2]) := by rintro _ rfl e h; exact h
  obtain ⟨P, hP⟩ : ∃ P : Ending → Prop, P = fun e => e = .returned (.tuple #[ratV (valueR M y p).1, .int .i64 (valueR M y p).2]) := ⟨_, rfl⟩
  have hPg : (fun (e : Ending) (w' : World) => e = .returned (.tuple #[ratV (valueR M y p).1, .int .i64 (valueR M y p).2]) ∧ Below w.heap.size w w') = fun e w' => P e ∧ Below w.heap.size w w' := by rw [hP]
  rw [hPg]
  have HV := hid (show ∀ r, valueR M y p = r → P (.returned (.tuple #[ratV r.1, .int .i64 r.2])) from by rw [hP]; exact fun r h => hv r h _ rfl)
  clear hP hPg hv
  have hc1 := check_one (M := M) (y := y) p
  by_cases h0 : rdE M y = 0
  · rw [h0] at HRD
    rw [if_pos h0] at hc1
    obtain ⟨hok, hyl, hmil⟩ := rd_ok h0
    obtain ⟨hM, h1, h6, hcc, hc10⟩ := okM_ok hok
    obtain ⟨b, off, ra, rc, rfl, hb, hc⟩ := rows_head H (by omega)
    have HCC := hid (fun (X : World) (hX : Below wf.heap.size wf X) => show X.cell? ⟨b, off, none⟩ = some (.slice ra (colsM M) rc) from ((chain hb0 hX).cell (p := ⟨b, off, none⟩) hb).trans hc)
    have hvr : inB p 0 ((colsM M : Int) - 1) = true → valueR M y p = (if knB M p.toNat = true then (if (solvedR (withY M y) (colsM M)).2.2 = true then ((solvedR (withY M y) (colsM M)).1[p.toNat]?.getD (0, 0), 0) else ((0, 0), 10)) else ((0, 0), 8)) := fun hin => by
      unfold valueR; rw [if_pos (by rw [hc1, if_pos hin])]
    have hvr5 : inB p 0 ((colsM M : Int) - 1) = false → valueR M y p = ((0, 0), 5) := fun hin => by
      unfold valueR
      have : checkE M y [p] = 5 := by rw [hc1, hin]; rfl
      rw [this]; rfl
    have HKN := hid (fun (q : Nat) (hq : q < colsM M) (X : World) (hX : Below wf.heap.size wf X) => r3known_c X (some ⟨b, off, none⟩) n cap M hn (H.below (chain hb0 hX)) hok q hq)
    have HAN := hid (fun (X : World) (hX : Below wf.heap.size wf X) => r3Any_c X (some ⟨b, off, none⟩) a2 n cap n2 cap2 M y hn hn2 hm hm2 (H.below (chain hb0 hX)) (H2.below (chain hb0 hX)))
    have hav : anyV M y = (if (solvedR (withY M y) (colsM M)).2.2 = true then ((solvedR (withY M y) (colsM M)).1, 0) else ([], 10)) := by unfold anyV; rw [if_pos h0]
    have hsl : (solvedR (withY M y) (colsM M)).2.2 = true → (solvedR (withY M y) (colsM M)).1.length = colsM M := by
      unfold solvedR
      simp only []
      split
      · intro h; cases h
      · intro _
        rw [foldl_set_len]; simp
    obtain ⟨⟨S1, S2, S3⟩, hS⟩ : ∃ S, S = solvedR (withY M y) (colsM M) := ⟨_, rfl⟩
    rw [← hS] at hvr hav hsl
    obtain ⟨⟨A1, A2⟩, hA⟩ : ∃ A, A = anyV M y := ⟨_, rfl⟩
    rw [← hA] at hav HAN
    simp only [] at hvr hav hsl HAN
    have HAV := hid hav
    have HSL := hid hsl
    obtain ⟨W, hW⟩ : ∃ W, W = colsM M := ⟨_, rfl⟩
    rw [← hW] at hvr hvr5 HKN HCC hc10 hcc HSL
    have HVR := hid hvr
    have HVR5 := hid hvr5
    obtain ⟨B, hB⟩ : ∃ B, B = inB p 0 ((W : Int) - 1) := ⟨_, rfl⟩
    rw [← hB] at HVR HVR5
    have hwi := fun (X : World) => r3within_c p 0 ((W : Int) - 1) X
    rw [← hB] at hwi
    have HWI := hid hwi
    have HBI := hid hB
    have i0 : (0 : Int) < (n : Int) := by omega
    have hsub : IntKind.i64.wrap ((W : Int) - 1) = (W : Int) - 1 := IntWalk.i64_in _ (by omega)
    clear hn hn2 H H2 hok hyl hmil hM h1 h6 hb hc hvr hvr5 hav hsl hS hA hW hB hwi h0 hc1 hq0 hsf hb0
    go_enter Try.func54, Try.ntmps54
    go_wp2_with fail
    rw [← hs, ← hwf]
    clear hwf hs
    go_wp2_with (go_at_call 99; refine HRD.out.mono ?_; rintro e w1 ⟨rfl, rfl⟩; refine Stop.of ?_)
    refine Stop.go ?_
    have HB1 := hid (Below.refl wf.heap.size wf)
    have cc := HCC.out _ HB1.out
    clear HRD
    go_wp2_with (go_at_call 96; refine (HWI.out _).mono ?_; rintro e w2 ⟨rfl, rfl⟩; refine Stop.of ?_)
    refine Stop.go ?_
    cases B
    · obtain ⟨c0, c1, f0, f1, hlt⟩ := HS.out _ HB1.out
      have HBF := hid (HFIN.out _ HB1.out)
      have HP := hid (HV.out _ (HVR5.out rfl))
      clear HVR HKN HAN
      go_wp2
      refine bodyPost_ret (v := .tuple #[.agg #[.int .i64 0, .int .i64 0], .int .i64 5]) ?_ rfl ⟨HP.out, HBF.out _ _⟩
      simp [results, Try.results54, go_sem, c0, c1, f0, f1, hlt]
    · have hin := HBI.out.symm
      unfold inB at hin
      simp only [Bool.and_eq_true, decide_eq_true_eq] at hin
      obtain ⟨q, rfl⟩ : ∃ q : Nat, p = (q : Int) := ⟨p.toNat, by omega⟩
      have hqW : q < W := by omega
      have HVQ := hid (HVR.out rfl)
      rw [show ((q : Int)).toNat = q by omega] at HVQ
      have HK1 := hid (HKN.out q hqW _ HB1.out)
      have HQW := hid hqW
      obtain ⟨kb, hkb⟩ : ∃ kb, kb = knB M q := ⟨_, rfl⟩
      rw [← hkb] at HK1 HVQ
      clear HVR HVR5 HKN hin hqW hkb HWI HBI
      go_wp2_with (go_at_call 109; refine HK1.out.mono ?_; rintro e w3 ⟨rfl, hb3⟩; refine Stop.of ?_)
      refine Stop.go ?_
      have HB3 := hid (chain HB1.out hb3)
      clear hb3 HK1 cc
      cases kb
      · obtain ⟨c0, c1, f0, f1, hlt⟩ := HS.out _ HB3.out
        have HBF := hid (HFIN.out _ HB3.out)
        have HP := hid (HV.out _ (HVQ.out.trans (if_neg (by decide))))
        clear HAN
        go_wp2
        refine bodyPost_ret (v := .tuple #[.agg #[.int .i64 0, .int .i64 0], .int .i64 8]) ?_ rfl ⟨HP.out, HBF.out _ _⟩
        simp [results, Try.results54, go_sem, c0, c1, f0, f1, hlt]
      · have HA := hid (HAN.out _ HB3.out)
        have HVQ2 := hid (HVQ.out.trans (if_pos rfl))
        clear HAN HVQ
        go_wp2_with (go_at_call 112; refine HA.out.mono ?_; rintro e w4 ⟨v, base, rfl, hbs, hO, hb4⟩; refine Stop.of ?_)
        refine Stop.go ?_
        have HB4 := hid (chain HB3.out hb4)
        obtain ⟨va, vc, rfl, hvm, hvA⟩ := hO.reads
        have HVA := hid hvA
        obtain ⟨c0, c1, f0, f1, hlt⟩ := HS.out _ HB4.out
        have HBF := hid (HFIN.out _ HB4.out)
        clear hb4 hO hvA hbs HA
        cases S3
        · obtain ⟨rfl, rfl⟩ := Prod.mk.inj (HAV.out.trans (if_neg (by decide)))
          have HP := hid (HV.out _ (HVQ2.out.trans (if_neg (by decide))))
          go_wp2
          refine bodyPost_ret (v := .tuple #[.agg #[.int .i64 0, .int .i64 0], .int .i64 10]) ?_ rfl ⟨HP.out, HBF.out _ _⟩
          simp [results, Try.results54, go_sem, c0, c1, f0, f1, hlt]
        · obtain ⟨rfl, rfl⟩ := Prod.mk.inj (HAV.out.trans (if_pos rfl))
          have HP := hid (HV.out _ (HVQ2.out.trans (if_pos rfl)))
          have hll := HSL.out rfl
          have hqA : q < A1.length := by rw [hll]; exact HQW.out
          obtain ⟨b9, o9, rfl, hb9, hc90, hc91⟩ := HVA.out q hqA
          rw [List.getElem?_eq_getElem hqA] at HP
          simp only [Option.getD_some] at HP
          have HLL := hid hll
          obtain ⟨⟨r1, r2⟩, hr⟩ : ∃ r, r = A1[q]'hqA := ⟨_, rfl⟩
          rw [← hr] at HP hc90 hc91
          simp only [] at hc90 hc91
          obtain ⟨K, hK⟩ : ∃ K, K = A1.length := ⟨_, rfl⟩
          rw [← hK] at hqA ⊢
          have j1 : (q : Int) < (K : Int) := by omega
          clear hr hK hll
          go_wp2
          refine bodyPost_ret (v := .tuple #[.agg #[.int .i64 r1, .int .i64 r2], .int .i64 0]) ?_ rfl ⟨HP.out, HBF.out _ _⟩
          simp [results, Try.results54, go_sem, c0, c1, f0, f1, hlt]
  · have hve : valueR M y p = ((0, 0), rdE M y) := by
      rw [if_neg h0] at hc1
      unfold valueR; rw [hc1, if_neg h0]
    have HP := hid (HV.out _ hve)
    obtain ⟨E, hE⟩ : ∃ E, E = rdE M y := ⟨_, rfl⟩
    rw [← hE] at HRD h0 HP
    have hpb : (E != 0) = true := by simpa using h0
    clear hn hn2 H H2 hE hve hq0 hsf hb0 hc1 HV
    go_enter Try.func54, Try.ntmps54
    go_wp2_with fail
    rw [← hs, ← hwf]
    clear hwf hs
    go_wp2_with (go_at_call 99; refine HRD.out.mono ?_; rintro e w1 ⟨rfl, rfl⟩; refine Stop.of ?_)
    refine Stop.go ?_
    have hb1 := Below.refl wf.heap.size wf
    obtain ⟨c0, c1, f0, f1, hlt⟩ := HS.out _ hb1
    have HBF := hid (HFIN.out _ hb1)
    clear hb1
    go_wp2
    refine bodyPost_ret (v := .tuple #[.agg #[.int .i64 0, .int .i64 0], .int .i64 E]) ?_ rfl ⟨HP.out, HBF.out _ _⟩
    simp [results, Try.results54, go_sem, c0, c1, f0, f1, hlt]
end
end Go.Proofs.Ytfipebkhomppmaa
