/- Walks: Known of both packages. -/
import Derived.Test.YtdcflpfaaeijoaaBitR
namespace Go.Proofs.Ytdcflpfaaeijoaa
open Go.RowKit
set_option linter.unusedVariables false

def knownL (F : List (List Int)) : Nat → List Int
  | 0 => []
  | k + 1 => knownL F k ++ (if loT F k F.length = hiT F k F.length then [(k : Int)] else [])
theorem knownL_len (F : List (List Int)) : ∀ k, (knownL F k).length ≤ k
  | 0 => Nat.le_refl _
  | k + 1 => by
    have := knownL_len F k
    unfold knownL; split <;> simp <;> omega
theorem own_below {W W' : World} {base : Nat} {e : TypeId} {size : Nat} {v : Value} {n : Nat} {xs : List Value} (h : W.ownsRow base e size v n xs) (hb : Below W.heap.size W W') : W'.ownsRow base e size v n xs := by
  refine ⟨h.1, ?_⟩
  rcases h.2 with hn | ⟨g, cap, cur, rfl, hg, hgg, rest⟩
  · exact .inl hn
  · exact .inr ⟨g, cap, cur, rfl, hg, (hb.block g (Array.getElem?_eq_some_iff.1 hgg).1).trans hgg, rest⟩
theorem own_ints_at {W : World} {b0 : Nat} {E : TypeId} {a : Option Addr} {n c : Nat} {l : List Int} (h : W.ownsRow b0 E 1 (.slice a n c) n (l.map (Value.int .i64))) (hn : l.length = n) (hm : n ≤ maxLen) : IntsAt W a l := by
  obtain ⟨ra, rc, e, hi⟩ := own_at h rfl hn hm
  cases e
  exact hi.at

def knownE (p t : Int) (l : List Cel) : Int := if okCells p t l then (if fitting p.toNat t.toNat l = [] then 8 else 0) else 1
def knownV (p t : Int) (l : List Cel) : List Int := if okCells p t l then (if fitting p.toNat t.toNat l = [] then [] else knownL (fitting p.toNat t.toNat l) p.toNat) else []

theorem known_c (w : World) (p t : Int) (a : Option Addr) (n cap : Nat) (l : List Cel) (hn : l.length = n) (hm : n ≤ maxLen) (H : CellsAt w a l) :
    Calls Try.prog 39 #[.agg #[.int .i64 p, .int .i64 t], .slice a n cap] w fun e w' => ∃ ra rn rc, e = .returned (.tuple #[.slice ra rn rc, .int .i64 (knownE p t l)]) ∧ (knownV p t l).length = rn ∧ rn ≤ maxLen ∧ IntsAt w' ra (knownV p t l) ∧ Below w.heap.size w w' := by
  obtain ⟨wf, hwf⟩ : ∃ wf, wf = w.alloc (.cells #[.int .i64 p, .int .i64 t] 23) := ⟨_, rfl⟩
  have hb0 : Below w.heap.size w wf := by rw [hwf]; exact (Below.refl _ _).alloc (Nat.le_refl _) _
  have HF := hid (fun (W : World) (hb : Below wf.heap.size wf W) => show W.cell? ⟨w.heap.size, 0, none⟩ = some (.int .i64 p) ∧ W.cell? ⟨w.heap.size, 1, none⟩ = some (.int .i64 t) from by
    have hz : wf.heap.size = w.heap.size + 1 := by rw [hwf]; simp
    refine ⟨(hb.cell (p := ⟨w.heap.size, 0, none⟩) (show w.heap.size < wf.heap.size by omega)).trans ?_, (hb.cell (p := ⟨w.heap.size, 1, none⟩) (show w.heap.size < wf.heap.size by omega)).trans ?_⟩ <;> (rw [hwf, World.cell?_alloc_at _ _ _ _ rfl]; rfl))
  have HB := hid (fun (W : World) (hb : Below wf.heap.size wf W) => chain hb0 hb)
  have HV := hid (fun (W : World) (hb : Below w.heap.size w W) => validCells_c W p t a n cap l hn hm (H.below hb))
  cases hf : okCells p t l
  · have e1 : knownE p t l = 1 := by simp [knownE, hf]
    have e2 : knownV p t l = [] := by simp [knownV, hf]
    rw [e1, e2]
    rw [hf] at HV
    clear e1 e2 hn H
    go_enter Try.func39, Try.ntmps39
    go_wp2_with fail
    rw [← hwf]
    clear hwf
    refine (HV.out _ hb0).mono ?_
    rintro e w1 ⟨rfl, hb1⟩
    go_wp2
    go_ret2
    exact ⟨_, _, _, rfl, rfl, by decide, fun j hj => by simp at hj, HB.out _ hb1⟩
  · obtain ⟨hfd, hrows⟩ := okCells_bd hf
    obtain ⟨p1, p8, t0, t3⟩ := okField_bd hfd
    obtain ⟨P, rfl⟩ := Int.eq_ofNat_of_zero_le (show 0 ≤ p by omega)
    obtain ⟨T, rfl⟩ := Int.eq_ofNat_of_zero_le t0
    rw [hf] at HV
    have e1 : knownE (P : Int) (T : Int) l = if fitting P T l = [] then 8 else 0 := by simp [knownE, hf]
    have e2 : knownV (P : Int) (T : Int) l = if fitting P T l = [] then [] else knownL (fitting P T l) P := by simp [knownV, hf]
    rw [e1, e2]
    have HL := hid (fun (W : World) (hb : Below w.heap.size w W) => left_c W P T (by omega) (by omega) a n cap l hn hm (H.below hb) hrows)
    have hfl : ∀ x ∈ fitting P T l, x.length = P := fun x hx => fitting_len hx
    obtain ⟨F, hF⟩ : ∃ F, F = fitting P T l := ⟨_, rfl⟩
    rw [← hF] at HL hfl ⊢
    have HFL := hid hfl
    clear e1 e2 hn H hrows hF hfl
    by_cases hnil : F = []
    · subst hnil
      rw [if_pos rfl, if_pos rfl]
      go_enter Try.func39, Try.ntmps39
      go_wp2_with fail
      rw [← hwf]
      clear hwf
      refine (HV.out _ hb0).mono ?_
      rintro e w1 ⟨rfl, hb1⟩
      obtain ⟨f0, f1⟩ := HF.out _ hb1
      go_wp2_with (go_at_call 65; refine (HL.out _ (HB.out _ hb1)).mono ?_; rintro e w2 ⟨v, base, rfl, hbase, hR, hb2⟩; refine Stop.of ?_)
      refine Stop.go ?_
      obtain ⟨a2, c2, rfl, hl2, _, _⟩ := hR.reads
      clear hR
      go_wp2
      go_ret2
      first
        | exact ⟨_, _, _, rfl, rfl, by decide, (fun j hj => by simp at hj), HB.out _ (chain hb1 hb2)⟩
        | exact ⟨_, _, ⟨_, rfl⟩, rfl, by decide, (fun j hj => by simp at hj), HB.out _ (chain hb1 hb2)⟩
    · rw [if_neg hnil, if_neg hnil]
      have hpos : 0 < F.length := List.length_pos_iff.2 hnil
      have hne : ((F.length : Int) == 0) = false := by simp [hnil]
      have HSP := hid (fun (W : World) (a2 : Option Addr) (c2 : Nat) (hm2 : F.length ≤ maxLen) (H2 : RowsAt W a2 F) (X : Nat) (hX : X < P) => span_c W a2 F.length c2 F X rfl hpos hm2 H2 (fun x hx => by rw [HFL.out x hx]; exact hX))
      obtain ⟨kl, hkl⟩ : ∃ kl : Nat → List Int, kl = knownL F := ⟨_, rfl⟩
      have hk0 : kl 0 = [] := by rw [hkl]; rfl
      have hks : ∀ k, kl (k + 1) = kl k ++ (if loT F k F.length = hiT F k F.length then [(k : Int)] else []) := fun k => by rw [hkl]; rfl
      have hkn : ∀ k, (kl k).length ≤ k := fun k => by rw [hkl]; exact knownL_len F k
      rw [← hkl]
      obtain ⟨lo, hlo⟩ : ∃ lo : Nat → Int, lo = fun k => loT F k F.length := ⟨_, rfl⟩
      obtain ⟨hi, hhi⟩ : ∃ hi : Nat → Int, hi = fun k => hiT F k F.length := ⟨_, rfl⟩
      have hlo' : ∀ k, loT F k F.length = lo k := fun k => by rw [hlo]
      have hhi' : ∀ k, hiT F k F.length = hi k := fun k => by rw [hhi]
      simp only [hlo', hhi'] at HSP hks
      obtain ⟨len, hlen⟩ : ∃ len, len = F.length := ⟨_, rfl⟩
      rw [← hlen] at HSP hpos hne
      have HLE := hid hlen
      have HKS := hid hks
      have HKN := hid hkn
      have HK0 := hid hk0
      clear hlen hlo hhi hnil hlo' hhi' hkl hks hkn hk0
      go_enter Try.func39, Try.ntmps39
      go_wp2_with fail
      rw [← hwf]
      clear hwf
      refine (HV.out _ hb0).mono ?_
      rintro e w1 ⟨rfl, hb1⟩
      obtain ⟨f0, f1⟩ := HF.out _ hb1
      go_wp2_with (go_at_call 65; refine (HL.out _ (HB.out _ hb1)).mono ?_; rintro e w2 ⟨v, base, rfl, hbase, hR, hb2⟩; refine Stop.of ?_)
      refine Stop.go ?_
      obtain ⟨a2, c2, rfl, hl2, hreads, _⟩ := hR.reads
      rw [← HLE.out] at hl2 ⊢
      have HSP2 := hid (fun (W : World) (hb : Below w2.heap.size w2 W) => HSP.out W a2 c2 hl2 (hreads.below hb))
      clear hR hreads HSP
      unfold maxLen at hl2
      obtain ⟨g0, g1⟩ := HF.out _ (chain hb1 hb2)
      have hbw2 := chain hb1 hb2
      go_wp2
      clear g0 g1 f0 f1
      go_loopw [7, 22] (fun v i wr => ∃ k : Nat, k ≤ P ∧ i = .int .i64 k ∧ wr.ownsRow w2.heap.size 3 1 v (kl k).length ((kl k).map (Value.int .i64)) ∧ Below w2.heap.size w2 wr) (fun _ i _ => P - (intOf i).toNat)
      case atStart => exact ⟨0, Nat.zero_le _, rfl, by rw [HK0.out]; exact World.ownsRow_nil _ _ _ _, Below.refl _ _⟩
      case round =>
        obtain ⟨k, hk, rfl, ho, hb⟩ := hrel
        have HO := hid ho
        obtain ⟨a4, c4, rfl⟩ := ownsRow_slice ho
        clear ho
        have hkl := HKN.out k
        obtain ⟨m, hmE⟩ : ∃ m, m = (kl k).length := ⟨_, rfl⟩
        rw [← hmE] at hkl HO ⊢
        have HM := hid hmE
        clear hmE
        by_cases hlt : k < P
        · have HS := hid (HSP2.out wr hb k hlt)
          go_wp2_with (go_at_call 66; refine HS.out.mono ?_; rintro e w3 ⟨rfl, hb3⟩; refine Stop.of ?_)
          refine Stop.go ?_
          have hb4 : Below w3.heap.size w3 (w3.alloc (.cells #[.int .i64 (lo k), .int .i64 (hi k)] 34)) := (Below.refl _ _).alloc (Nat.le_refl _) _
          obtain ⟨q0, q1, _⟩ := cell2_get (World.alloc_heap_new w3 (.cells #[.int .i64 (lo k), .int .i64 (hi k)] 34))
          have hb34 := chain hb3 hb4
          have ho4 := own_below HO.out hb34
          have hks := HKS.out k
          have hsz3 : w3.heap.size = w3.heap.size := rfl
          have N1 := one_news (w3.alloc (.cells #[.int .i64 (lo k), .int .i64 (hi k)] 34)) (.int .i64 (k : Int)) 3
          have N2 := Nat.le_trans (chain hb hb34).size (le_alloc (w3.alloc (.cells #[.int .i64 (lo k), .int .i64 (hi k)] 34)) (.cells #[.int .i64 (k : Int)] 3))
          have hbz := (chain hb hb34)
          have hla : Below w2.heap.size w2 ((w3.alloc (.cells #[.int .i64 (lo k), .int .i64 (hi k)] 34)).alloc (.cells #[.int .i64 (k : Int)] 3)) := hbz.alloc hbz.size _
          have N3 := ho4.alloc (.cells #[.int .i64 (k : Int)] 3)
          rw [World.size_alloc] at N1
          have M5 := hid (show m + 1 ≤ maxLen by unfold maxLen; omega)
          have M6 := hid (show (m + 1) * 8 ≤ 140737488355328 by omega)
          have M7 := hid N2
          have HN1 := hid N1
          have HN3 := hid N3
          have HLA := hid hla
          have HO4 := hid ho4
          have HBZ := hid hbz
          clear N1 N2 N3 hla ho4 hbz hb4 hb34 hsz3
          by_cases he : lo k = hi k
          · rw [if_pos he] at hks
            have HK1 := hid hks
            have hee : (lo k == hi k) = true := by simp [he]
            have HE := hid he
            clear hks he
            go_wp2_with (at_builtin; refine wpList_app _ rfl (.tmp 33) (.tmp 35) 25 rfl w2.heap.size 3 (.int .i64 0) 1 8 Try.underlying25 info_int rfl Nat.one_pos (.slice a4 m c4) m ((kl k).map (Value.int .i64)) rfl HN3.out (some ⟨w3.heap.size + 1, 0, none⟩) 1 1 [.int .i64 (k : Int)] rfl rfl no_none HN1.out (ints_oneCell .i64 [(k : Int)]) M5.out M6.out M7.out ?_; refine Stop.of ?_)
            refine Stop.go ?_
            intro a5 c5 w5 own5 g5
            have hb5 := HLA.out.grown g5 M7.out (fun j hj => (HN3.out.lt j hj).1)
            have HO5 := hid own5
            clear own5
            go_wp2
            refine ⟨⟨k + 1, by omega, by go_num, ?_, hb5⟩, by simp [intOf]; omega⟩
            have := HO5.out
            rw [HK1.out, List.length_append, List.map_append, ← HM.out]
            exact this
          · rw [if_neg he, List.append_nil] at hks
            have HK1 := hid hks
            have hee : (lo k == hi k) = false := by simp [he]
            have HE := hid he
            clear hks he
            go_wp2
            refine ⟨⟨k + 1, by omega, by go_num, ?_, HBZ.out⟩, by simp [intOf]; omega⟩
            rw [HK1.out, ← HM.out]
            exact HO4.out
        · obtain rfl : k = P := by omega
          go_wp2
          go_ret2
          exact ⟨_, _, _, rfl, HM.out.symm, by unfold maxLen; omega, own_ints_at HO.out HM.out.symm (by unfold maxLen; omega), HB.out _ (chain hbw2 hb)⟩

theorem refKnown_c (w : World) (p t : Int) (a : Option Addr) (n cap : Nat) (l : List Cel) (hn : l.length = n) (hm : n ≤ maxLen) (H : CellsAt w a l) :
    Calls Try.prog 40 #[.agg #[.int .i64 p, .int .i64 t], .slice a n cap] w fun e w' => ∃ ra rn rc, e = .returned (.tuple #[.slice ra rn rc, .int .i64 (knownE p t l)]) ∧ (knownV p t l).length = rn ∧ rn ≤ maxLen ∧ IntsAt w' ra (knownV p t l) ∧ Below w.heap.size w w' := by
  obtain ⟨wf, hwf⟩ : ∃ wf, wf = w.alloc (.cells #[.int .i64 p, .int .i64 t] 23) := ⟨_, rfl⟩
  have hb0 : Below w.heap.size w wf := by rw [hwf]; exact (Below.refl _ _).alloc (Nat.le_refl _) _
  have HF := hid (fun (W : World) (hb : Below wf.heap.size wf W) => show W.cell? ⟨w.heap.size, 0, none⟩ = some (.int .i64 p) ∧ W.cell? ⟨w.heap.size, 1, none⟩ = some (.int .i64 t) from by
    have hz : wf.heap.size = w.heap.size + 1 := by rw [hwf]; simp
    refine ⟨(hb.cell (p := ⟨w.heap.size, 0, none⟩) (show w.heap.size < wf.heap.size by omega)).trans ?_, (hb.cell (p := ⟨w.heap.size, 1, none⟩) (show w.heap.size < wf.heap.size by omega)).trans ?_⟩ <;> (rw [hwf, World.cell?_alloc_at _ _ _ _ rfl]; rfl))
  have HB := hid (fun (W : World) (hb : Below wf.heap.size wf W) => chain hb0 hb)
  have HV := hid (fun (W : World) (hb : Below w.heap.size w W) => refValidCells_c W p t a n cap l hn hm (H.below hb))
  cases hf : okCells p t l
  · have e1 : knownE p t l = 1 := by simp [knownE, hf]
    have e2 : knownV p t l = [] := by simp [knownV, hf]
    rw [e1, e2]
    rw [hf] at HV
    clear e1 e2 hn H
    go_enter Try.func40, Try.ntmps40
    go_wp2_with fail
    rw [← hwf]
    clear hwf
    refine (HV.out _ hb0).mono ?_
    rintro e w1 ⟨rfl, hb1⟩
    go_wp2
    go_ret2
    exact ⟨_, _, _, rfl, rfl, by decide, fun j hj => by simp at hj, HB.out _ hb1⟩
  · obtain ⟨hfd, hrows⟩ := okCells_bd hf
    obtain ⟨p1, p8, t0, t3⟩ := okField_bd hfd
    obtain ⟨P, rfl⟩ := Int.eq_ofNat_of_zero_le (show 0 ≤ p by omega)
    obtain ⟨T, rfl⟩ := Int.eq_ofNat_of_zero_le t0
    rw [hf] at HV
    have e1 : knownE (P : Int) (T : Int) l = if fitting P T l = [] then 8 else 0 := by simp [knownE, hf]
    have e2 : knownV (P : Int) (T : Int) l = if fitting P T l = [] then [] else knownL (fitting P T l) P := by simp [knownV, hf]
    rw [e1, e2]
    have HL := hid (fun (W : World) (hb : Below w.heap.size w W) => refFitting_c W P T (by omega) (by omega) a n cap l hn hm (H.below hb) hrows)
    have hfl : ∀ x ∈ fitting P T l, x.length = P := fun x hx => fitting_len hx
    obtain ⟨F, hF⟩ : ∃ F, F = fitting P T l := ⟨_, rfl⟩
    rw [← hF] at HL hfl ⊢
    have HFL := hid hfl
    clear e1 e2 hn H hrows hF hfl
    by_cases hnil : F = []
    · subst hnil
      rw [if_pos rfl, if_pos rfl]
      go_enter Try.func40, Try.ntmps40
      go_wp2_with fail
      rw [← hwf]
      clear hwf
      refine (HV.out _ hb0).mono ?_
      rintro e w1 ⟨rfl, hb1⟩
      obtain ⟨f0, f1⟩ := HF.out _ hb1
      go_wp2_with (go_at_call 71; refine (HL.out _ (HB.out _ hb1)).mono ?_; rintro e w2 ⟨v, base, rfl, hbase, hR, hb2⟩; refine Stop.of ?_)
      refine Stop.go ?_
      obtain ⟨a2, c2, rfl, hl2, _, _⟩ := hR.reads
      clear hR
      go_wp2
      go_ret2
      first
        | exact ⟨_, _, _, rfl, rfl, by decide, (fun j hj => by simp at hj), HB.out _ (chain hb1 hb2)⟩
        | exact ⟨_, _, ⟨_, rfl⟩, rfl, by decide, (fun j hj => by simp at hj), HB.out _ (chain hb1 hb2)⟩
    · rw [if_neg hnil, if_neg hnil]
      have hpos : 0 < F.length := List.length_pos_iff.2 hnil
      have hne : ((F.length : Int) == 0) = false := by simp [hnil]
      have HSP := hid (fun (W : World) (a2 : Option Addr) (c2 : Nat) (hm2 : F.length ≤ maxLen) (H2 : RowsAt W a2 F) (X : Nat) (hX : X < P) => refSpan_c W a2 F.length c2 F X rfl hpos hm2 H2 (fun x hx => by rw [HFL.out x hx]; exact hX))
      obtain ⟨kl, hkl⟩ : ∃ kl : Nat → List Int, kl = knownL F := ⟨_, rfl⟩
      have hk0 : kl 0 = [] := by rw [hkl]; rfl
      have hks : ∀ k, kl (k + 1) = kl k ++ (if loT F k F.length = hiT F k F.length then [(k : Int)] else []) := fun k => by rw [hkl]; rfl
      have hkn : ∀ k, (kl k).length ≤ k := fun k => by rw [hkl]; exact knownL_len F k
      rw [← hkl]
      obtain ⟨lo, hlo⟩ : ∃ lo : Nat → Int, lo = fun k => loT F k F.length := ⟨_, rfl⟩
      obtain ⟨hi, hhi⟩ : ∃ hi : Nat → Int, hi = fun k => hiT F k F.length := ⟨_, rfl⟩
      have hlo' : ∀ k, loT F k F.length = lo k := fun k => by rw [hlo]
      have hhi' : ∀ k, hiT F k F.length = hi k := fun k => by rw [hhi]
      simp only [hlo', hhi'] at HSP hks
      obtain ⟨len, hlen⟩ : ∃ len, len = F.length := ⟨_, rfl⟩
      rw [← hlen] at HSP hpos hne
      have HLE := hid hlen
      have HKS := hid hks
      have HKN := hid hkn
      have HK0 := hid hk0
      clear hlen hlo hhi hnil hlo' hhi' hkl hks hkn hk0
      go_enter Try.func40, Try.ntmps40
      go_wp2_with fail
      rw [← hwf]
      clear hwf
      refine (HV.out _ hb0).mono ?_
      rintro e w1 ⟨rfl, hb1⟩
      obtain ⟨f0, f1⟩ := HF.out _ hb1
      go_wp2_with (go_at_call 71; refine (HL.out _ (HB.out _ hb1)).mono ?_; rintro e w2 ⟨v, base, rfl, hbase, hR, hb2⟩; refine Stop.of ?_)
      refine Stop.go ?_
      obtain ⟨a2, c2, rfl, hl2, hreads, _⟩ := hR.reads
      rw [← HLE.out] at hl2 ⊢
      have HSP2 := hid (fun (W : World) (hb : Below w2.heap.size w2 W) => HSP.out W a2 c2 hl2 (hreads.below hb))
      clear hR hreads HSP
      unfold maxLen at hl2
      obtain ⟨g0, g1⟩ := HF.out _ (chain hb1 hb2)
      have hbw2 := chain hb1 hb2
      go_wp2
      clear g0 g1 f0 f1
      go_loopw [7, 22] (fun v i wr => ∃ k : Nat, k ≤ P ∧ i = .int .i64 k ∧ wr.ownsRow w2.heap.size 3 1 v (kl k).length ((kl k).map (Value.int .i64)) ∧ Below w2.heap.size w2 wr) (fun _ i _ => P - (intOf i).toNat)
      case atStart => exact ⟨0, Nat.zero_le _, rfl, by rw [HK0.out]; exact World.ownsRow_nil _ _ _ _, Below.refl _ _⟩
      case round =>
        obtain ⟨k, hk, rfl, ho, hb⟩ := hrel
        have HO := hid ho
        obtain ⟨a4, c4, rfl⟩ := ownsRow_slice ho
        clear ho
        have hkl := HKN.out k
        obtain ⟨m, hmE⟩ : ∃ m, m = (kl k).length := ⟨_, rfl⟩
        rw [← hmE] at hkl HO ⊢
        have HM := hid hmE
        clear hmE
        by_cases hlt : k < P
        · have HS := hid (HSP2.out wr hb k hlt)
          go_wp2_with (go_at_call 80; refine HS.out.mono ?_; rintro e w3 ⟨rfl, hb3⟩; refine Stop.of ?_)
          refine Stop.go ?_
          have hb4 : Below w3.heap.size w3 (w3.alloc (.cells #[.int .i64 (lo k), .int .i64 (hi k)] 34)) := (Below.refl _ _).alloc (Nat.le_refl _) _
          obtain ⟨q0, q1, _⟩ := cell2_get (World.alloc_heap_new w3 (.cells #[.int .i64 (lo k), .int .i64 (hi k)] 34))
          have hb34 := chain hb3 hb4
          have ho4 := own_below HO.out hb34
          have hks := HKS.out k
          have hsz3 : w3.heap.size = w3.heap.size := rfl
          have N1 := one_news (w3.alloc (.cells #[.int .i64 (lo k), .int .i64 (hi k)] 34)) (.int .i64 (k : Int)) 3
          have N2 := Nat.le_trans (chain hb hb34).size (le_alloc (w3.alloc (.cells #[.int .i64 (lo k), .int .i64 (hi k)] 34)) (.cells #[.int .i64 (k : Int)] 3))
          have hbz := (chain hb hb34)
          have hla : Below w2.heap.size w2 ((w3.alloc (.cells #[.int .i64 (lo k), .int .i64 (hi k)] 34)).alloc (.cells #[.int .i64 (k : Int)] 3)) := hbz.alloc hbz.size _
          have N3 := ho4.alloc (.cells #[.int .i64 (k : Int)] 3)
          rw [World.size_alloc] at N1
          have M5 := hid (show m + 1 ≤ maxLen by unfold maxLen; omega)
          have M6 := hid (show (m + 1) * 8 ≤ 140737488355328 by omega)
          have M7 := hid N2
          have HN1 := hid N1
          have HN3 := hid N3
          have HLA := hid hla
          have HO4 := hid ho4
          have HBZ := hid hbz
          clear N1 N2 N3 hla ho4 hbz hb4 hb34 hsz3
          by_cases he : lo k = hi k
          · rw [if_pos he] at hks
            have HK1 := hid hks
            have hee : (lo k == hi k) = true := by simp [he]
            have HE := hid he
            clear hks he
            go_wp2_with (at_builtin; refine wpList_app _ rfl (.tmp 33) (.tmp 35) 25 rfl w2.heap.size 3 (.int .i64 0) 1 8 Try.underlying25 info_int rfl Nat.one_pos (.slice a4 m c4) m ((kl k).map (Value.int .i64)) rfl HN3.out (some ⟨w3.heap.size + 1, 0, none⟩) 1 1 [.int .i64 (k : Int)] rfl rfl no_none HN1.out (ints_oneCell .i64 [(k : Int)]) M5.out M6.out M7.out ?_; refine Stop.of ?_)
            refine Stop.go ?_
            intro a5 c5 w5 own5 g5
            have hb5 := HLA.out.grown g5 M7.out (fun j hj => (HN3.out.lt j hj).1)
            have HO5 := hid own5
            clear own5
            go_wp2
            refine ⟨⟨k + 1, by omega, by go_num, ?_, hb5⟩, by simp [intOf]; omega⟩
            have := HO5.out
            rw [HK1.out, List.length_append, List.map_append, ← HM.out]
            exact this
          · rw [if_neg he, List.append_nil] at hks
            have HK1 := hid hks
            have hee : (lo k == hi k) = false := by simp [he]
            have HE := hid he
            clear hks he
            go_wp2
            refine ⟨⟨k + 1, by omega, by go_num, ?_, HBZ.out⟩, by simp [intOf]; omega⟩
            rw [HK1.out, ← HM.out]
            exact HO4.out
        · obtain rfl : k = P := by omega
          go_wp2
          go_ret2
          exact ⟨_, _, _, rfl, HM.out.symm, by unfold maxLen; omega, own_ints_at HO.out HM.out.symm (by unfold maxLen; omega), HB.out _ (chain hbw2 hb)⟩
end Go.Proofs.Ytdcflpfaaeijoaa
