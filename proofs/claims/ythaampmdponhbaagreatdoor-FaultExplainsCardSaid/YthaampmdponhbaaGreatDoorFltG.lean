/- Walks of fault.deeds, its four functions, and fault.faulty. -/
import Derived.Test.YthaampmdponhbaaGreatDoorFltF
namespace Go.Proofs.YthaampmdponhbaaGreatDoor
open Go.RowKit
set_option linter.unusedVariables false

theorem deeds_c (w : World) : Calls Tryz.prog 108 #[] w fun e w' => e = .returned (.agg #[.func (.func 129) #[] #[], .func (.func 130) #[] #[], .func (.func 131) #[] #[], .func (.func 132) #[] #[]]) ∧ Below w.heap.size w w' := by
  go_enter Tryz.func108, Tryz.ntmps108
  go_wp2
  refine bodyPost_ret (v := .agg #[.func (.func 129) #[] #[], .func (.func 130) #[] #[], .func (.func 131) #[] #[], .func (.func 132) #[] #[]]) ?_ rfl ⟨rfl, ?_⟩
  · simp [results, Tryz.results108, go_sem]
  · exact (Below.refl _ _).alloc (Nat.le_refl _) _

/-- a mask with a row that reads nothing -/
def deadM (M : Mask) (i : Nat) : Mask := M.set i (List.replicate (M[i]?.getD []).length 0)
/-- a mask with a dark pixel -/
def darkM (M : Mask) (j : Nat) : Mask := M.map (fun r => r.set j 0)
/-- a mask with a turned sign -/
def turnM (M : Mask) (i j : Nat) : Mask := M.set i ((M[i]?.getD []).set j (-((M[i]?.getD [])[j]?.getD 0)))
/-- a mask with a fault -/
def faultyM (M : Mask) (f : Flt) : Mask :=
  if f.kind = 1 then deadM M f.row.toNat else if f.kind = 2 then darkM M f.pixel.toNat else if f.kind = 3 then turnM M f.row.toNat f.pixel.toNat else M

theorem deed1_c (w : World) (v : Value) (row pixel : Int) :
    Calls Tryz.prog 129 #[v, .agg #[.int .i64 0, .int .i64 row, .int .i64 pixel]] w fun e w' => e = .returned (.tuple #[]) ∧ Below w.heap.size w w' := by
  go_enter Tryz.func129, Tryz.ntmps129
  go_wp2
  go_end0
  exact ⟨rfl, (Below.refl _ _).alloc (Nat.le_refl _) _⟩

theorem deed2_c (w : World) (base : Nat) (v : Value) (M : Mask) (h : OwnM w base v M) (hbase : base ≤ w.heap.size) (i : Nat) (hi : i < M.length) (hl : 1 ≤ M[i].length) (hl2 : M[i].length ≤ 10) (hM6 : M.length ≤ 6) (pixel : Int) :
    Calls Tryz.prog 130 #[v, .agg #[.int .i64 1, .int .i64 i, .int .i64 pixel]] w fun e w' => e = .returned (.tuple #[]) ∧ OwnM w' base v (deadM M i) ∧ Below base w w' := by
  obtain ⟨wf, hwf⟩ : ∃ wf, wf = w.alloc (.cells #[.int .i64 1, .int .i64 i, .int .i64 pixel] 25) := ⟨_, rfl⟩
  have hb0 : Below w.heap.size w wf := by rw [hwf]; exact (Below.refl _ _).alloc (Nat.le_refl _) _
  have hf1 : wf.cell? ⟨w.heap.size, 1, none⟩ = some (.int .i64 i) := by rw [hwf, World.cell?_alloc_at _ _ _ _ rfl]; rfl
  have h2 : OwnM wf base v M := h.keep (fun k _ hk => hb0.block k hk)
  obtain ⟨g0, cap, gi, c, rfl, hg0, hc, hgi, hr, hput⟩ := h2.at i hi
  have hcl := fun ty => Lib.run_clear_slice (P := Tryz.prog) wf 27 3 ty (.int .i64 0) Tryz.underlying27 Tryz.zeroValue3 rfl rfl gi 0 M[i].length c hl (fun j hj => by rw [Nat.zero_add, hr.cell hj]; rfl) (fun j _ => hr.frozen _)
  have hset : SpRow (wf.setCells gi 0 (List.replicate M[i].length (.int .i64 0))) gi (List.replicate M[i].length 0) := by
    have := SpRow.setCells (List.replicate M[i].length 0) 0 wf gi M[i] hr (by simp)
    rw [setL_all, List.map_replicate] at this
    exact this
  have hkp := Keep.sets (List.replicate M[i].length (.int .i64 0)) 0 wf gi
  have hown := hput _ _ (by simp) hset (fun k hk hne => hkp.block k hk hne)
  have hdead : deadM M i = M.set i (List.replicate M[i].length 0) := by unfold deadM; rw [List.getElem?_eq_getElem hi]; rfl
  rw [← hdead] at hown
  have hbe : Below base w (wf.setCells gi 0 (List.replicate M[i].length (.int .i64 0))) := by
    have h1 : Below base w wf := hb0.mono hbase
    exact h1.trans ⟨hkp.os, hkp.tape, hkp.output, hkp.size, fun k hk => hkp.block k (by have := h1.size; omega) (by omega)⟩
  have hlen : M.length ≤ 6 := hM6
  have HO := hid hown
  have HBE := hid hbe
  obtain ⟨L, hL⟩ : ∃ L, L = M[i].length := ⟨_, rfl⟩
  rw [← hL] at hcl HO HBE hc hl hl2
  obtain ⟨n, hn⟩ : ∃ n, n = M.length := ⟨_, rfl⟩
  rw [← hn] at HO hi hlen ⊢
  clear hown hbe hput hset hkp hdead h h2 hr hL hn hb0
  subst hwf
  go_enter Tryz.func130, Tryz.ntmps130
  go_wp2
  go_end0
  exact ⟨rfl, HO.out, HBE.out⟩

/-- the first k rows with a dark pixel -/
def darkTo (M : Mask) (j k : Nat) : Mask := (M.take k).map (fun r => r.set j 0) ++ M.drop k
theorem darkTo_zero (M : Mask) (j : Nat) : darkTo M j 0 = M := by simp [darkTo]
theorem darkTo_all (M : Mask) (j : Nat) : darkTo M j M.length = darkM M j := by simp [darkTo, darkM]
theorem length_darkTo (M : Mask) (j k : Nat) : (darkTo M j k).length = M.length := by simp [darkTo]; omega
theorem darkTo_at (M : Mask) (j k : Nat) (hk : k < M.length) : (darkTo M j k)[k]? = some M[k] := by
  unfold darkTo
  rw [List.getElem?_append_right (by simp; omega)]
  simp [Nat.min_eq_left (Nat.le_of_lt hk), hk]
theorem darkTo_succ (M : Mask) (j k : Nat) (hk : k < M.length) : darkTo M j (k + 1) = (darkTo M j k).set k (M[k].set j 0) := by
  unfold darkTo
  rw [List.take_succ_eq_append_getElem hk, List.map_append, List.set_append_right _ _ (by simp; omega)]
  simp only [List.length_map, List.length_take, Nat.min_eq_left (Nat.le_of_lt hk), Nat.sub_self, List.append_assoc]
  congr 1
  have := List.drop_eq_getElem_cons hk
  rw [this]
  rfl

theorem deed3_c (w : World) (base : Nat) (v : Value) (M : Mask) (h : OwnM w base v M) (hbase : base ≤ w.heap.size) (j : Nat) (hj : ∀ r ∈ M, j < r.length) (hj2 : ∀ r ∈ M, r.length ≤ 10) (hM1 : 1 ≤ M.length) (hM6 : M.length ≤ 6) (row : Int) :
    Calls Tryz.prog 131 #[v, .agg #[.int .i64 2, .int .i64 row, .int .i64 j]] w fun e w' => e = .returned (.tuple #[]) ∧ OwnM w' base v (darkM M j) ∧ Below base w w' := by
  obtain ⟨wf, hwf⟩ : ∃ wf, wf = w.alloc (.cells #[.int .i64 2, .int .i64 row, .int .i64 j] 25) := ⟨_, rfl⟩
  have hb0 : Below w.heap.size w wf := by rw [hwf]; exact (Below.refl _ _).alloc (Nat.le_refl _) _
  have hf1 : wf.cell? ⟨w.heap.size, 2, none⟩ = some (.int .i64 j) := by rw [hwf, World.cell?_alloc_at _ _ _ _ rfl]; rfl
  have hfb : wf.heap[w.heap.size]? = some (.cells #[.int .i64 2, .int .i64 row, .int .i64 j] 25 (0, 0)) := by rw [hwf]; exact World.alloc_heap_new w _
  have hfs : w.heap.size < wf.heap.size := by rw [hwf]; simp
  have h2 : OwnM wf base v M := h.keep (fun k _ hk => hb0.block k hk)
  obtain ⟨g0, cap, gi, c, rfl, hg0, hc, hgi, hr, hput⟩ := h2.at 0 hM1
  have hbW : Below base w wf := hb0.mono hbase
  have HH2 := hid h2
  have HJ := hid hj
  have HJ2 := hid hj2
  obtain ⟨n, hn⟩ : ∃ n, n = M.length := ⟨_, rfl⟩
  rw [← hn] at hM1 hM6 HH2 ⊢
  have HN := hid hn
  have HBW := hid hbW
  have HFI := hid hf1
  have HFB := hid hfb
  have HWF := hid hwf
  clear hc hgi hr hput h h2 hb0 hj hj2 hn hbW hg0 gi c hf1 hfb hwf
  go_enter Tryz.func131, Tryz.ntmps131
  go_wp2
  rw [← HWF.out]
  go_loopw [8] (fun i wr => ∃ k : Nat, k ≤ n ∧ i = .int .i64 k ∧ OwnM wr base (.slice (some ⟨g0, 0, none⟩) n cap) (darkTo M j k) ∧ Keep (fun b => b < base ∨ b = w.heap.size) wf wr) (fun i _ => n - (intOf i).toNat)
  case atStart => exact ⟨0, Nat.zero_le _, rfl, by rw [darkTo_zero]; exact HH2.out, Keep.refl _ _⟩
  case round =>
    obtain ⟨k, hk, rfl, ho, hkp⟩ := hrel
    by_cases hlt : k < n
    · have hkM : k < M.length := by rw [← HN.out]; exact hlt
      have hd := darkTo_at M j k hkM
      have hkd : k < (darkTo M j k).length := by rw [length_darkTo]; exact hkM
      obtain ⟨g0', cap', gi, c, e, hg0, hc, hgi, hr, hput⟩ := ho.at k hkd
      have hrow : (darkTo M j k)[k] = M[k] := by rw [List.getElem?_eq_getElem hkd] at hd; exact Option.some.inj hd
      rw [hrow] at hc hr hput
      have hjr := HJ.out M[k] (List.getElem_mem hkM)
      have hr10 := HJ2.out M[k] (List.getElem_mem hkM)
      have hcell := hr.cell hjr
      have hfz := hr.frozen j
      have hf1 : wr.cell? ⟨w.heap.size, 2, none⟩ = some (.int .i64 j) := hkp.cell HFI.out (.inr rfl)
      have hset := hr.set j hjr 0
      have hkk := Keep.set wr gi j (.int .i64 0)
      have hne : gi ≠ w.heap.size := by
        rintro rfl
        obtain ⟨sp, hsp⟩ := hr
        rw [hkp.block w.heap.size hfs (.inr rfl), HFB.out] at hsp
        simp at hsp
      have hown := hput _ _ (by simp) hset (fun b hb hne => hkk.block b hb hne)
      have htk := darkTo_succ M j k hkM
      rw [← htk] at hown
      have hkp2 : Keep (fun b => b < base ∨ b = w.heap.size) wf (wr.setCell ⟨gi, j, none⟩ (.int .i64 0)) := hkp.trans (hkk.mono fun b hb => by omega)
      obtain ⟨L, hL⟩ : ∃ L, L = M[k].length := ⟨_, rfl⟩
      rw [← hL] at hjr hr10 hc
      have e2 : g0' = g0 := by cases e; rfl
      obtain ⟨V, hV⟩ : ∃ V, V = M[k][j]?.getD 0 := ⟨_, rfl⟩
      rw [← hV] at hcell
      subst e2
      have HO := hid hown
      have HK := hid hkp2
      clear hset hkk hput hr hd hrow htk hown hkp2 hkp ho hL e hkd hV hkM
      go_wp2
      exact ⟨⟨k + 1, by omega, by go_num, HO.out, HK.out⟩, by simp [intOf]; omega⟩
    · obtain rfl : k = n := by omega
      go_wp2
      go_end0
      rw [HN.out, darkTo_all] at ho
      refine ⟨rfl, ?_, HBW.out.trans ⟨hkp.os, hkp.tape, hkp.output, hkp.size, fun b hb => hkp.block b (by have := HBW.out.size; omega) (.inl hb)⟩⟩
      rw [← HN.out] at ho
      exact ho

theorem deed4_c (w : World) (base : Nat) (v : Value) (M : Mask) (h : OwnM w base v M) (hbase : base ≤ w.heap.size) (i j : Nat) (hi : i < M.length) (hj : j < M[i].length) (hr : ∀ n ∈ M[i], -1 ≤ n ∧ n ≤ 1) (hl2 : M[i].length ≤ 10) (hM6 : M.length ≤ 6) :
    Calls Tryz.prog 132 #[v, .agg #[.int .i64 3, .int .i64 i, .int .i64 j]] w fun e w' => e = .returned (.tuple #[]) ∧ OwnM w' base v (turnM M i j) ∧ Below base w w' := by
  obtain ⟨wf, hwf⟩ : ∃ wf, wf = w.alloc (.cells #[.int .i64 3, .int .i64 i, .int .i64 j] 25) := ⟨_, rfl⟩
  have hb0 : Below w.heap.size w wf := by rw [hwf]; exact (Below.refl _ _).alloc (Nat.le_refl _) _
  have hf1 : wf.cell? ⟨w.heap.size, 1, none⟩ = some (.int .i64 i) := by rw [hwf, World.cell?_alloc_at _ _ _ _ rfl]; rfl
  have hf2 : wf.cell? ⟨w.heap.size, 2, none⟩ = some (.int .i64 j) := by rw [hwf, World.cell?_alloc_at _ _ _ _ rfl]; rfl
  have h2 : OwnM wf base v M := h.keep (fun k _ hk => hb0.block k hk)
  obtain ⟨g0, cap, gi, c, rfl, hg0, hc, hgi, hrow, hput⟩ := h2.at i hi
  have hcell := hrow.cell hj
  have hfz := hrow.frozen j
  have hV := hr (M[i][j]?.getD 0) (by rw [List.getElem?_eq_getElem hj]; exact List.getElem_mem hj)
  have hturn : turnM M i j = M.set i (M[i].set j (-(M[i][j]?.getD 0))) := by unfold turnM; rw [List.getElem?_eq_getElem hi]; rfl
  obtain ⟨V, hVE⟩ : ∃ V, V = M[i][j]?.getD 0 := ⟨_, rfl⟩
  rw [← hVE] at hcell hV hturn
  have hwr : wrap64 (-V) = -V := by unfold wrap64; omega
  have HP := hid (show OwnM (wf.setCell ⟨gi, j, none⟩ (.int .i64 (wrap64 (-V)))).drew base (.slice (some ⟨g0, 0, none⟩) M.length cap) (turnM M i j) ∧ Below base w (wf.setCell ⟨gi, j, none⟩ (.int .i64 (wrap64 (-V)))).drew from by
    rw [hwr]
    have hk : Keep (fun b => b ≠ gi) wf (wf.setCell ⟨gi, j, none⟩ (.int .i64 (-V))) := Keep.set wf gi j _
    refine ⟨?_, ?_⟩
    · rw [hturn]
      have h3 := hput (wf.setCell ⟨gi, j, none⟩ (.int .i64 (-V))) _ (by simp) (hrow.set j hj (-V)) (fun k hk2 hne => hk.block k hk2 hne)
      exact h3.keep (fun k _ _ => rfl)
    · have h1 : Below base w wf := hb0.mono hbase
      have h3 : Below base w (wf.setCell ⟨gi, j, none⟩ (.int .i64 (-V))) := h1.trans ⟨hk.os, hk.tape, hk.output, hk.size, fun b hb => hk.block b (by have := h1.size; omega) (by omega)⟩
      exact h3.drew)
  obtain ⟨n, hn⟩ : ∃ n, n = M.length := ⟨_, rfl⟩
  rw [← hn] at hi hM6 HP ⊢
  obtain ⟨L, hL⟩ : ∃ L, L = M[i].length := ⟨_, rfl⟩
  have hjL : j < L := by omega
  have hL10 : L ≤ 10 := by omega
  rw [← hL] at hc
  clear hrow hput hturn hVE hV hwr hn hL hl2 hr h h2 hb0 hj
  subst hwf
  go_enter Tryz.func132, Tryz.ntmps132
  go_wp2
  go_region
  go_wp2
  go_end0
  exact ⟨rfl, HP.out.1, HP.out.2⟩

theorem faultyM_row {M : Mask} {f : Flt} : (faultyM M f).length = M.length := by
  unfold faultyM deadM darkM turnM
  split
  · simp
  · split
    · simp
    · split <;> simp

theorem clone_c (w : World) (a : Option Addr) (n cap : Nat) (l : List Int) (hn : l.length = n) (hm : n * 8 ≤ 140737488355328) (H : IntsAt w a l) :
    Calls Tryz.prog 43 #[.slice a n cap] w fun e w' => ∃ v, e = .returned v ∧ w'.ownsRow w.heap.size 3 1 v n (l.map (Value.int .i64)) ∧ Below w.heap.size w w' := by
  obtain ⟨i0, hi, hz0, hz1, hz2⟩ := info_parts info_int
  have heq := fun (w : World) (a : Option Addr) (n c : Nat) => Lib.run_eql_slice_nil (P := Tryz.prog) w 27 3 a n c 0 0 Tryz.underlying27
  cases a with
  | none =>
    have h0 : n = 0 := by
      rcases Nat.eq_zero_or_pos n with h | h
      · exact h
      · obtain ⟨_, _, e, _⟩ := H 0 (by omega); cases e
    subst h0
    have hl : l = [] := List.eq_nil_of_length_eq_zero hn
    subst hl
    clear hn H hm
    go_enter Tryz.func43, Tryz.ntmps43
    go_wp2
    go_ret
    exact ⟨_, rfl, World.ownsRow_nil _ _ _ _, Below.refl _ _⟩
  | some ad =>
    have HN := hid hn
    have hnews : ∀ j u, (l.map (Value.int .i64))[j]? = some u → (w.alloc (.cells #[] 3)).cell? (ad.add j) = some u := by
      intro j u hu
      rw [List.getElem?_map] at hu
      obtain ⟨x, hx, rfl⟩ := Option.map_eq_some_iff.1 hu
      obtain ⟨hjl, e⟩ := List.getElem?_eq_some_iff.1 hx
      obtain ⟨b, off, ea, hb, hc⟩ := H j hjl
      cases ea
      rw [Addr.add_lit]
      refine (((Below.refl _ w).alloc (Nat.le_refl _) (.cells #[] 3)).cell (p := ⟨b, off + j, none⟩) hb).trans ?_
      rw [hc, hx]; rfl
    have HNews := hid hnews
    clear hnews H hn
    go_enter Tryz.func43, Tryz.ntmps43
    go_wp2_with (at_builtin; refine wpList_append_own _ rfl _ _ 27 rfl w.heap.size 3 i0 (.int .i64 0) 1 8 Tryz.underlying27 hi hz0 hz1 hz2 rfl (by decide) _ 0 [] rfl (World.ownsRow_made _ _ 0 (Nat.le_refl _) (by unfold maxLen; omega) rfl) ad n cap (l.map (Value.int .i64)) rfl (by rw [List.length_map, HN.out]; omega) HNews.out (ints_oneCell _ _) (by unfold maxLen; omega) (by omega) (by simp) ?_; intro v' w1 hown' hgrow _)
    go_ret
    refine ⟨_, rfl, by simpa using hown', ((Below.refl _ w).alloc (Nat.le_refl _) _).grown hgrow (by simp) (fun k hk => by cases hk; exact Nat.le_refl _)⟩
end Go.Proofs.YthaampmdponhbaaGreatDoor
