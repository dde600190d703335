/- Walk: the function 'try' within Clash of package bit. -/
import Derived.Test.YtdcflpfaaeijoaaBitAO
import Derived.WalkSmall
namespace Go.Proofs.Ytdcflpfaaeijoaa
open Go.RowKit Go.Maps
set_option linter.unusedVariables false

/-- a world behind block N: what was below N is there, the function's own box too, and the chosen numbers are L -/
def TryW (w0 : World) (N : Nat) (L : List Int) (w : World) : Prop :=
  Below N w0 w ∧ w.heap[N + 1]? = w0.heap[N + 1]? ∧ N + 2 ≤ w.heap.size ∧ ∃ v, Boxed w N 25 v ∧ w.ownsRow (N + 2) 3 1 v L.length (L.map (Value.int .i64))

theorem TryW.below {w0 w w' : World} {N : Nat} {L : List Int} (h : TryW w0 N L w) (hb : Below w.heap.size w w') : TryW w0 N L w' := by
  obtain ⟨h1, h2, h3, v, h4, h5⟩ := h
  exact ⟨h1.trans (hb.mono (by omega)), (hb.block _ (by omega)).trans h2, Nat.le_trans h3 hb.size, v, boxed_below h4 hb, own_below h5 hb⟩

theorem int1 {u : Value} {x : Int} (h : u = .int .i64 x) : ∀ y ∈ [u], y.oneCell' = true := by
  intro y hy; simp at hy; subst hy; subst h; rfl

theorem own_keep {W W' : World} {base : Nat} {e : TypeId} {size : Nat} {v : Value} {n : Nat} {xs : List Value} {S : Nat → Prop} (h : W.ownsRow base e size v n xs) (hk : Keep S W W') (hS : ∀ k, base ≤ k → S k) : W'.ownsRow base e size v n xs := by
  refine ⟨h.1, ?_⟩
  rcases h.2 with hn | ⟨g, cap, cur, rfl, hg, hgg, rest⟩
  · exact .inl hn
  · exact .inr ⟨g, cap, cur, rfl, hg, (hk.block g (Array.getElem?_eq_some_iff.1 hgg).1 (hS g hg)).trans hgg, rest⟩

theorem TryW.set {w0 w : World} {N : Nat} {L L' : List Int} {v v' : Value} (h1 : Below N w0 w) (h2 : w.heap[N + 1]? = w0.heap[N + 1]?) (h3 : N + 2 ≤ w.heap.size) (h4 : Boxed w N 25 v) (h5 : w.ownsRow (N + 2) 3 1 v' L'.length (L'.map (Value.int .i64))) :
    TryW w0 N L' (w.setCell ⟨N, 0, none⟩ v') := by
  have hk := Keep.set w N 0 v'
  exact ⟨below_set h1 (Nat.le_refl _) 0 v', (hk.block _ (by omega) (by omega)).trans h2, by simpa using h3, v', h4.set v', own_keep h5 hk (fun k hk => by omega)⟩

def TryR (i s m M pw so : Nat) (b : Bool) (w0 : World) (N : Nat) (L : List Int) (lb : Array Value) (fr fr' : Act) (W : World) : Prop :=
  fr' = ((((((((((fr.put (some 28) (.func (.func 83) #[] lb)).put (some 29) (.int .i64 i)).put (some 30) (.int .i64 ((i : Int) + 1))).put (some 31) (.int .i64 s)).put (some 32) (.int .i64 i)).put (some 33) (.int .i64 (pw : Int))).put (some 34) (.int .i64 (so : Int))).put (some 35) (.int .i64 (M : Int))).put (some 36) (.int .i64 (m : Int))).put (some 37) (.bool b)) ∧ TryW w0 N L W

set_option maxRecDepth 100000 in
set_option maxHeartbeats 4000000 in
theorem try_c (w0 : World) (q0 cb mb B N n nm : Nat) (D : DataW Unit) (ms : List Nat) (a : Option Addr) (cap : Nat) (hk : KeysB D ms) (hms : ∀ m ∈ ms, m < 4096) (hown : w0.ownsMap Try.prog 3 (plainElem (H := Unit) Try.prog 4) B nm D)
    (hq0 : Boxed w0 q0 93 (.func (.func 82) #[] #[.pointer (some ⟨mb, 0, none⟩)])) (hcb : Boxed w0 cb 24 (.slice a n cap)) (hmb : w0.cell? ⟨mb, 0, none⟩ = some (.map (some B)))
    (hself : Boxed w0 (N + 1) 70 (.func (.func 83) #[] #[.pointer (some ⟨q0, 0, none⟩), .pointer (some ⟨cb, 0, none⟩), .pointer (some ⟨N, 0, none⟩), .pointer (some ⟨N + 1, 0, none⟩)]))
    (lq : q0 < N) (lc : cb < N) (lm : mb < N) (lB : B < N) (hn : n ≤ 12) :
    ∀ (m f s : Nat) (L : List Int) (w : World), TryW w0 N L w → f ≤ n → s < 4096 → m ≤ 12 → L.length + m ≤ 12 →
    Calls Try.prog 83 #[.int .i64 f, .int .i64 s, .int .i64 m, .pointer (some ⟨q0, 0, none⟩), .pointer (some ⟨cb, 0, none⟩), .pointer (some ⟨N, 0, none⟩), .pointer (some ⟨N + 1, 0, none⟩)] w fun e w' =>
      e = .returned (.bool (search n (clM ms) m f s).isSome) ∧ TryW w0 N (L ++ ((search n (clM ms) m f s).getD []).map (fun i : Nat => (i : Int))) w' := by
  intro m
  have eg1 := enters_of Try.func82 (by kernel_rfl) rfl
  have eg2 := enters_of Try.func83 (by kernel_rfl) rfl
  have HC1 := hid (fun (W : World) (hb : Below N w0 W) (hs : N ≤ W.heap.size) (s : Nat) (h : s < 4096) => clash1_c W B nm D ms hk hms (by
    obtain ⟨es, clock, hbk, F, h1, h2⟩ := hown
    exact ⟨es, clock, (hb.block B lB).trans hbk, F, h1, h2⟩) mb ((hb.cell (p := ⟨mb, 0, none⟩) lm).trans hmb) s h)
  have HQ := hid (fun (W : World) (hb : Below N w0 W) => show Boxed W q0 93 (.func (.func 82) #[] #[.pointer (some ⟨mb, 0, none⟩)]) from (hb.block q0 lq).trans hq0)
  have HCB := hid (fun (W : World) (hb : Below N w0 W) => show Boxed W cb 24 (.slice a n cap) from (hb.block cb lc).trans hcb)
  have HSF := hid hself
  clear hown hq0 hcb hself hk hms hmb
  induction m with
  | zero =>
    intro f s L w hw hf hs hm hL
    have HW := hid hw
    have c0 := (HQ.out w hw.1).cell
    have HC := hid (HC1.out w hw.1 (by have := hw.2.2.1; omega) s hs)
    clear hw
    go_enter Try.func83, Try.ntmps83
    go_wp2_with (refine HC.out.mono ?_; rintro e w1 ⟨rfl, hb1⟩)
    go_ret
    refine ⟨ret_bool ?_, ?_⟩
    · unfold search; split <;> simp_all
    · have : (search n (clM ms) 0 f s).getD [] = [] := by unfold search; split <;> rfl
      rw [this]
      simpa using HW.out.below hb1
  | succ m ih =>
    intro f s L w hw hf hs hm hL
    have HI := hid (fun (f s : Nat) (L : List Int) (W : World) (h : TryW w0 N L W) (h1 : f ≤ n) (h2 : s < 4096) (h3 : L.length + m ≤ 12) => ih f s L W h h1 h2 (by omega) h3)
    have HW := hid hw
    obtain ⟨fs, hfs⟩ : ∃ fs : Nat → Option (List Nat), fs = fun i => (search n (clM ms) m (i + 1) (s ||| 2 ^ i)).map (i :: ·) := ⟨_, rfl⟩
    have hse : search n (clM ms) (m + 1) f s = (List.range' f (n - f)).findSome? fs := by rw [hfs]; rfl
    have HSE := hid hse
    have HFS := hid hfs
    have hL12 : L.length ≤ 12 := by omega
    have HL := hid hL
    obtain ⟨M, hM⟩ : ∃ M : Nat, M = m + 1 := ⟨_, rfl⟩
    have hM0 : ((M : Int) == 0) = false := by simp; omega
    have hM12 : M ≤ 12 := by omega
    have HMM := hid hM
    rw [← hM]
    clear hw ih hse hfs hL hM hm
    go_enter Try.func83, Try.ntmps83
    go_wp2
    go_loopw [11] (fun s11 wr => ∃ i : Nat, i ≤ n ∧ f ≤ i ∧ s11 = .int .i64 i ∧ Hid (TryW w0 N L wr ∧ (List.range' i (n - i)).findSome? fs = (List.range' f (n - f)).findSome? fs)) (fun i _ => n - (intOf i).toNat)
    case atStart => exact ⟨f, hf, Nat.le_refl _, rfl, hid ⟨HW.out, rfl⟩⟩
    case round =>
      obtain ⟨i, hin, hfi, rfl, HH⟩ := hrel
      have c4 := (HCB.out wr HH.out.1.1).cell
      by_cases hlt : i < n
      · obtain ⟨v, hbv, hov⟩ := HH.out.1.2.2.2
        obtain ⟨va, vc, rfl⟩ := ownsRow_slice hov
        have c5 := hbv.cell
        have c5f := hbv.frozen
        have hNs : N < wr.heap.size := by have := HH.out.1.2.2.1; omega
        have N1 := one_news wr (.int .i64 (i : Int)) 3
        have hba : Below wr.heap.size wr (wr.alloc (.cells #[.int .i64 (i : Int)] 3)) := (Below.refl _ _).alloc (Nat.le_refl _) _
        have N3 := hov.alloc (.cells #[.int .i64 (i : Int)] 3)
        have M5 := hid (show L.length + 1 ≤ maxLen by unfold maxLen; omega)
        have M6 := hid (show (L.length + 1) * 8 ≤ 140737488355328 by omega)
        have M7 := hid (show N + 2 ≤ (wr.alloc (.cells #[.int .i64 (i : Int)] 3)).heap.size by have := HH.out.1.2.2.1; have := hba.size; omega)
        have HN1 := hid N1
        have HN3 := hid N3
        have HBA := hid hba
        have HBV := hid hbv
        obtain ⟨ln, hln⟩ : ∃ n, n = L.length := ⟨_, rfl⟩
        have HLN := hid hln
        rw [← hln] at HN3 M5 M6 c5 hL12 HL
        clear N1 N3 hba hbv hov hln
        go_wp2_with (at_builtin; refine wpList_app _ rfl (.tmp 24) (.tmp 26) 25 rfl (N + 2) 3 (.int .i64 0) 1 8 Try.underlying25 info_int rfl Nat.one_pos (.slice va ln vc) ln (L.map (Value.int .i64)) rfl HN3.out (some ⟨wr.heap.size, 0, none⟩) 1 1 [.int .i64 (i : Int)] rfl rfl no_none HN1.out (ints_oneCell .i64 [(i : Int)]) M5.out M6.out M7.out ?_; refine Stop.of ?_)
        refine Stop.go ?_
        intro a5 c5' w5 own5 g5
        have hown : ∀ k, Value.ownBlock (.slice va ln vc) = some k → N + 2 ≤ k := fun k hk => (HN3.out.lt k hk).1
        have hkw : Keep (fun k => k < N + 2) wr w5 := (Keep.of_below HBA.out).trans ((Keep.grown g5).mono fun k hk h => by have := hown k h.symm; omega)
        have hb5 : Below N w0 w5 := hkw.below HH.out.1.1 (by have := HH.out.1.2.2.1; omega) (fun k hk => by omega)
        have h51 : w5.heap[N + 1]? = w0.heap[N + 1]? := (hkw.block _ (by have := HH.out.1.2.2.1; omega) (by omega)).trans HH.out.1.2.1
        have hv5 : Boxed w5 N 25 (.slice va ln vc) := (hkw.block _ hNs (by omega)).trans (by rw [HLN.out]; exact HBV.out)
        have d5 := hv5.cell
        have d5f := hv5.frozen
        have hs5 : N + 2 ≤ w5.heap.size := by have := HH.out.1.2.2.1; have := hkw.size; omega
        have hT6 : TryW w0 N (L ++ [(i : Int)]) (w5.setCell ⟨N, 0, none⟩ (.slice a5 (ln + 1) c5')) := by
          refine TryW.set (L := L ++ [(i : Int)]) hb5 h51 hs5 hv5 ?_
          rw [List.length_append, List.map_append, ← HLN.out]
          exact own5
        have HT6 := hid hT6
        have h2i : 2 ^ i < 4096 := by
          calc 2 ^ i < 2 ^ 12 := Nat.pow_lt_pow_right (by omega) (by omega)
            _ = 4096 := by decide
        have hsi : s ||| 2 ^ i < 4096 := Nat.or_lt_two_pow (n := 12) (by omega) (by omega)
        have HIi := hid (fun (W : World) (h : TryW w0 N (L ++ [(i : Int)]) W) => HI.out (i + 1) (s ||| 2 ^ i) (L ++ [(i : Int)]) W h (by omega) hsi (by have := HL.out; rw [List.length_append, ← HLN.out]; simp; omega))
        obtain ⟨w6, hw6⟩ : ∃ w6, w6 = w5.setCell ⟨N, 0, none⟩ (.slice a5 (ln + 1) c5') := ⟨_, rfl⟩
        rw [← hw6] at HT6
        have HW6 := hid hw6
        obtain ⟨pw, hpw⟩ : ∃ pw : Nat, pw = 2 ^ i := ⟨_, rfl⟩
        obtain ⟨so, hso⟩ : ∃ so : Nat, so = s ||| 2 ^ i := ⟨_, rfl⟩
        have HPW := hid (And.intro hpw hso)
        clear hpw hso
        clear hw6 hT6 own5 g5 hown hkw hb5 h51 hv5 c5 c5f
        go_wp2
        rw [← HW6.out]
        obtain ⟨sr, hsr⟩ : ∃ sr, sr = search n (clM ms) m (i + 1) (s ||| 2 ^ i) := ⟨_, rfl⟩
        have HSR := hid hsr
        rw [← hsr, ← HPW.out.2] at HIi
        clear hsr
        refine region_cut (TryR i s m M pw so sr.isSome w0 N (L ++ [(i : Int)] ++ (sr.getD []).map (fun i : Nat => (i : Int))) #[.pointer (some ⟨q0, 0, none⟩), .pointer (some ⟨cb, 0, none⟩), .pointer (some ⟨N, 0, none⟩), .pointer (some ⟨N + 1, 0, none⟩)]) ?_ ?_
        · refine plain_region (fun j w' => (fun _ : Nat => true) j = true → w'.cell? ⟨N + 1, 0, none⟩ = some (.func (.func 83) #[] #[.pointer (some ⟨q0, 0, none⟩), .pointer (some ⟨cb, 0, none⟩), .pointer (some ⟨N, 0, none⟩), .pointer (some ⟨N + 1, 0, none⟩)])) (by kernel_rfl) ?_
          have hbd : Below w6.heap.size w6 w6.drew := (Below.refl _ _).drew
          have hTd := HT6.out.below hbd
          generalize w6.drew = wd at hbd hTd ⊢
          have hself : wd.cell? ⟨N + 1, 0, none⟩ = some (.func (.func 83) #[] #[.pointer (some ⟨q0, 0, none⟩), .pointer (some ⟨cb, 0, none⟩), .pointer (some ⟨N, 0, none⟩), .pointer (some ⟨N + 1, 0, none⟩)]) := (Boxed.cell (show Boxed _ _ _ _ from hTd.2.1.trans HSF.out))
          have q1 := IntWalk.i64_in ((i : Int) + 1) (by omega)
          have q2 : bits .or .i64 (s : Int) (pw : Int) = (so : Int) := by rw [HPW.out.1, HPW.out.2]; exact or_i64 hs h2i
          have q3 : IntKind.i64.wrap ((2 : Int) ^ i) = (pw : Int) := by
            have e : ((2 : Int) ^ i) = ((2 ^ i : Nat) : Int) := by push_cast; rfl
            rw [e, ← HPW.out.1]
            have h2 := h2i
            rw [← HPW.out.1] at h2
            exact IntWalk.i64_in _ (by omega)
          have q4 : IntKind.i64.wrap ((M : Int) - 1) = (m : Int) := by rw [HMM.out, show ((m + 1 : Nat) : Int) - 1 = (m : Int) by omega]; exact IntWalk.i64_in (m : Int) (by have := HMM.out; omega)
          refine AnyT.takeW (i := 0) (v := .func (.func 83) #[] #[.pointer (some ⟨q0, 0, none⟩), .pointer (some ⟨cb, 0, none⟩), .pointer (some ⟨N, 0, none⟩), .pointer (some ⟨N + 1, 0, none⟩)]) rfl (by kernel_rfl) (by kernel_rfl) (by kernel_rfl) (fun _ _ _ h => absurd h.1 (by simp)) (by kernel_rfl) (by rfl) (by intro w' hw'; go_simp) hself ?_
          refine AnyT.takeW (i := 1) (v := .int .i64 i) rfl (by kernel_rfl) (by kernel_rfl) (by kernel_rfl) (fun _ _ _ h => absurd h.1 (by simp)) (by kernel_rfl) (by rfl) (by intro w' hw'; go_simp) hself ?_
          refine AnyT.takeW (i := 2) (v := .int .i64 ((i : Int) + 1)) rfl (by kernel_rfl) (by kernel_rfl) (by kernel_rfl) (fun _ _ _ h => absurd h.1 (by simp)) (by kernel_rfl) (by rfl) (by intro w' hw'; go_simp) hself ?_
          refine AnyT.takeW (i := 3) (v := .int .i64 s) rfl (by kernel_rfl) (by kernel_rfl) (by kernel_rfl) (fun _ _ _ h => absurd h.1 (by simp)) (by kernel_rfl) (by rfl) (by intro w' hw'; go_simp) hself ?_
          refine AnyT.takeW (i := 4) (v := .int .i64 i) rfl (by kernel_rfl) (by kernel_rfl) (by kernel_rfl) (fun _ _ _ h => absurd h.1 (by simp)) (by kernel_rfl) (by rfl) (by intro w' hw'; go_simp) hself ?_
          refine AnyT.takeW (i := 5) (v := .int .i64 (pw : Int)) rfl (by kernel_rfl) (by kernel_rfl) (by kernel_rfl) (fun _ _ _ h => absurd h.1 (by simp)) (by kernel_rfl) (by rfl) (by intro w' hw'; go_simp) hself ?_
          refine AnyT.takeW (i := 6) (v := .int .i64 (so : Int)) rfl (by kernel_rfl) (by kernel_rfl) (by kernel_rfl) (fun _ _ _ h => absurd h.1 (by simp)) (by kernel_rfl) (by rfl) (by intro w' hw'; go_simp) hself ?_
          refine AnyT.takeW (i := 7) (v := .int .i64 (M : Int)) rfl (by kernel_rfl) (by kernel_rfl) (by kernel_rfl) (fun _ _ _ h => absurd h.1 (by simp)) (by kernel_rfl) (by rfl) (by intro w' hw'; go_simp) hself ?_
          refine AnyT.takeW (i := 8) (v := .int .i64 (m : Int)) rfl (by kernel_rfl) (by kernel_rfl) (by kernel_rfl) (fun _ _ _ h => absurd h.1 (by simp)) (by kernel_rfl) (by rfl) (by intro w' hw'; go_simp) hself ?_
          have HD := hid (HIi.out wd hTd)
          clear q1 q2 q3 q4
          refine AnyT.next (i := 9) (by kernel_rfl) rfl (wpOp_of_list rfl ?_)
          go_wp2_with (refine HD.out.mono ?_; rintro e w7 ⟨rfl, hw7⟩)
          have hs7 : w7.cell? ⟨N + 1, 0, none⟩ = some (.func (.func 83) #[] #[.pointer (some ⟨q0, 0, none⟩), .pointer (some ⟨cb, 0, none⟩), .pointer (some ⟨N, 0, none⟩), .pointer (some ⟨N + 1, 0, none⟩)]) := (Boxed.cell (show Boxed _ _ _ _ from hw7.2.1.trans HSF.out))
          exact ⟨by first | exact hs7 | exact fun _ => hs7, by kernel_rfl, rfl, (by go_frame), hw7⟩
        · rintro fr' w7 ⟨rfl, hw7⟩
          have HT7 := hid hw7
          have hss := congrArg (fun f => f i) HFS.out
          simp only [] at hss
          rw [← HSR.out] at hss
          have hrange : List.range' i (n - i) = i :: List.range' (i + 1) (n - (i + 1)) := by
            rw [show n - i = (n - (i + 1)) + 1 by omega, List.range'_succ]
          have hfind := HH.out.2
          rw [hrange, List.findSome?_cons, hss] at hfind
          have HFD := hid hfind
          clear hfind hss hrange hw7
          go_frame
          cases hsr : sr with
          | some t0 =>
            rw [hsr] at HT7 HFD
            simp only [Option.isSome_some]
            go_wp2
            go_ret
            have hq : search n (clM ms) M f s = some (i :: t0) := by rw [HMM.out, HSE.out, ← HFD.out]; rfl
            rw [hq]
            refine ⟨rfl, ?_⟩
            have h7 := HT7.out
            simpa using h7
          | none =>
            rw [hsr] at HT7 HFD
            simp only [Option.isSome_none]
            have h7 := HT7.out
            simp only [Option.getD_none, List.map_nil, List.append_nil] at h7
            obtain ⟨t1, t2, t3, v7, hb7, ho7⟩ := h7
            have hl7 : (L ++ [(i : Int)]).length = ln + 1 := by rw [List.length_append, ← HLN.out]; rfl
            rw [hl7, List.map_append] at ho7
            obtain ⟨g7, cp7, rfl, _, _⟩ := ho7.form (by omega)
            have hcp : ln + 1 ≤ cp7 := by
              rcases ho7.2 with ⟨h, _⟩ | ⟨_, _, _, h, _, _, h2, _⟩
              · cases h
              · cases h; exact h2
            have d7 := hb7.cell
            have d7f := hb7.frozen
            have HPOP := hid (ownsRow_pop (by rw [List.length_map, ← HLN.out]; omega) ho7)
            have HB7 := hid (And.intro t1 (And.intro t2 (And.intro t3 hb7)))
            clear ho7 hb7 t1 t2 t3 d5 d5f c4
            go_wp2
            refine ⟨⟨i + 1, by omega, by omega, by go_num, hid ⟨TryW.set (L := L) HB7.out.1 HB7.out.2.1 HB7.out.2.2.1 HB7.out.2.2.2 (by rw [← HLN.out]; exact HPOP.out), HFD.out⟩⟩, by simp [intOf]; omega⟩
      · obtain rfl : i = n := by omega
        go_wp2
        go_ret
        have hq : search i (clM ms) M f s = none := by
          rw [HMM.out, HSE.out, ← HH.out.2, Nat.sub_self]; rfl
        rw [hq]
        exact ⟨rfl, by simpa using HH.out.1⟩
end Go.Proofs.Ytdcflpfaaeijoaa
