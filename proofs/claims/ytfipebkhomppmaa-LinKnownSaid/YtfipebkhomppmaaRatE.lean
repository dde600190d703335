/- Plain: the reference's reduction by one column more. · Columns of reference 03 as a table of rows of their own. · Blocks of fractions; rows with a reading's numbers behind them. -/
import Derived.Test.YtfipebkhomppmaaLinS
import Derived.Test.YtfipebkhomppmaaRatC
import Derived.Maps.AppendAt
import Derived.Laws.MakeOwn
namespace Go.Proofs.Ytfipebkhomppmaa
section
set_option linter.unusedVariables false

/-- one column more, the last one -/
theorem rRed_le1 {n B : Nat} {L : List (List Int)} (hw : ∀ r ∈ L, r.length = n + 1) (h : ∀ r ∈ (rRed L n).done ++ (rRed L n).left, ∀ x ∈ r, -(B : Int) ≤ x ∧ x ≤ (B : Int)) :
    ∀ r ∈ (rRed L (n + 1)).done ++ (rRed L (n + 1)).left, ∀ x ∈ r, -(B : Int) ≤ x ∧ x ≤ (B : Int) := by
  obtain ⟨hi, hd⟩ := rRed_inv L hw n
  have hwid := hi.wid
  rw [rRed_succ]
  obtain ⟨s, hs⟩ : ∃ s, s = rRed L n := ⟨_, rfl⟩
  rw [← hs] at h hi hd hwid ⊢
  unfold rStep
  cases hl : lastIx (nz n) s.left with
  | none => exact h
  | some a =>
    simp only []
    obtain ⟨ha, hnz⟩ := lastIx_some hl
    have hnz' : vec s.left[a] n ≠ 0 := by simpa [nz] using hnz
    have hlen := hi.len
    rw [List.length_append] at hlen
    have hrow : rowv (s.done ++ s.left) (s.piv.length + a) = vec s.left[a] := by
      unfold rowv
      rw [List.getElem?_append_right (by omega), show s.piv.length + a - s.done.length = a by omega, List.getElem?_eq_getElem ha]; rfl
    have hz : ∀ c, c < n → vec s.left[a] c = 0 := fun c hc => by rw [← hrow]; exact hi.zero _ (by omega) (by omega) c hc
    have hz2 : ∀ c, n < c → vec s.left[a] c = 0 := fun c hc => vec_ge (by rw [hwid _ (List.mem_append_right _ (List.getElem_mem ha))]; omega)
    have hpr : Prim (vec s.left[a]) := by
      rw [← hrow]
      rcases hi.pr (s.piv.length + a) (by omega) with h1 | h1 | ⟨q0, h1⟩
      · exact h1
      · rw [hrow] at h1; exact absurd (h1 n) hnz'
      · rcases rowv_prim L q0 with h2 | h2
        · have : rowv (s.done ++ s.left) (s.piv.length + a) = rowv (L.map primF) q0 := funext h1
          rw [this]; exact h2
        · have := h1 n
          rw [h2 n, hrow] at this
          exact absurd this hnz'
    obtain ⟨z, hzz, hpz⟩ := posF_mul (s.left[a]) n
    have hpp := posF_pos hnz'
    rw [List.getElem?_eq_getElem ha]
    simp only [Option.getD_some]
    obtain ⟨p, hp⟩ : ∃ p, p = posF s.left[a] n := ⟨_, rfl⟩
    rw [← hp] at hpz hpp ⊢
    have hpl : p.length = n + 1 := by rw [hp, posF_len]; exact hwid _ (List.mem_append_right _ (List.getElem_mem ha))
    have hpc : ∀ c, c < n → vec p c = 0 := fun c hc => by rw [hpz c, hz c hc]; simp
    have hone : vec p n = 1 := by
      have h1 : vec s.left[a] n ∣ 1 := hpr _ (fun c => by
        rcases Nat.lt_trichotomy c n with h1 | h1 | h1
        · rw [hz c h1]; exact Int.dvd_zero _
        · rw [h1]; exact Int.dvd_refl _
        · rw [hz2 c h1]; exact Int.dvd_zero _)
      have h2 : (vec s.left[a] n).natAbs = 1 := by
        have := Int.natAbs_dvd_natAbs.2 h1
        exact Nat.dvd_one.1 (by simpa using this)
      have h3 := hpz n
      rcases hzz with rfl | rfl <;> omega
    have hpB : ∀ x ∈ p, -(B : Int) ≤ x ∧ x ≤ (B : Int) := by
      refine mem_vec (P := fun x => -(B : Int) ≤ x ∧ x ≤ (B : Int)) fun c => ?_
      have := vec_mem (P := fun x => -(B : Int) ≤ x ∧ x ≤ (B : Int)) (by omega) (h _ (List.mem_append_right _ (List.getElem_mem ha))) c
      rw [hpz c]
      rcases hzz with rfl | rfl <;> omega
    have hwo : ∀ r ∈ s.done ++ s.left, ∀ x ∈ withoutF p n r, -(B : Int) ≤ x ∧ x ≤ (B : Int) := by
      intro r hr
      refine mem_vec (P := fun x => -(B : Int) ≤ x ∧ x ≤ (B : Int)) fun c => ?_
      unfold withoutF
      refine primF_le ?_
      rw [vec_zip (by simp) (by rw [hwid r hr, hpl])]
      have := vec_mem (P := fun x => -(B : Int) ≤ x ∧ x ≤ (B : Int)) (by omega) (h r hr) c
      rw [hone]
      rcases Nat.lt_trichotomy c n with h1 | h1 | h1
      · rw [hpc c h1]; omega
      · subst h1; rw [hone]; omega
      · rw [vec_ge (l := p) (by omega), vec_ge (l := r) (by rw [hwid r hr]; omega)]; omega
    intro r hr
    rcases List.mem_append.1 hr with hr | hr
    · rcases List.mem_append.1 hr with hr | hr
      · obtain ⟨r', h1, rfl⟩ := List.mem_map.1 hr
        exact hwo r' (List.mem_append_left _ h1)
      · obtain rfl : r = p := by simpa using hr
        exact hpB
    · obtain ⟨r', h1, rfl⟩ := List.mem_map.1 hr
      exact hwo r' (List.mem_append_right _ (List.mem_of_mem_eraseIdx h1))
end

section
open Go.RowKit
set_option linter.unusedVariables false

/-- a row of the call's own -/
def OwnR (W : World) (base : Nat) (u : Value) (l : List Int) : Prop := W.ownsRow base 3 1 u l.length (l.map (Value.int .i64))
theorem OwnR.type {W : World} {base k : Nat} {u : Value} {l : List Int} (h : OwnR W base u l) (hk : u.ownBlock = some k) : base ≤ k ∧ k < W.heap.size ∧ ∃ c, W.heap[k]? = some (.cells c 3 (0, 0)) := by
  rcases h.2 with ⟨rfl, _⟩ | ⟨g, cap, cur, rfl, hbg, hgg, _⟩
  · simp [Value.ownBlock] at hk
  · obtain rfl : g = k := by simpa [Value.ownBlock] using hk
    exact ⟨hbg, (Array.getElem?_eq_some_iff.1 hgg).1, cur, hgg⟩
theorem OwnR.moved {W W' : World} {base : Nat} {u : Value} {l : List Int} (h : OwnR W base u l) (hm : ∀ k, u.ownBlock = some k → W'.heap[k]? = W.heap[k]?) : OwnR W' base u l := by
  refine ⟨h.1, ?_⟩
  rcases h.2 with hn | ⟨g, cap, cur, rfl, hbg, hgg, rest⟩
  · exact .inl hn
  · exact .inr ⟨g, cap, cur, rfl, hbg, (hm g rfl).trans hgg, rest⟩
theorem OwnR.low {W : World} {base b0 : Nat} {u : Value} {l : List Int} (h : OwnR W base u l) (hb : b0 ≤ base) : OwnR W b0 u l := by
  refine ⟨h.1, ?_⟩
  rcases h.2 with hn | ⟨g, cap, cur, rfl, hbg, rest⟩
  · exact .inl hn
  · exact .inr ⟨g, cap, cur, rfl, by omega, rest⟩
theorem OwnR.below {W W' : World} {base : Nat} {u : Value} {l : List Int} (h : OwnR W base u l) (hb : Below W.heap.size W W') : OwnR W' base u l := h.moved fun k hk => hb.block k (h.type hk).2.1
theorem OwnR.rowS {W : World} {base : Nat} {u : Value} {l : List Int} (h : OwnR W base u l) : RowS W u l := rowS_own h rfl

/-- an owned table of rows of their own -/
def TabD (W : World) (base : Nat) (v : Value) (L : List (List Int)) : Prop :=
  ∃ vs, W.ownsRow base 31 1 v L.length vs ∧ (∀ j (hj : j < L.length), ∃ u, vs[j]? = some u ∧ OwnR W base u L[j]) ∧
    ∀ (i j : Nat) (u u' : Value) (k : Nat), vs[i]? = some u → vs[j]? = some u' → u.ownBlock = some k → u'.ownBlock = some k → i = j
theorem TabD.nil (W : World) (base : Nat) : TabD W base (.slice none 0 0) [] := ⟨[], World.ownsRow_nil _ _ _ _, fun j hj => by simp at hj, fun i j u u' k h => by simp at h⟩
theorem TabD.tab {W : World} {base : Nat} {v : Value} {L : List (List Int)} (h : TabD W base v L) : TabS W base v L := by
  obtain ⟨vs, h1, h2, _⟩ := h
  exact ⟨vs, h1, fun j hj => by obtain ⟨u, e, h⟩ := h2 j hj; exact ⟨u, e, h.rowS⟩⟩
theorem TabD.below {W W' : World} {base : Nat} {v : Value} {L : List (List Int)} (h : TabD W base v L) (hb : Below W.heap.size W W') : TabD W' base v L := by
  obtain ⟨vs, h1, h2, h3⟩ := h
  refine ⟨vs, own_below h1 hb, fun j hj => ?_, h3⟩
  obtain ⟨u, hu, hr⟩ := h2 j hj
  exact ⟨u, hu, hr.below hb⟩
theorem own_typeL {W : World} {base k n : Nat} {v : Value} {vs : List Value} (h : W.ownsRow base 31 1 v n vs) (hk : v.ownBlock = some k) : base ≤ k ∧ k < W.heap.size ∧ ∃ c, W.heap[k]? = some (.cells c 31 (0, 0)) := by
  rcases h.2 with ⟨rfl, _⟩ | ⟨g, cap, cur, rfl, hbg, hgg, _⟩
  · simp [Value.ownBlock] at hk
  · obtain rfl : g = k := by simpa [Value.ownBlock] using hk
    exact ⟨hbg, (Array.getElem?_eq_some_iff.1 hgg).1, cur, hgg⟩
theorem TabD.snoc {W w1 w3 : World} {base : Nat} {v v' u : Value} {L : List (List Int)} {r : List Int} {vs : List Value} (h1 : W.ownsRow base 31 1 v L.length vs)
    (h2 : ∀ j (hj : j < L.length), ∃ u, vs[j]? = some u ∧ OwnR W base u L[j]) (h3 : ∀ (i j : Nat) (u u' : Value) (k : Nat), vs[i]? = some u → vs[j]? = some u' → u.ownBlock = some k → u'.ownBlock = some k → i = j)
    (hb : Below W.heap.size W w1) (hbase : base ≤ W.heap.size) (hr : OwnR w1 W.heap.size u r) (hg : w1.grownBy w3 v.ownBlock)
    (ho' : w3.ownsRow base 31 1 v' (L.length + 1) (vs ++ [u])) : TabD w3 base v' (L ++ [r]) := by
  have hlen : vs.length = L.length := by have := h1.1; omega
  have hup : ∀ b u l, OwnR w1 b u l → OwnR w3 b u l := by
    intro b u l hu
    refine hu.moved fun k hk => ?_
    obtain ⟨_, hlt, c, hc⟩ := hu.type hk
    refine hg.block k hlt ?_
    intro e
    obtain ⟨_, h4, c2, hc2⟩ := own_typeL h1 e.symm
    have := (hb.block k h4).trans hc2
    rw [hc] at this; cases this
  have hold : ∀ j q k, j < L.length → vs[j]? = some q → q.ownBlock = some k → k < W.heap.size := by
    intro j q k hj hq hk
    obtain ⟨u', hu', hr'⟩ := h2 j hj
    rw [hq] at hu'; cases hu'
    exact (hr'.type hk).2.1
  refine ⟨vs ++ [u], by simpa using ho', fun j hj => ?_, ?_⟩
  · simp only [List.length_append, List.length_cons, List.length_nil, Nat.zero_add] at hj
    by_cases hjl : j < L.length
    · obtain ⟨u', hu', hr'⟩ := h2 j hjl
      rw [List.getElem_append_left hjl]
      exact ⟨u', by rw [List.getElem?_append_left (by omega)]; exact hu', hup _ _ _ (hr'.below hb)⟩
    · obtain rfl : j = L.length := by omega
      rw [List.getElem_append_right (Nat.le_refl _)]
      simp only [Nat.sub_self, List.getElem_cons_zero]
      exact ⟨u, by rw [List.getElem?_append_right (by omega), hlen]; simp, hup _ _ _ (hr.low hbase)⟩
  · intro i j q q' k hi hj hk hk'
    have hin : ∀ {i : Nat} {q : Value}, (vs ++ [u])[i]? = some q → (i < L.length ∧ vs[i]? = some q) ∨ (i = L.length ∧ q = u) := by
      intro i q h
      rcases Nat.lt_or_ge i L.length with h4 | h4
      · rw [List.getElem?_append_left (by omega)] at h; exact .inl ⟨h4, h⟩
      · rw [List.getElem?_append_right (by omega), hlen] at h
        rcases Nat.eq_or_lt_of_le h4 with h5 | h5
        · rw [← h5, Nat.sub_self] at h; exact .inr ⟨h5.symm, by simpa using h.symm⟩
        · rw [List.getElem?_eq_none (by simp; omega)] at h; cases h
    rcases hin hi with ⟨h4, h5⟩ | ⟨h4, rfl⟩ <;> rcases hin hj with ⟨h6, h7⟩ | ⟨h6, h8⟩
    · exact h3 i j q q' k h5 h7 hk hk'
    · subst h8
      have := hold i q k h4 h5 hk
      have := (hr.type hk').1
      omega
    · have := hold j q' k h6 h7 hk'
      have := (hr.type hk).1
      omega
    · omega
/-- the header at i; a row grown by append and stored there -/
theorem TabD.at {W : World} {base n : Nat} {v : Value} {L : List (List Int)} (h : TabD W base v L) (hl : L.length = n) {i : Nat} (hi : i < n) :
    ∃ g0 cap u, v = .slice (some ⟨g0, 0, none⟩) n cap ∧ base ≤ g0 ∧ g0 < W.heap.size ∧ W.cell? ⟨g0, i, none⟩ = some u ∧ OwnR W base u (L[i]?.getD []) ∧ W.frozen? ⟨g0, i, none⟩ = false ∧ (∀ k, u.ownBlock = some k → k ≠ g0) ∧
      ∀ w1 w3 u' r, Below W.heap.size W w1 → w1.grownBy w3 u.ownBlock → OwnR w3 base u' r → (u'.ownBlock = u.ownBlock ∨ u'.ownBlock = some w1.heap.size) → TabD (w3.setCell ⟨g0, i, none⟩ u') base v (L.set i r) := by
  subst hl
  obtain ⟨vs, h1, h2, h3⟩ := h
  obtain ⟨u, hu, hr⟩ := h2 i hi
  rcases h1.2 with ⟨rfl, h0⟩ | ⟨g0, cap, cur, rfl, hbg, hgg, hnc, hcm, hsz, htk⟩
  · omega
  have hcell := World.ownsRow.cellAt (w := W) (base := base) (e := 31) (size := 1) (g := g0) (n := L.length) (cap := cap) (xs := vs) h1 i (by omega)
  have hvl : vs.length = L.length := by have := h1.1; omega
  have hg0 : g0 < W.heap.size := (Array.getElem?_eq_some_iff.1 hgg).1
  have hne : ∀ (j : Nat) (q : Value) (k : Nat), j < L.length → vs[j]? = some q → q.ownBlock = some k → k < W.heap.size ∧ k ≠ g0 := by
    intro j q k hj hq hk
    obtain ⟨u', hu', hr'⟩ := h2 j hj
    rw [hq] at hu'; cases hu'
    obtain ⟨_, h4, c, hc⟩ := hr'.type hk
    refine ⟨h4, ?_⟩
    rintro rfl
    rw [hgg] at hc; cases hc
  refine ⟨g0, cap, u, rfl, hbg, hg0, by rw [hcell]; exact hu, by rw [List.getElem?_eq_getElem hi]; exact hr, by simp [World.frozen?, hgg], fun k hk => (hne i u k hi hu hk).2, ?_⟩
  intro w1 w3 u' r hb hg hr' hat
  have hkeep : ∀ k, k ≠ g0 → (w3.setCell ⟨g0, i, none⟩ u').heap[k]? = w3.heap[k]? := fun k hk => Below.heap_setCell _ _ _ _ hk
  have hold : ∀ k, k < W.heap.size → u.ownBlock ≠ some k → w3.heap[k]? = W.heap[k]? := fun k hk hn => (hg.block k (Nat.lt_of_lt_of_le hk hb.size) (fun e => hn e.symm)).trans (hb.block k hk)
  have hg3 : w3.heap[g0]? = some (.cells cur 31 (0, 0)) := (hold g0 hg0 (fun e => (hne i u g0 hi hu e).2 rfl)).trans hgg
  have hb2 : (w3.setCell ⟨g0, i, none⟩ u').heap[g0]? = some (.cells (cur.setIfInBounds i u') 31 (0, 0)) := cells_set hg3 i u'
  have hnew : ∀ k, u'.ownBlock = some k → k ≠ g0 := by
    intro k hk
    obtain ⟨_, _, c, hc⟩ := hr'.type hk
    rintro rfl
    rw [hg3] at hc; cases hc
  refine ⟨vs.set i u', ⟨by simpa using h1.1, .inr ⟨g0, cap, cur.setIfInBounds i u', by simp, hbg, hb2, by simpa using hnc, hcm, by simpa using hsz, ?_⟩⟩, fun j hj => ?_, ?_⟩
  · rw [← htk]
    simp only [Array.toList_setIfInBounds, List.length_set, Nat.mul_one]
    rw [List.take_set]
  · have hj' : j < L.length := by simpa using hj
    by_cases e : i = j
    · subst e
      exact ⟨u', by simp [hvl, hj'], by simpa using hr'.moved fun k hk => hkeep k (hnew k hk)⟩
    · obtain ⟨u2, hu2, hr2⟩ := h2 j hj'
      refine ⟨u2, by rw [List.getElem?_set_ne e]; exact hu2, ?_⟩
      rw [List.getElem_set_ne e]
      refine hr2.moved fun k hk => (hkeep k (hne j u2 k hj' hu2 hk).2).trans (hold k (hne j u2 k hj' hu2 hk).1 fun e2 => e (h3 i j u u2 k hu hu2 e2 hk))
  · intro p q x y k hp hq hx hy
    have hin : ∀ {p : Nat} {x : Value}, (vs.set i u')[p]? = some x → (p = i ∧ x = u') ∨ (p ≠ i ∧ p < L.length ∧ vs[p]? = some x) := by
      intro p x h
      by_cases e : i = p
      · subst e
        rw [List.getElem?_set_self (by omega)] at h
        exact .inl ⟨rfl, (Option.some.inj h).symm⟩
      · rw [List.getElem?_set_ne e] at h
        exact .inr ⟨fun h => e h.symm, by have := (List.getElem?_eq_some_iff.1 h).1; omega, h⟩
    have hdif : ∀ {p : Nat} {x : Value}, p ≠ i → p < L.length → vs[p]? = some x → x.ownBlock = some k → u'.ownBlock = some k → False := by
      intro p x h4 h5 h6 h7 h8
      rcases hat with h9 | h9
      · rw [h9] at h8
        exact h4 (h3 p i x u k h6 hu h7 h8)
      · rw [h9] at h8
        have := (hne p x k h5 h6 h7).1
        have := hb.size
        cases h8; omega
    rcases hin hp with ⟨h4, h5⟩ | ⟨h4, h5, h6⟩ <;> rcases hin hq with ⟨h7, h8⟩ | ⟨h7, h8, h9⟩
    · omega
    · subst h5; exact (hdif h7 h8 h9 hy hx).elim
    · subst h8; exact (hdif h4 h5 h6 hx hy).elim
    · exact h3 p q x y k h6 h9 hx hy

set_option maxRecDepth 100000 in
set_option maxHeartbeats 4000000 in
theorem r3columnsD_c (w : World) (a : Option Addr) (n cap : Nat) (M : List (List Int)) (hn : M.length = n) (hn6 : n ≤ 1000) (H : RowsAt w a M) (a2 : Option Addr) (k2 cap2 : Nat) (S : List Int) (hk2 : S.length = k2) (hk21 : k2 ≤ 1000) (H2 : IntsAt w a2 S)
    (hS : ∀ r ∈ M, ∀ j ∈ S, 0 ≤ j ∧ j < r.length) :
    Calls Try.prog 67 #[.slice a n cap, .slice a2 k2 cap2] w fun e w' => ∃ v, e = .returned v ∧ TabD w' w.heap.size v (colsF M S) ∧ Below w.heap.size w w' := by
  have HN := hid hn
  have HH := hid H
  have HK2 := hid hk2
  have HH2 := hid H2
  have HS := hid hS
  have HCT := hid (fun (k : Nat) (hk : k < M.length) => colsF_take (M := M) (S := S) hk)
  have HCL := hid (colsF_len M S)
  obtain ⟨C, hC⟩ : ∃ C, C = colsF M S := ⟨_, rfl⟩
  rw [← hC] at HCT HCL ⊢
  clear hn H hk2 H2 hS hC
  go_enter Try.func67, Try.ntmps67
  go_wp2
  go_loopw [5, 13] (fun v i wr => ∃ k : Nat, k ≤ n ∧ i = .int .i64 k ∧ TabD wr w.heap.size v (C.take k) ∧ Below w.heap.size w wr) (fun _ i _ => n - (intOf i).toNat)
  case atStart => exact ⟨0, Nat.zero_le _, rfl, TabD.nil _ _, Below.refl _ _⟩
  case round =>
    obtain ⟨k, hk, rfl, ho, hbk⟩ := hrel
    obtain ⟨wo, hwo⟩ : ∃ wo, wo = wr := ⟨_, rfl⟩
    subst hwo
    by_cases hlt : k < n
    · have hkM : k < M.length := by rw [HN.out]; exact hlt
      obtain ⟨b, off, ra, rn, rc, rfl, hbs, hq0, hrn, hrm, hri⟩ := (HH.out.below hbk) k hkM
      have htk := HCT.out k hkM
      have hsr := HS.out M[k] (List.getElem_mem hkM)
      obtain ⟨r, hr⟩ : ∃ r, r = M[k] := ⟨_, rfl⟩
      rw [← hr] at htk hsr hrn hri
      have hlen : (C.take k).length = k := by rw [List.length_take, HCL.out]; omega
      have HL := hid hlen
      have HTK := hid htk
      have HSR := hid hsr
      have HRN := hid hrn
      have HRI := hid hri
      have HO := hid ho
      have HBK := hid hbk
      obtain ⟨va, vc, hv⟩ : ∃ va vc, u5 = .slice va k vc := by
        obtain ⟨_, ho1, _⟩ := ho
        obtain ⟨a', c', e⟩ := ownsRow_slice ho1
        exact ⟨a', c', by rw [e, hlen]⟩
      subst hv
      have M0 := World.ownsRow_made (base := wo.heap.size) (e := 3) (size := 1) wo #[] 0 (Nat.le_refl _) (Nat.zero_le _) rfl
      have HM0 := hid M0
      clear hr htk hsr hrn hri hkM ho hlen M0
      go_wp2
      go_loopw [8, 20] (fun v i wr => ∃ t : Nat, t ≤ k2 ∧ i = .int .i64 t ∧ wr.ownsRow wo.heap.size 3 1 v t (((S.take t).map (fun j => vec r j.toNat)).map (Value.int .i64)) ∧ Below wo.heap.size wo wr) (fun _ i _ => k2 - (intOf i).toNat)
      case atStart => exact ⟨0, Nat.zero_le _, rfl, HM0.out, (Below.refl _ _).alloc (Nat.le_refl _) _⟩
      case round =>
        obtain ⟨t, ht, rfl, hown, hbt⟩ := hrel
        by_cases hlt2 : t < k2
        · have htS : t < S.length := by rw [HK2.out]; exact hlt2
          obtain ⟨b2, off2, rfl, hbs2, hc2⟩ := (HH2.out.below (chain HBK.out hbt)) t htS
          have hpp := HSR.out S[t] (List.getElem_mem htS)
          have hg2 : S[t]?.getD 0 = S[t] := by rw [List.getElem?_eq_getElem htS]; rfl
          rw [hg2] at hc2
          have htk2 : (S.take (t + 1)).map (fun j => vec r j.toNat) = (S.take t).map (fun j => vec r j.toNat) ++ [vec r (S[t]).toNat] := by
            rw [List.take_succ_eq_append_getElem htS, List.map_append]; rfl
          obtain ⟨q, hq⟩ : ∃ q : Nat, S[t] = q := ⟨(S[t]).toNat, by omega⟩
          rw [hq] at hc2 hpp htk2
          rw [show ((q : Int)).toNat = q by omega] at htk2
          have hqr : q < r.length := by omega
          obtain ⟨b3, off3, rfl, hbs3, hc3⟩ := (HRI.out.below hbt) q hqr
          have hqn : (q : Int) < (rn : Int) := by have := HRN.out; omega
          have hq0' : (0 : Int) ≤ (q : Int) := by omega
          obtain ⟨x, hx⟩ : ∃ x, x = r[q]?.getD 0 := ⟨_, rfl⟩
          have hxv : vec r q = x := hx.symm
          rw [← hx] at hc3
          rw [hxv] at htk2
          obtain ⟨la, lc, rfl⟩ := ownsRow_slice hown
          have HTK2 := hid htk2
          have HOW := hid hown
          have M1 := hid (show t + 1 ≤ maxLen by unfold maxLen; omega)
          have M2 := hid (show (t + 1) * 8 ≤ 140737488355328 by omega)
          have M3 := hid (Nat.le_trans hbt.size (le_alloc wr (.cells #[.int .i64 x] 3)))
          clear hpp hg2 htk2 hq hx hxv hown htS hqr
          go_wp2_with (at_builtin; refine wpList_app _ rfl (.tmp 24) (.tmp 29) 31 rfl wo.heap.size 3 (.int .i64 0) 1 8 Try.underlying31 li_int rfl Nat.one_pos (.slice la t lc) t _ rfl (HOW.out.alloc _) (some ⟨wr.heap.size, 0, none⟩) 1 1 [.int .i64 x] rfl rfl no_none (one_news wr _ _) (li_one _) M1.out M2.out M3.out ?_; refine Stop.of ?_)
          refine Stop.go ?_
          intro a3 c3 w3 own3 g3
          have hB3 : Below wo.heap.size wo w3 := (hbt.alloc hbt.size _).grown g3 M3.out (fun k hk => (HOW.out.lt k hk).1)
          go_wp2
          refine ⟨⟨t + 1, by omega, by go_num, ?_, hB3⟩, by simp [intOf]; omega⟩
          rw [HTK2.out]
          simpa using own3
        · obtain rfl : t = k2 := by omega
          rw [List.take_of_length_le (by rw [HK2.out]; exact Nat.le_refl _)] at hown
          obtain ⟨X, hX⟩ : ∃ X, X = S.map (fun j => vec r j.toNat) := ⟨_, rfl⟩
          rw [← hX] at hown HTK
          have hXl : X.length = t := by rw [hX, List.length_map, HK2.out]
          obtain ⟨la, lc, rfl⟩ := ownsRow_slice hown
          have hrs : OwnR wr wo.heap.size (.slice la t lc) X := by unfold OwnR; rw [hXl]; exact hown
          obtain ⟨vs, ho1, ho2, ho3⟩ := HO.out
          have ho1' := ho1
          rw [HL.out] at ho1'
          have hb2a : Below wo.heap.size wo (wr.alloc (.cells #[.slice la t lc] 31)) := hbt.alloc hbt.size _
          have M1 := hid (show k + 1 ≤ maxLen by unfold maxLen; omega)
          have M2 := hid (show (k + 1) * 24 ≤ 140737488355328 by omega)
          have M3 := hid (Nat.le_trans HBK.out.size hb2a.size)
          have HO2' := hid (own_below ho1' hb2a)
          have HO1 := hid ho1
          have HO2 := hid ho2
          have HO3 := hid ho3
          have HRS := hid (hrs.below ((Below.refl _ wr).alloc (Nat.le_refl _) (.cells #[.slice la t lc] 31)))
          have HB2' := hid hb2a
          clear hX hXl hown hrs ho1 ho1' ho2 ho3 hb2a hbt
          go_wp2_with (at_builtin; refine wpList_app _ rfl (.tmp 32) (.tmp 34) 22 rfl w.heap.size 31 (.slice none 0 0) 1 24 Try.underlying22 li_ints rfl Nat.one_pos (.slice va k vc) k vs rfl HO2'.out (some ⟨wr.heap.size, 0, none⟩) 1 1 [.slice la t lc] rfl rfl no_none (one_news wr _ _) (slice_oneCell _ _ _) M1.out M2.out M3.out ?_; refine Stop.of ?_)
          refine Stop.go ?_
          intro a5 c5 w5 own5 g5
          have hsn : TabD w5 w.heap.size (.slice a5 (k + 1) c5) (C.take k ++ [X]) := TabD.snoc HO1.out HO2.out HO3.out HB2'.out HBK.out.size HRS.out g5 (by rw [HL.out]; exact own5)
          have hB5 : Below w.heap.size w w5 := (HBK.out.trans (HB2'.out.mono HBK.out.size)).grown g5 M3.out (fun q hq => (HO2'.out.lt q hq).1)
          rw [← HTK.out] at hsn
          go_wp2
          exact ⟨⟨k + 1, by omega, by go_num, hsn, hB5⟩, by simp [intOf]; omega⟩
    · obtain rfl : k = n := by omega
      rw [List.take_of_length_le (by rw [HCL.out, HN.out]; exact Nat.le_refl _)] at ho
      go_wp2
      go_ret
      exact ⟨_, rfl, ho, hbk⟩
end

section
open Go.RowKit
set_option linter.unusedVariables false

/-- block g holds fractions -/
def RatBlk (w : World) (g : Nat) (l : List Rt) : Prop := w.heap[g]? = some (.cells (ratVals l).toArray 46 (0, 0))
theorem RatBlk.lt {w : World} {g : Nat} {l : List Rt} (h : RatBlk w g l) : g < w.heap.size := (Array.getElem?_eq_some_iff.1 h).1
theorem RatBlk.keep {w w' : World} {g : Nat} {l : List Rt} (h : RatBlk w g l) (hk : w'.heap[g]? = w.heap[g]?) : RatBlk w' g l := hk.trans h
theorem RatBlk.cells {w : World} {g : Nat} {l : List Rt} (h : RatBlk w g l) {k : Nat} (hk : k < l.length) : w.cell? ⟨g, k * 2, none⟩ = some (.int .i64 l[k].1) ∧ w.cell? ⟨g, k * 2 + 1, none⟩ = some (.int .i64 l[k].2) ∧ ∀ o, w.frozen? ⟨g, o, none⟩ = false := by
  unfold RatBlk at h
  refine ⟨?_, ?_, fun o => by simp [World.frozen?, h]⟩
  · have := ratVals_at l k 0 hk (by omega)
    simp [World.cell?, h]; rw [Nat.add_zero] at this; rw [this]; rfl
  · have := ratVals_at l k 1 hk (by omega)
    simp [World.cell?, h]; rw [this]; rfl
theorem ratVals_set : ∀ (l : List Rt) (k : Nat) (p q : Int), k < l.length → ((ratVals l).set (k * 2) (.int .i64 p)).set (k * 2 + 1) (.int .i64 q) = ratVals (l.set k (p, q))
  | x :: l, 0, p, q, _ => by simp [ratVals, ratCells]
  | x :: l, k + 1, p, q, h => by
    have ih := ratVals_set l k p q (by simpa using h)
    have e : ratVals (x :: l) = .int .i64 x.1 :: .int .i64 x.2 :: ratVals l := rfl
    rw [e, show (k + 1) * 2 = (k * 2 + 1) + 1 by omega]
    simp only [List.set_cons_succ]
    rw [ih]; rfl
theorem RatBlk.set {w : World} {g : Nat} {l : List Rt} (h : RatBlk w g l) {k : Nat} (hk : k < l.length) (p q : Int) : RatBlk ((w.setCell ⟨g, k * 2, none⟩ (.int .i64 p)).setCell ⟨g, k * 2 + 1, none⟩ (.int .i64 q)) g (l.set k (p, q)) := by
  unfold RatBlk
  rw [cells_set (cells_set h (k * 2) (.int .i64 p)) (k * 2 + 1) (.int .i64 q), ← ratVals_set l k p q hk]
  congr 2
  apply Array.toList_inj.1
  simp
theorem RatBlk.own {w : World} {base g n : Nat} {l : List Rt} (h : RatBlk w g l) (hl : l.length = n) (hn : n ≤ maxLen) (hb : base ≤ g) : RatsO w base (.slice (some ⟨g, 0, none⟩) n n) l := by
  subst hl
  refine ⟨ratVals_length l, .inr ⟨g, _, _, rfl, hb, h, Nat.le_refl _, hn, by simp [ratVals_length], ?_⟩⟩
  rw [← ratVals_length l]; simp
theorem ratVals_rep (n : Nat) : ratVals (List.replicate n (0, 0)) = List.replicate (n * 2) (.int .i64 0) := by
  induction n with
  | zero => rfl
  | succ n ih =>
    rw [List.replicate_succ, show (n + 1) * 2 = n * 2 + 1 + 1 by omega, List.replicate_succ, List.replicate_succ, ← ih]; rfl
theorem made_rat (w : World) (n : Nat) : RatBlk (w.alloc (.cells (madeCells #[.int .i64 0, .int .i64 0] (n * 2)) 46)) w.heap.size (List.replicate n (0, 0)) := by
  have e : madeCells #[Value.int .i64 0, .int .i64 0] (n * 2) = (ratVals (List.replicate n (0, 0))).toArray := by
    rw [ratVals_rep]
    apply Array.ext
    · simp [size_madeCells]
    · intro i h1 h2
      have : i % 2 = 0 ∨ i % 2 = 1 := by omega
      rcases this with h | h <;> simp [madeCells, h]
  unfold RatBlk
  rw [World.alloc_heap_new, e]
theorem run_make_rat (n : Nat) (hn : n ≤ 1000) (w : World) : (Instr.makeSlice 49 (.int .i64 (n : Int)) (.int .i64 (n : Int))).run Try.prog w = .ok (.slice (some ⟨w.heap.size, 0, none⟩) n n) (w.alloc (.cells (madeCells #[.int .i64 0, .int .i64 0] (n * 2)) 46)) := by
  obtain ⟨i, hi, hz0, hz1, hz2⟩ := info_parts info_ratio
  have := run_makeSlice w 49 46 i _ Try.underlying49 hi hz0 .i64 .i64 (n : Int) (n : Int) (by omega) (by omega) (by rw [hz1]; omega) (by rw [hz2]; omega) (by omega)
  rw [this, hz1]; rfl

/-- the first k rows with a number more -/
def addY (L : List (List Int)) (y : List Int) (k : Nat) : List (List Int) := withY (L.take k) (y.take k) ++ L.drop k
theorem addY_zero (L : List (List Int)) (y : List Int) : addY L y 0 = L := by simp [addY, withY]
theorem addY_all {L : List (List Int)} {y : List Int} {n : Nat} (h1 : L.length = n) (h2 : y.length = n) : addY L y n = withY L y := by
  unfold addY; rw [List.take_of_length_le (by omega), List.take_of_length_le (by omega), List.drop_of_length_le (by omega), List.append_nil]
theorem addY_len {L : List (List Int)} {y : List Int} {n k : Nat} (h1 : L.length = n) (h2 : y.length = n) (hk : k ≤ n) : (addY L y k).length = n := by
  unfold addY withY; simp; omega
theorem addY_get {L : List (List Int)} {y : List Int} {n k : Nat} (h1 : L.length = n) (h2 : y.length = n) (hk : k < n) : (addY L y k)[k]?.getD [] = L[k]?.getD [] := by
  unfold addY withY
  rw [List.getElem?_append_right (by simp; omega)]
  simp
  rw [show k - min k (min L.length (min k y.length)) = 0 by omega, Nat.add_zero]
theorem addY_succ {L : List (List Int)} {y : List Int} {n k : Nat} (h1 : L.length = n) (h2 : y.length = n) (hk : k < n) : addY L y (k + 1) = (addY L y k).set k (L[k]?.getD [] ++ [y[k]?.getD 0]) := by
  have hkL : k < L.length := by omega
  have hky : k < y.length := by omega
  unfold addY withY
  rw [List.take_succ_eq_append_getElem hkL, List.take_succ_eq_append_getElem hky, List.zipWith_append (by simp; omega)]
  rw [List.set_append_right _ _ (by simp; omega), List.drop_eq_getElem_cons hkL]
  simp [hkL, hky]
  rw [show k - min k (min L.length (min k y.length)) = 0 by omega, List.drop_eq_getElem_cons hkL]
  rfl
end
end Go.Proofs.Ytfipebkhomppmaa
