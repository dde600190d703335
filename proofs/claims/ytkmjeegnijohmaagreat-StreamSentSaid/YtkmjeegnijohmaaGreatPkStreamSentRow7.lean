/- Walks and plain laws for StreamSentRow, part 7. -/
import Derived.Maps.AppendAt
import Derived.Laws.MakeOwn
import Derived.WalkSpells
import Derived.BigQuiet
import Derived.Shelf.Bits.Mul64
import Derived.Shelf.Spec.BitsCarry
import Derived.Laws.Externs
import Derived.Test.YtkmjeegnijohmaaGreatPkStreamSentRow6
namespace Go.Proofs.YtkmjeegnijohmaaGreat
section
section
set_option linter.unusedVariables false

theorem rRed_le1 {n B : Nat} {L : List (List Int)} (hw : ∀ r ∈ L, r.length = n + 1) (h : ∀ r ∈ (rRed L n).done ++ (rRed L n).left, ∀ x ∈ r, -(B : Int) ≤ x ∧ x ≤ (B : Int)) :
    ∀ r ∈ (rRed L (n + 1)).done ++ (rRed L (n + 1)).left, ∀ x ∈ r, -(B : Int) ≤ x ∧ x ≤ (B : Int) := by
  obtain ⟨hi, hd⟩ := rRed_inv L hw n
  have hwid := hi.wid
  rw [rRed_succ]
  obtain ⟨s, hs⟩ : ∃ s, s = rRed L n := ⟨_, rfl⟩
  rw [← hs] at h hi hd hwid ⊢
  unfold rStep
  cases hl : lastIx (nz n) s.left with
  | none => exact h
  | some a =>
    simp only []
    obtain ⟨ha, hnz⟩ := lastIx_some hl
    have hnz' : vec s.left[a] n ≠ 0 := by simpa [nz] using hnz
    have hlen := hi.len
    rw [List.length_append] at hlen
    have hrow : rowv (s.done ++ s.left) (s.piv.length + a) = vec s.left[a] := by
      unfold rowv
      rw [List.getElem?_append_right (by omega), show s.piv.length + a - s.done.length = a by omega, List.getElem?_eq_getElem ha]; rfl
    have hz : ∀ c, c < n → vec s.left[a] c = 0 := fun c hc => by rw [← hrow]; exact hi.zero _ (by omega) (by omega) c hc
    have hz2 : ∀ c, n < c → vec s.left[a] c = 0 := fun c hc => vec_ge (by rw [hwid _ (List.mem_append_right _ (List.getElem_mem ha))]; omega)
    have hpr : Prim (vec s.left[a]) := by
      rw [← hrow]
      rcases hi.pr (s.piv.length + a) (by omega) with h1 | h1 | ⟨q0, h1⟩
      · exact h1
      · rw [hrow] at h1; exact absurd (h1 n) hnz'
      · rcases rowv_prim L q0 with h2 | h2
        · have : rowv (s.done ++ s.left) (s.piv.length + a) = rowv (L.map primF) q0 := funext h1
          rw [this]; exact h2
        · have := h1 n
          rw [h2 n, hrow] at this
          exact absurd this hnz'
    obtain ⟨z, hzz, hpz⟩ := posF_mul (s.left[a]) n
    have hpp := posF_pos hnz'
    rw [List.getElem?_eq_getElem ha]
    simp only [Option.getD_some]
    obtain ⟨p, hp⟩ : ∃ p, p = posF s.left[a] n := ⟨_, rfl⟩
    rw [← hp] at hpz hpp ⊢
    have hpl : p.length = n + 1 := by rw [hp, posF_len]; exact hwid _ (List.mem_append_right _ (List.getElem_mem ha))
    have hpc : ∀ c, c < n → vec p c = 0 := fun c hc => by rw [hpz c, hz c hc]; simp
    have hone : vec p n = 1 := by
      have h1 : vec s.left[a] n ∣ 1 := hpr _ (fun c => by
        rcases Nat.lt_trichotomy c n with h1 | h1 | h1
        · rw [hz c h1]; exact Int.dvd_zero _
        · rw [h1]; exact Int.dvd_refl _
        · rw [hz2 c h1]; exact Int.dvd_zero _)
      have h2 : (vec s.left[a] n).natAbs = 1 := by
        have := Int.natAbs_dvd_natAbs.2 h1
        exact Nat.dvd_one.1 (by simpa using this)
      have h3 := hpz n
      rcases hzz with rfl | rfl <;> omega
    have hpB : ∀ x ∈ p, -(B : Int) ≤ x ∧ x ≤ (B : Int) := by
      refine mem_vec (P := fun x => -(B : Int) ≤ x ∧ x ≤ (B : Int)) fun c => ?_
      have := vec_mem (P := fun x => -(B : Int) ≤ x ∧ x ≤ (B : Int)) (by omega) (h _ (List.mem_append_right _ (List.getElem_mem ha))) c
      rw [hpz c]
      rcases hzz with rfl | rfl <;> omega
    have hwo : ∀ r ∈ s.done ++ s.left, ∀ x ∈ withoutF p n r, -(B : Int) ≤ x ∧ x ≤ (B : Int) := by
      intro r hr
      refine mem_vec (P := fun x => -(B : Int) ≤ x ∧ x ≤ (B : Int)) fun c => ?_
      unfold withoutF
      refine primF_le ?_
      rw [vec_zip (by simp) (by rw [hwid r hr, hpl])]
      have := vec_mem (P := fun x => -(B : Int) ≤ x ∧ x ≤ (B : Int)) (by omega) (h r hr) c
      rw [hone]
      rcases Nat.lt_trichotomy c n with h1 | h1 | h1
      · rw [hpc c h1]; omega
      · subst h1; rw [hone]; omega
      · rw [vec_ge (l := p) (by omega), vec_ge (l := r) (by rw [hwid r hr]; omega)]; omega
    intro r hr
    rcases List.mem_append.1 hr with hr | hr
    · rcases List.mem_append.1 hr with hr | hr
      · obtain ⟨r', h1, rfl⟩ := List.mem_map.1 hr
        exact hwo r' (List.mem_append_left _ h1)
      · obtain rfl : r = p := by simpa using hr
        exact hpB
    · obtain ⟨r', h1, rfl⟩ := List.mem_map.1 hr
      exact hwo r' (List.mem_append_right _ (List.mem_of_mem_eraseIdx h1))
end

section
open Go.RowKit
set_option linter.unusedVariables false

def OwnR (W : World) (base : Nat) (u : Value) (l : List Int) : Prop := W.ownsRow base 3 1 u l.length (l.map (Value.int .i64))
theorem OwnR.type {W : World} {base k : Nat} {u : Value} {l : List Int} (h : OwnR W base u l) (hk : u.ownBlock = some k) : base ≤ k ∧ k < W.heap.size ∧ ∃ c, W.heap[k]? = some (.cells c 3 (0, 0)) := by
  rcases h.2 with ⟨rfl, _⟩ | ⟨g, cap, cur, rfl, hbg, hgg, _⟩
  · simp [Value.ownBlock] at hk
  · obtain rfl : g = k := by simpa [Value.ownBlock] using hk
    exact ⟨hbg, (Array.getElem?_eq_some_iff.1 hgg).1, cur, hgg⟩
theorem OwnR.moved {W W' : World} {base : Nat} {u : Value} {l : List Int} (h : OwnR W base u l) (hm : ∀ k, u.ownBlock = some k → W'.heap[k]? = W.heap[k]?) : OwnR W' base u l := by
  refine ⟨h.1, ?_⟩
  rcases h.2 with hn | ⟨g, cap, cur, rfl, hbg, hgg, rest⟩
  · exact .inl hn
  · exact .inr ⟨g, cap, cur, rfl, hbg, (hm g rfl).trans hgg, rest⟩
theorem OwnR.low {W : World} {base b0 : Nat} {u : Value} {l : List Int} (h : OwnR W base u l) (hb : b0 ≤ base) : OwnR W b0 u l := by
  refine ⟨h.1, ?_⟩
  rcases h.2 with hn | ⟨g, cap, cur, rfl, hbg, rest⟩
  · exact .inl hn
  · exact .inr ⟨g, cap, cur, rfl, by omega, rest⟩
theorem OwnR.below {W W' : World} {base : Nat} {u : Value} {l : List Int} (h : OwnR W base u l) (hb : Below W.heap.size W W') : OwnR W' base u l := h.moved fun k hk => hb.block k (h.type hk).2.1
theorem OwnR.rowS {W : World} {base : Nat} {u : Value} {l : List Int} (h : OwnR W base u l) : RowS W u l := rowS_own h rfl

def TabD (W : World) (base : Nat) (v : Value) (L : List (List Int)) : Prop :=
  ∃ vs, W.ownsRow base 33 1 v L.length vs ∧ (∀ j (hj : j < L.length), ∃ u, vs[j]? = some u ∧ OwnR W base u L[j]) ∧
    ∀ (i j : Nat) (u u' : Value) (k : Nat), vs[i]? = some u → vs[j]? = some u' → u.ownBlock = some k → u'.ownBlock = some k → i = j
theorem TabD.nil (W : World) (base : Nat) : TabD W base (.slice none 0 0) [] := ⟨[], World.ownsRow_nil _ _ _ _, fun j hj => by simp at hj, fun i j u u' k h => by simp at h⟩
theorem TabD.tab {W : World} {base : Nat} {v : Value} {L : List (List Int)} (h : TabD W base v L) : TabS W base v L := by
  obtain ⟨vs, h1, h2, _⟩ := h
  exact ⟨vs, h1, fun j hj => by obtain ⟨u, e, h⟩ := h2 j hj; exact ⟨u, e, h.rowS⟩⟩
theorem TabD.below {W W' : World} {base : Nat} {v : Value} {L : List (List Int)} (h : TabD W base v L) (hb : Below W.heap.size W W') : TabD W' base v L := by
  obtain ⟨vs, h1, h2, h3⟩ := h
  refine ⟨vs, own_below h1 hb, fun j hj => ?_, h3⟩
  obtain ⟨u, hu, hr⟩ := h2 j hj
  exact ⟨u, hu, hr.below hb⟩
theorem own_typeL {W : World} {base k n : Nat} {v : Value} {vs : List Value} (h : W.ownsRow base 33 1 v n vs) (hk : v.ownBlock = some k) : base ≤ k ∧ k < W.heap.size ∧ ∃ c, W.heap[k]? = some (.cells c 33 (0, 0)) := by
  rcases h.2 with ⟨rfl, _⟩ | ⟨g, cap, cur, rfl, hbg, hgg, _⟩
  · simp [Value.ownBlock] at hk
  · obtain rfl : g = k := by simpa [Value.ownBlock] using hk
    exact ⟨hbg, (Array.getElem?_eq_some_iff.1 hgg).1, cur, hgg⟩
theorem TabD.snoc {W w1 w3 : World} {base : Nat} {v v' u : Value} {L : List (List Int)} {r : List Int} {vs : List Value} (h1 : W.ownsRow base 33 1 v L.length vs)
    (h2 : ∀ j (hj : j < L.length), ∃ u, vs[j]? = some u ∧ OwnR W base u L[j]) (h3 : ∀ (i j : Nat) (u u' : Value) (k : Nat), vs[i]? = some u → vs[j]? = some u' → u.ownBlock = some k → u'.ownBlock = some k → i = j)
    (hb : Below W.heap.size W w1) (hbase : base ≤ W.heap.size) (hr : OwnR w1 W.heap.size u r) (hg : w1.grownBy w3 v.ownBlock)
    (ho' : w3.ownsRow base 33 1 v' (L.length + 1) (vs ++ [u])) : TabD w3 base v' (L ++ [r]) := by
  have hlen : vs.length = L.length := by have := h1.1; omega
  have hup : ∀ b u l, OwnR w1 b u l → OwnR w3 b u l := by
    intro b u l hu
    refine hu.moved fun k hk => ?_
    obtain ⟨_, hlt, c, hc⟩ := hu.type hk
    refine hg.block k hlt ?_
    intro e
    obtain ⟨_, h4, c2, hc2⟩ := own_typeL h1 e.symm
    have := (hb.block k h4).trans hc2
    rw [hc] at this; cases this
  have hold : ∀ j q k, j < L.length → vs[j]? = some q → q.ownBlock = some k → k < W.heap.size := by
    intro j q k hj hq hk
    obtain ⟨u', hu', hr'⟩ := h2 j hj
    rw [hq] at hu'; cases hu'
    exact (hr'.type hk).2.1
  refine ⟨vs ++ [u], by simpa using ho', fun j hj => ?_, ?_⟩
  · simp only [List.length_append, List.length_cons, List.length_nil, Nat.zero_add] at hj
    by_cases hjl : j < L.length
    · obtain ⟨u', hu', hr'⟩ := h2 j hjl
      rw [List.getElem_append_left hjl]
      exact ⟨u', by rw [List.getElem?_append_left (by omega)]; exact hu', hup _ _ _ (hr'.below hb)⟩
    · obtain rfl : j = L.length := by omega
      rw [List.getElem_append_right (Nat.le_refl _)]
      simp only [Nat.sub_self, List.getElem_cons_zero]
      exact ⟨u, by rw [List.getElem?_append_right (by omega), hlen]; simp, hup _ _ _ (hr.low hbase)⟩
  · intro i j q q' k hi hj hk hk'
    have hin : ∀ {i : Nat} {q : Value}, (vs ++ [u])[i]? = some q → (i < L.length ∧ vs[i]? = some q) ∨ (i = L.length ∧ q = u) := by
      intro i q h
      rcases Nat.lt_or_ge i L.length with h4 | h4
      · rw [List.getElem?_append_left (by omega)] at h; exact .inl ⟨h4, h⟩
      · rw [List.getElem?_append_right (by omega), hlen] at h
        rcases Nat.eq_or_lt_of_le h4 with h5 | h5
        · rw [← h5, Nat.sub_self] at h; exact .inr ⟨h5.symm, by simpa using h.symm⟩
        · rw [List.getElem?_eq_none (by simp; omega)] at h; cases h
    rcases hin hi with ⟨h4, h5⟩ | ⟨h4, rfl⟩ <;> rcases hin hj with ⟨h6, h7⟩ | ⟨h6, h8⟩
    · exact h3 i j q q' k h5 h7 hk hk'
    · subst h8
      have := hold i q k h4 h5 hk
      have := (hr.type hk').1
      omega
    · have := hold j q' k h6 h7 hk'
      have := (hr.type hk).1
      omega
    · omega
theorem TabD.at {W : World} {base n : Nat} {v : Value} {L : List (List Int)} (h : TabD W base v L) (hl : L.length = n) {i : Nat} (hi : i < n) :
    ∃ g0 cap u, v = .slice (some ⟨g0, 0, none⟩) n cap ∧ base ≤ g0 ∧ g0 < W.heap.size ∧ W.cell? ⟨g0, i, none⟩ = some u ∧ OwnR W base u (L[i]?.getD []) ∧ W.frozen? ⟨g0, i, none⟩ = false ∧ (∀ k, u.ownBlock = some k → k ≠ g0) ∧
      ∀ w1 w3 u' r, Below W.heap.size W w1 → w1.grownBy w3 u.ownBlock → OwnR w3 base u' r → (u'.ownBlock = u.ownBlock ∨ u'.ownBlock = some w1.heap.size) → TabD (w3.setCell ⟨g0, i, none⟩ u') base v (L.set i r) := by
  subst hl
  obtain ⟨vs, h1, h2, h3⟩ := h
  obtain ⟨u, hu, hr⟩ := h2 i hi
  rcases h1.2 with ⟨rfl, h0⟩ | ⟨g0, cap, cur, rfl, hbg, hgg, hnc, hcm, hsz, htk⟩
  · omega
  have hcell := World.ownsRow.cellAt (w := W) (base := base) (e := 33) (size := 1) (g := g0) (n := L.length) (cap := cap) (xs := vs) h1 i (by omega)
  have hvl : vs.length = L.length := by have := h1.1; omega
  have hg0 : g0 < W.heap.size := (Array.getElem?_eq_some_iff.1 hgg).1
  have hne : ∀ (j : Nat) (q : Value) (k : Nat), j < L.length → vs[j]? = some q → q.ownBlock = some k → k < W.heap.size ∧ k ≠ g0 := by
    intro j q k hj hq hk
    obtain ⟨u', hu', hr'⟩ := h2 j hj
    rw [hq] at hu'; cases hu'
    obtain ⟨_, h4, c, hc⟩ := hr'.type hk
    refine ⟨h4, ?_⟩
    rintro rfl
    rw [hgg] at hc; cases hc
  refine ⟨g0, cap, u, rfl, hbg, hg0, by rw [hcell]; exact hu, by rw [List.getElem?_eq_getElem hi]; exact hr, by simp [World.frozen?, hgg], fun k hk => (hne i u k hi hu hk).2, ?_⟩
  intro w1 w3 u' r hb hg hr' hat
  have hkeep : ∀ k, k ≠ g0 → (w3.setCell ⟨g0, i, none⟩ u').heap[k]? = w3.heap[k]? := fun k hk => Below.heap_setCell _ _ _ _ hk
  have hold : ∀ k, k < W.heap.size → u.ownBlock ≠ some k → w3.heap[k]? = W.heap[k]? := fun k hk hn => (hg.block k (Nat.lt_of_lt_of_le hk hb.size) (fun e => hn e.symm)).trans (hb.block k hk)
  have hg3 : w3.heap[g0]? = some (.cells cur 33 (0, 0)) := (hold g0 hg0 (fun e => (hne i u g0 hi hu e).2 rfl)).trans hgg
  have hb2 : (w3.setCell ⟨g0, i, none⟩ u').heap[g0]? = some (.cells (cur.setIfInBounds i u') 33 (0, 0)) := cells_set hg3 i u'
  have hnew : ∀ k, u'.ownBlock = some k → k ≠ g0 := by
    intro k hk
    obtain ⟨_, _, c, hc⟩ := hr'.type hk
    rintro rfl
    rw [hg3] at hc; cases hc
  refine ⟨vs.set i u', ⟨by simpa using h1.1, .inr ⟨g0, cap, cur.setIfInBounds i u', by simp, hbg, hb2, by simpa using hnc, hcm, by simpa using hsz, ?_⟩⟩, fun j hj => ?_, ?_⟩
  · rw [← htk]
    simp only [Array.toList_setIfInBounds, List.length_set, Nat.mul_one]
    rw [List.take_set]
  · have hj' : j < L.length := by simpa using hj
    by_cases e : i = j
    · subst e
      exact ⟨u', by simp [hvl, hj'], by simpa using hr'.moved fun k hk => hkeep k (hnew k hk)⟩
    · obtain ⟨u2, hu2, hr2⟩ := h2 j hj'
      refine ⟨u2, by rw [List.getElem?_set_ne e]; exact hu2, ?_⟩
      rw [List.getElem_set_ne e]
      refine hr2.moved fun k hk => (hkeep k (hne j u2 k hj' hu2 hk).2).trans (hold k (hne j u2 k hj' hu2 hk).1 fun e2 => e (h3 i j u u2 k hu hu2 e2 hk))
  · intro p q x y k hp hq hx hy
    have hin : ∀ {p : Nat} {x : Value}, (vs.set i u')[p]? = some x → (p = i ∧ x = u') ∨ (p ≠ i ∧ p < L.length ∧ vs[p]? = some x) := by
      intro p x h
      by_cases e : i = p
      · subst e
        rw [List.getElem?_set_self (by omega)] at h
        exact .inl ⟨rfl, (Option.some.inj h).symm⟩
      · rw [List.getElem?_set_ne e] at h
        exact .inr ⟨fun h => e h.symm, by have := (List.getElem?_eq_some_iff.1 h).1; omega, h⟩
    have hdif : ∀ {p : Nat} {x : Value}, p ≠ i → p < L.length → vs[p]? = some x → x.ownBlock = some k → u'.ownBlock = some k → False := by
      intro p x h4 h5 h6 h7 h8
      rcases hat with h9 | h9
      · rw [h9] at h8
        exact h4 (h3 p i x u k h6 hu h7 h8)
      · rw [h9] at h8
        have := (hne p x k h5 h6 h7).1
        have := hb.size
        cases h8; omega
    rcases hin hp with ⟨h4, h5⟩ | ⟨h4, h5, h6⟩ <;> rcases hin hq with ⟨h7, h8⟩ | ⟨h7, h8, h9⟩
    · omega
    · subst h5; exact (hdif h7 h8 h9 hy hx).elim
    · subst h8; exact (hdif h4 h5 h6 hx hy).elim
    · exact h3 p q x y k h6 h9 hx hy

set_option maxRecDepth 100000 in
set_option maxHeartbeats 4000000 in
theorem r3columnsD_c (w : World) (a : Option Addr) (n cap : Nat) (M : List (List Int)) (hn : M.length = n) (hn6 : n ≤ 1000) (H : RowsAt w a M) (a2 : Option Addr) (k2 cap2 : Nat) (S : List Int) (hk2 : S.length = k2) (hk21 : k2 ≤ 1000) (H2 : IntsAt w a2 S)
    (hS : ∀ r ∈ M, ∀ j ∈ S, 0 ≤ j ∧ j < r.length) :
    Calls Tryz.prog 100 #[.slice a n cap, .slice a2 k2 cap2] w fun e w' => ∃ v, e = .returned v ∧ TabD w' w.heap.size v (colsF M S) ∧ Below w.heap.size w w' := by
  have HN := hid hn
  have HH := hid H
  have HK2 := hid hk2
  have HH2 := hid H2
  have HS := hid hS
  have HCT := hid (fun (k : Nat) (hk : k < M.length) => colsF_take (M := M) (S := S) hk)
  have HCL := hid (colsF_len M S)
  obtain ⟨C, hC⟩ : ∃ C, C = colsF M S := ⟨_, rfl⟩
  rw [← hC] at HCT HCL ⊢
  clear hn H hk2 H2 hS hC
  go_enter Tryz.func100, Tryz.ntmps100
  go_wp2
  go_loopw [5, 13] (fun v i wr => ∃ k : Nat, k ≤ n ∧ i = .int .i64 k ∧ TabD wr w.heap.size v (C.take k) ∧ Below w.heap.size w wr) (fun _ i _ => n - (intOf i).toNat)
  case atStart => exact ⟨0, Nat.zero_le _, rfl, TabD.nil _ _, Below.refl _ _⟩
  case round =>
    obtain ⟨k, hk, rfl, ho, hbk⟩ := hrel
    obtain ⟨wo, hwo⟩ : ∃ wo, wo = wr := ⟨_, rfl⟩
    subst hwo
    by_cases hlt : k < n
    · have hkM : k < M.length := by rw [HN.out]; exact hlt
      obtain ⟨b, off, ra, rn, rc, rfl, hbs, hq0, hrn, hrm, hri⟩ := (HH.out.below hbk) k hkM
      have htk := HCT.out k hkM
      have hsr := HS.out M[k] (List.getElem_mem hkM)
      obtain ⟨r, hr⟩ : ∃ r, r = M[k] := ⟨_, rfl⟩
      rw [← hr] at htk hsr hrn hri
      have hlen : (C.take k).length = k := by rw [List.length_take, HCL.out]; omega
      have HL := hid hlen
      have HTK := hid htk
      have HSR := hid hsr
      have HRN := hid hrn
      have HRI := hid hri
      have HO := hid ho
      have HBK := hid hbk
      obtain ⟨va, vc, hv⟩ : ∃ va vc, u5 = .slice va k vc := by
        obtain ⟨_, ho1, _⟩ := ho
        obtain ⟨a', c', e⟩ := ownsRow_slice ho1
        exact ⟨a', c', by rw [e, hlen]⟩
      subst hv
      have M0 := World.ownsRow_made (base := wo.heap.size) (e := 3) (size := 1) wo #[] 0 (Nat.le_refl _) (Nat.zero_le _) rfl
      have HM0 := hid M0
      clear hr htk hsr hrn hri hkM ho hlen M0
      go_wp2
      go_loopw [8, 20] (fun v i wr => ∃ t : Nat, t ≤ k2 ∧ i = .int .i64 t ∧ wr.ownsRow wo.heap.size 3 1 v t (((S.take t).map (fun j => vec r j.toNat)).map (Value.int .i64)) ∧ Below wo.heap.size wo wr) (fun _ i _ => k2 - (intOf i).toNat)
      case atStart => exact ⟨0, Nat.zero_le _, rfl, HM0.out, (Below.refl _ _).alloc (Nat.le_refl _) _⟩
      case round =>
        obtain ⟨t, ht, rfl, hown, hbt⟩ := hrel
        by_cases hlt2 : t < k2
        · have htS : t < S.length := by rw [HK2.out]; exact hlt2
          obtain ⟨b2, off2, rfl, hbs2, hc2⟩ := (HH2.out.below (chain HBK.out hbt)) t htS
          have hpp := HSR.out S[t] (List.getElem_mem htS)
          have hg2 : S[t]?.getD 0 = S[t] := by rw [List.getElem?_eq_getElem htS]; rfl
          rw [hg2] at hc2
          have htk2 : (S.take (t + 1)).map (fun j => vec r j.toNat) = (S.take t).map (fun j => vec r j.toNat) ++ [vec r (S[t]).toNat] := by
            rw [List.take_succ_eq_append_getElem htS, List.map_append]; rfl
          obtain ⟨q, hq⟩ : ∃ q : Nat, S[t] = q := ⟨(S[t]).toNat, by omega⟩
          rw [hq] at hc2 hpp htk2
          rw [show ((q : Int)).toNat = q by omega] at htk2
          have hqr : q < r.length := by omega
          obtain ⟨b3, off3, rfl, hbs3, hc3⟩ := (HRI.out.below hbt) q hqr
          have hqn : (q : Int) < (rn : Int) := by have := HRN.out; omega
          have hq0' : (0 : Int) ≤ (q : Int) := by omega
          obtain ⟨x, hx⟩ : ∃ x, x = r[q]?.getD 0 := ⟨_, rfl⟩
          have hxv : vec r q = x := hx.symm
          rw [← hx] at hc3
          rw [hxv] at htk2
          obtain ⟨la, lc, rfl⟩ := ownsRow_slice hown
          have HTK2 := hid htk2
          have HOW := hid hown
          have M1 := hid (show t + 1 ≤ maxLen by unfold maxLen; omega)
          have M2 := hid (show (t + 1) * 8 ≤ 140737488355328 by omega)
          have M3 := hid (Nat.le_trans hbt.size (le_alloc wr (.cells #[.int .i64 x] 3)))
          clear hpp hg2 htk2 hq hx hxv hown htS hqr
          go_wp2_with (at_builtin; refine wpList_app _ rfl (.tmp 24) (.tmp 29) 33 rfl wo.heap.size 3 (.int .i64 0) 1 8 Tryz.underlying33 li_int rfl Nat.one_pos (.slice la t lc) t _ rfl (HOW.out.alloc _) (some ⟨wr.heap.size, 0, none⟩) 1 1 [.int .i64 x] rfl rfl no_none (one_news wr _ _) (li_one _) M1.out M2.out M3.out ?_; refine Stop.of ?_)
          refine Stop.go ?_
          intro a3 c3 w3 own3 g3
          have hB3 : Below wo.heap.size wo w3 := (hbt.alloc hbt.size _).grown g3 M3.out (fun k hk => (HOW.out.lt k hk).1)
          go_wp2
          refine ⟨⟨t + 1, by omega, by go_num, ?_, hB3⟩, by simp [intOf]; omega⟩
          rw [HTK2.out]
          simpa using own3
        · obtain rfl : t = k2 := by omega
          rw [List.take_of_length_le (by rw [HK2.out]; exact Nat.le_refl _)] at hown
          obtain ⟨X, hX⟩ : ∃ X, X = S.map (fun j => vec r j.toNat) := ⟨_, rfl⟩
          rw [← hX] at hown HTK
          have hXl : X.length = t := by rw [hX, List.length_map, HK2.out]
          obtain ⟨la, lc, rfl⟩ := ownsRow_slice hown
          have hrs : OwnR wr wo.heap.size (.slice la t lc) X := by unfold OwnR; rw [hXl]; exact hown
          obtain ⟨vs, ho1, ho2, ho3⟩ := HO.out
          have ho1' := ho1
          rw [HL.out] at ho1'
          have hb2a : Below wo.heap.size wo (wr.alloc (.cells #[.slice la t lc] 33)) := hbt.alloc hbt.size _
          have M1 := hid (show k + 1 ≤ maxLen by unfold maxLen; omega)
          have M2 := hid (show (k + 1) * 24 ≤ 140737488355328 by omega)
          have M3 := hid (Nat.le_trans HBK.out.size hb2a.size)
          have HO2' := hid (own_below ho1' hb2a)
          have HO1 := hid ho1
          have HO2 := hid ho2
          have HO3 := hid ho3
          have HRS := hid (hrs.below ((Below.refl _ wr).alloc (Nat.le_refl _) (.cells #[.slice la t lc] 33)))
          have HB2' := hid hb2a
          clear hX hXl hown hrs ho1 ho1' ho2 ho3 hb2a hbt
          go_wp2_with (at_builtin; refine wpList_app _ rfl (.tmp 32) (.tmp 34) 22 rfl w.heap.size 33 (.slice none 0 0) 1 24 Tryz.underlying22 li_ints rfl Nat.one_pos (.slice va k vc) k vs rfl HO2'.out (some ⟨wr.heap.size, 0, none⟩) 1 1 [.slice la t lc] rfl rfl no_none (one_news wr _ _) (slice_oneCell _ _ _) M1.out M2.out M3.out ?_; refine Stop.of ?_)
          refine Stop.go ?_
          intro a5 c5 w5 own5 g5
          have hsn : TabD w5 w.heap.size (.slice a5 (k + 1) c5) (C.take k ++ [X]) := TabD.snoc HO1.out HO2.out HO3.out HB2'.out HBK.out.size HRS.out g5 (by rw [HL.out]; exact own5)
          have hB5 : Below w.heap.size w w5 := (HBK.out.trans (HB2'.out.mono HBK.out.size)).grown g5 M3.out (fun q hq => (HO2'.out.lt q hq).1)
          rw [← HTK.out] at hsn
          go_wp2
          exact ⟨⟨k + 1, by omega, by go_num, hsn, hB5⟩, by simp [intOf]; omega⟩
    · obtain rfl : k = n := by omega
      rw [List.take_of_length_le (by rw [HCL.out, HN.out]; exact Nat.le_refl _)] at ho
      go_wp2
      go_ret
      exact ⟨_, rfl, ho, hbk⟩
end

section
open Go.RowKit
set_option linter.unusedVariables false

def RatBlk (w : World) (g : Nat) (l : List Rt) : Prop := w.heap[g]? = some (.cells (ratVals l).toArray 101 (0, 0))
theorem RatBlk.lt {w : World} {g : Nat} {l : List Rt} (h : RatBlk w g l) : g < w.heap.size := (Array.getElem?_eq_some_iff.1 h).1
theorem RatBlk.keep {w w' : World} {g : Nat} {l : List Rt} (h : RatBlk w g l) (hk : w'.heap[g]? = w.heap[g]?) : RatBlk w' g l := hk.trans h
theorem RatBlk.cells {w : World} {g : Nat} {l : List Rt} (h : RatBlk w g l) {k : Nat} (hk : k < l.length) : w.cell? ⟨g, k * 2, none⟩ = some (.int .i64 l[k].1) ∧ w.cell? ⟨g, k * 2 + 1, none⟩ = some (.int .i64 l[k].2) ∧ ∀ o, w.frozen? ⟨g, o, none⟩ = false := by
  unfold RatBlk at h
  refine ⟨?_, ?_, fun o => by simp [World.frozen?, h]⟩
  · have := ratVals_at l k 0 hk (by omega)
    simp [World.cell?, h]; rw [Nat.add_zero] at this; rw [this]; rfl
  · have := ratVals_at l k 1 hk (by omega)
    simp [World.cell?, h]; rw [this]; rfl
theorem ratVals_set : ∀ (l : List Rt) (k : Nat) (p q : Int), k < l.length → ((ratVals l).set (k * 2) (.int .i64 p)).set (k * 2 + 1) (.int .i64 q) = ratVals (l.set k (p, q))
  | x :: l, 0, p, q, _ => by simp [ratVals, ratCells]
  | x :: l, k + 1, p, q, h => by
    have ih := ratVals_set l k p q (by simpa using h)
    have e : ratVals (x :: l) = .int .i64 x.1 :: .int .i64 x.2 :: ratVals l := rfl
    rw [e, show (k + 1) * 2 = (k * 2 + 1) + 1 by omega]
    simp only [List.set_cons_succ]
    rw [ih]; rfl
theorem RatBlk.set {w : World} {g : Nat} {l : List Rt} (h : RatBlk w g l) {k : Nat} (hk : k < l.length) (p q : Int) : RatBlk ((w.setCell ⟨g, k * 2, none⟩ (.int .i64 p)).setCell ⟨g, k * 2 + 1, none⟩ (.int .i64 q)) g (l.set k (p, q)) := by
  unfold RatBlk
  rw [cells_set (cells_set h (k * 2) (.int .i64 p)) (k * 2 + 1) (.int .i64 q), ← ratVals_set l k p q hk]
  congr 2
  apply Array.toList_inj.1
  simp
theorem RatBlk.own {w : World} {base g n : Nat} {l : List Rt} (h : RatBlk w g l) (hl : l.length = n) (hn : n ≤ maxLen) (hb : base ≤ g) : RatsO w base (.slice (some ⟨g, 0, none⟩) n n) l := by
  subst hl
  refine ⟨ratVals_length l, .inr ⟨g, _, _, rfl, hb, h, Nat.le_refl _, hn, by simp [ratVals_length], ?_⟩⟩
  rw [← ratVals_length l]; simp
theorem ratVals_rep (n : Nat) : ratVals (List.replicate n (0, 0)) = List.replicate (n * 2) (.int .i64 0) := by
  induction n with
  | zero => rfl
  | succ n ih =>
    rw [List.replicate_succ, show (n + 1) * 2 = n * 2 + 1 + 1 by omega, List.replicate_succ, List.replicate_succ, ← ih]; rfl
theorem made_rat (w : World) (n : Nat) : RatBlk (w.alloc (.cells (madeCells #[.int .i64 0, .int .i64 0] (n * 2)) 101)) w.heap.size (List.replicate n (0, 0)) := by
  have e : madeCells #[Value.int .i64 0, .int .i64 0] (n * 2) = (ratVals (List.replicate n (0, 0))).toArray := by
    rw [ratVals_rep]
    apply Array.ext
    · simp [size_madeCells]
    · intro i h1 h2
      have : i % 2 = 0 ∨ i % 2 = 1 := by omega
      rcases this with h | h <;> simp [madeCells, h]
  unfold RatBlk
  rw [World.alloc_heap_new, e]
theorem run_make_rat (n : Nat) (hn : n ≤ 1000) (w : World) : (Instr.makeSlice 108 (.int .i64 (n : Int)) (.int .i64 (n : Int))).run Tryz.prog w = .ok (.slice (some ⟨w.heap.size, 0, none⟩) n n) (w.alloc (.cells (madeCells #[.int .i64 0, .int .i64 0] (n * 2)) 101)) := by
  obtain ⟨i, hi, hz0, hz1, hz2⟩ := info_parts info_ratio
  have := run_makeSlice w 108 101 i _ Tryz.underlying108 hi hz0 .i64 .i64 (n : Int) (n : Int) (by omega) (by omega) (by rw [hz1]; omega) (by rw [hz2]; omega) (by omega)
  rw [this, hz1]; rfl

def addY (L : List (List Int)) (y : List Int) (k : Nat) : List (List Int) := withY (L.take k) (y.take k) ++ L.drop k
theorem addY_zero (L : List (List Int)) (y : List Int) : addY L y 0 = L := by simp [addY, withY]
theorem addY_all {L : List (List Int)} {y : List Int} {n : Nat} (h1 : L.length = n) (h2 : y.length = n) : addY L y n = withY L y := by
  unfold addY; rw [List.take_of_length_le (by omega), List.take_of_length_le (by omega), List.drop_of_length_le (by omega), List.append_nil]
theorem addY_len {L : List (List Int)} {y : List Int} {n k : Nat} (h1 : L.length = n) (h2 : y.length = n) (hk : k ≤ n) : (addY L y k).length = n := by
  unfold addY withY; simp; omega
theorem addY_get {L : List (List Int)} {y : List Int} {n k : Nat} (h1 : L.length = n) (h2 : y.length = n) (hk : k < n) : (addY L y k)[k]?.getD [] = L[k]?.getD [] := by
  unfold addY withY
  rw [List.getElem?_append_right (by simp; omega)]
  simp
  rw [show k - min k (min L.length (min k y.length)) = 0 by omega, Nat.add_zero]
theorem addY_succ {L : List (List Int)} {y : List Int} {n k : Nat} (h1 : L.length = n) (h2 : y.length = n) (hk : k < n) : addY L y (k + 1) = (addY L y k).set k (L[k]?.getD [] ++ [y[k]?.getD 0]) := by
  have hkL : k < L.length := by omega
  have hky : k < y.length := by omega
  unfold addY withY
  rw [List.take_succ_eq_append_getElem hkL, List.take_succ_eq_append_getElem hky, List.zipWith_append (by simp; omega)]
  rw [List.set_append_right _ _ (by simp; omega), List.drop_eq_getElem_cons hkL]
  simp [hkL, hky]
  rw [show k - min k (min L.length (min k y.length)) = 0 by omega, List.drop_eq_getElem_cons hkL]
  rfl
end
end

section
section
open Go.RowKit
set_option linter.unusedVariables false

set_option maxRecDepth 100000 in
set_option maxHeartbeats 4000000 in
theorem r3solved_c (w : World) (a a2 a3 : Option Addr) (n cap n2 cap2 cap3 : Nat) (M : Mask) (l y : List Int) (hn : M.length = n) (hn2 : l.length = n2) (hn3 : y.length = n) (H : RowsAt w a M) (H2 : IntsAt w a2 l) (H3 : IntsAt w a3 y)
    (hok : okM M = true) (hmil : milB y = true) (hso : SetOk (colsM M) l) :
    Calls Tryz.prog 147 #[.slice a n cap, .slice a2 n2 cap2, .slice a3 n cap3] w fun e w' => ∃ v base, e = .returned (.tuple #[v, .int .i64 (solvedR (withY (colsF M l) y) n2).2.1, .bool (solvedR (withY (colsF M l) y) n2).2.2]) ∧ w.heap.size ≤ base ∧ RatsO w' base v (solvedR (withY (colsF M l) y) n2).1 ∧ Below w.heap.size w w' := by
  obtain ⟨hM, h1, h6, hc1, hc10⟩ := okM_ok hok
  have hl10 := set_le hso
  have hn6 : n ≤ 6 := by omega
  have hn1 : 1 ≤ n := by omega
  have hn210 : n2 ≤ 10 := by omega
  have hS : ∀ r ∈ M, ∀ j ∈ l, 0 ≤ j ∧ j < r.length := fun r hr j hj => by rw [hM.wid r hr]; exact hso.2 j hj
  have HCl := hid (r3columnsD_c w a n cap M hn (by omega) H a2 n2 cap2 l hn2 (by omega) H2 hS)
  have hMC : MaskOk (colsF M l) n2 := by rw [← hn2]; exact hM.cols l
  have hB6 := mil_bnd6 hmil
  have hY := hMC.addY (y := y) (by rw [colsF_len]; omega) (Y := 1000000) (by omega) hB6
  have hCl : (colsF M l).length = n := by rw [colsF_len, hn]
  have hClw := hMC.wid
  obtain ⟨L0, hL0⟩ : ∃ L0, L0 = colsF M l := ⟨_, rfl⟩
  rw [← hL0] at HCl hY hCl hClw ⊢
  have hAll := addY_all hCl hn3
  have hCn : (withY L0 y).length = n := by rw [withY_len (by omega), hCl]
  have HAG := hid (fun k (hk : k < n) => addY_get (k := k) hCl hn3 hk)
  have HAS := hid (fun k (hk : k < n) => addY_succ (k := k) hCl hn3 hk)
  have HAL := hid (fun k (hk : k ≤ n) => addY_len (k := k) hCl hn3 hk)
  have HA0 := hid (addY_zero L0 y)
  obtain ⟨C, hC⟩ : ∃ C, C = withY L0 y := ⟨_, rfl⟩
  rw [← hC] at hY hAll hCn ⊢
  have hle : ∀ t, t ≤ n2 + 1 → ∀ r ∈ (rRed C t).done ++ (rRed C t).left, r.length = n2 + 1 ∧ BndL 1073741824 r := fun t ht r hr => by
    have h0 : ∀ t, t ≤ n2 → ∀ r ∈ (rRed C t).done ++ (rRed C t).left, ∀ x ∈ r, -((720 * 1000000 : Nat) : Int) ≤ x ∧ x ≤ ((720 * 1000000 : Nat) : Int) := fun t ht r hr => (rRed_le hY.wid hY.le6 hY.one hY.all ht r hr).2
    refine ⟨(rRed_inv C hY.wid t).1.wid r hr, ?_⟩
    rcases Nat.lt_or_ge n2 t with h | h
    · obtain rfl : t = n2 + 1 := by omega
      intro x hx
      have := rRed_le1 hY.wid (h0 n2 (Nat.le_refl _)) r hr x hx
      omega
    · intro x hx
      have := h0 t h r hr x hx
      omega
  have HRd := hid (fun (X : World) (a5 : Option Addr) (c5 : Nat) (hR : RowsAt X a5 C) => r3reduced_c X a5 n c5 C (n2 + 1) hCn (by omega) hR hY.wid (by omega) (fun r hr x hx => by have := hY.all r hr x hx; omega)
    hle (fun t => by rw [(ref_lens hY.wid t).1, hCn]) (fun t => (ref_lens hY.wid t).2))
  have hinv := (rRed_inv C hY.wid (n2 + 1)).1
  have hdp : (rRed C (n2 + 1)).piv.length = (rRed C (n2 + 1)).done.length := (ref_lens hY.wid (n2 + 1)).2
  have hDw : ∀ r ∈ (rRed C (n2 + 1)).done, r.length = n2 + 1 := fun r hr => (hle _ (Nat.le_refl _) r (List.mem_append_left _ hr)).1
  have hDb : ∀ r ∈ (rRed C (n2 + 1)).done, BndL 1073741824 r := fun r hr => (hle _ (Nat.le_refl _) r (List.mem_append_left _ hr)).2
  have hKn : (rRed C (n2 + 1)).piv.length ≤ n := by have := (ref_lens hY.wid (n2 + 1)).1; omega
  have hJlt : ∀ k, k < (rRed C (n2 + 1)).piv.length → jf (rRed C (n2 + 1)).piv k < n2 + 1 := fun k hk => by
    unfold jf; rw [List.getElem?_eq_getElem hk]; exact hinv.lt _ (List.getElem_mem hk)
  have hJpos : ∀ k, k < (rRed C (n2 + 1)).piv.length → 0 < vec ((rRed C (n2 + 1)).done[k]?.getD []) (jf (rRed C (n2 + 1)).piv k) := fun k hk => by
    have := (hinv.pp k hk).2
    unfold rowv at this
    rw [List.getElem?_append_left (by omega)] at this
    exact this
  have HSV := hid (show solvedR C n2 = if n2 ∈ (rRed C (n2 + 1)).piv then ([], 0, false) else ((List.range (rRed C (n2 + 1)).piv.length).foldl (fun out i => out.set (jf (rRed C (n2 + 1)).piv i) (ratioF (vec ((rRed C (n2 + 1)).done[i]?.getD []) n2) (vec ((rRed C (n2 + 1)).done[i]?.getD []) (jf (rRed C (n2 + 1)).piv i)))) (List.replicate n2 (0, 1)), (n2 : Int) - (rRed C (n2 + 1)).piv.length, true) from rfl)
  obtain ⟨SV, hSV⟩ : ∃ SV, SV = solvedR C n2 := ⟨_, rfl⟩
  rw [← hSV] at HSV ⊢
  obtain ⟨D, hD⟩ : ∃ D, D = (rRed C (n2 + 1)).done := ⟨_, rfl⟩
  obtain ⟨J, hJ⟩ : ∃ J, J = (rRed C (n2 + 1)).piv := ⟨_, rfl⟩
  rw [← hD] at HRd hdp hDw hDb hJpos HSV
  rw [← hJ] at HRd hdp hJpos HSV hKn hJlt
  obtain ⟨K, hK⟩ : ∃ K, K = J.length := ⟨_, rfl⟩
  rw [← hK] at HRd hdp hJpos HSV hKn hJlt
  have HKJ := hid hK
  have HDL := hid (show D.length = K from hdp.symm)
  have HDW := hid hDw
  have HDB := hid hDb
  have HJLT := hid hJlt
  have HJPOS := hid hJpos
  have HALL := hid hAll
  have HN3 := hid hn3
  have HH3 := hid H3
  have HCW := hid hClw
  have HCL := hid hCl
  have HYW := hid hY.wid
  clear hSV hD hJ hK hdp hDw hDb hJlt hJpos hAll hn3 H3 hClw hle hinv hC hL0 hY hMC hB6 hS hCn hCl H H2 hn hn2 hso hmil hok hM h1 h6 hc1 hc10 hl10
  go_enter Tryz.func147, Tryz.ntmps147
  go_wp2_with (go_at_call 100; refine HCl.out.mono ?_; rintro e w1 ⟨v1, rfl, hT1, hb1⟩; refine Stop.of ?_)
  refine Stop.go ?_
  have hv1 : ∃ g1 c1, v1 = .slice (some ⟨g1, 0, none⟩) n c1 := by
    obtain ⟨g1, c1, _, e, _⟩ := hT1.at HCL.out (i := 0) (by omega)
    exact ⟨g1, c1, e⟩
  obtain ⟨g1, c1, rfl⟩ := hv1
  have HT1 := hid hT1
  have HB1 := hid hb1
  clear hT1 hb1 HCl
  go_wp2
  go_loopw [22] (fun i wr => ∃ k : Nat, k ≤ n ∧ i = .int .i64 k ∧ TabD wr w.heap.size (.slice (some ⟨g1, 0, none⟩) n c1) (addY L0 y k) ∧ Below w.heap.size w wr) (fun i _ => n - (intOf i).toNat)
  case atStart => exact ⟨0, Nat.zero_le _, rfl, by rw [HA0.out]; exact HT1.out, HB1.out⟩
  case round =>
    obtain ⟨k, hk, rfl, hT, hbk⟩ := hrel
    by_cases hlt : k < n
    · obtain ⟨g0, cap0, u, e, hbg, hg0, hcu, hou, hfu, hune, hset⟩ := hT.at (HAL.out k hk) hlt
      cases e
      rw [HAG.out k hlt] at hou
      obtain ⟨yb, yo, rfl, hys, hyc⟩ := HH3.out k (by rw [HN3.out]; exact hlt)
      have hasu := HAS.out k hlt
      obtain ⟨x, hx⟩ : ∃ x, x = y[k]?.getD 0 := ⟨_, rfl⟩
      rw [← hx] at hyc hasu
      have hrl : (L0[k]?.getD []).length = n2 := by
        rw [List.getElem?_eq_getElem (by rw [HCL.out]; exact hlt)]; exact HCW.out _ (List.getElem_mem _)
      obtain ⟨r, hr⟩ : ∃ r, r = L0[k]?.getD [] := ⟨_, rfl⟩
      rw [← hr] at hou hasu hrl
      unfold OwnR at hou
      rw [hrl] at hou
      obtain ⟨ua, uc, rfl⟩ := ownsRow_slice hou
      have HOU := hid hou
      have HUN := hid hune
      have HSET := hid hset
      have HAU := hid hasu
      have HBK := hid hbk
      have HRL := hid hrl
      have hg0 := hg0
      have HSU := hid (hou.lt)
      have HS := hid (fun (X : World) (hX : Below wr.heap.size wr X) => show X.cell? ⟨g1, k, none⟩ = some (.slice ua n2 uc) ∧ X.cell? ⟨yb, yo + k, none⟩ = some (.int .i64 x) from
        ⟨(hX.cell (p := ⟨g1, k, none⟩) hg0).trans hcu, (hX.cell (p := ⟨yb, yo + k, none⟩) (Nat.lt_of_lt_of_le hys hbk.size)).trans ((hbk.cell (p := ⟨yb, yo + k, none⟩) hys).trans hyc)⟩)
      have i1 : (k : Int) < (n : Int) := by omega
      have M1 := hid (show n2 + 1 ≤ maxLen by unfold maxLen; omega)
      have M2 := hid (show (n2 + 1) * 8 ≤ 140737488355328 by omega)
      clear hou hune hset hasu hbk hrl hx hr hyc hcu hT
      go_wp2
      refine plain_region (fun j' X => decide (j' ≤ 11) = true → X.cell? ⟨g1, k, none⟩ = some (.slice ua n2 uc) ∧ X.cell? ⟨yb, yo + k, none⟩ = some (.int .i64 x)) (by kernel_rfl) ?_
      have hbd : Below wr.heap.size wr wr.drew := (Below.refl _ _).drew
      have HO2 := hid (own_below HOU.out ((Below.refl _ wr).drew))
      have HB3 := hid hbd
      generalize wr.drew = wd at hbd HO2 HB3 ⊢
      refine AnyT.takeD (i := 0) (v := .slice (some ⟨g1, 0, none⟩) n c1) rfl rfl (by kernel_rfl) (by kernel_rfl) (by kernel_rfl) (by first | exact (fun _ _ _ h => h) | exact (fun _ _ _ h => absurd h.1 (by simp))) (by kernel_rfl) (by rfl) (by rintro w' ⟨y1, y2⟩; go_simp) (HS.out _ hbd) ?_; go_frame
      refine AnyT.takeD (i := 1) (v := .int .i64 k) rfl rfl (by kernel_rfl) (by kernel_rfl) (by kernel_rfl) (by first | exact (fun _ _ _ h => h) | exact (fun _ _ _ h => absurd h.1 (by simp))) (by kernel_rfl) (by rfl) (by rintro w' ⟨y1, y2⟩; go_simp) (HS.out _ hbd) ?_; go_frame
      refine AnyT.takeD (i := 2) (v := .slice (some ⟨g1, 0, none⟩) n c1) rfl rfl (by kernel_rfl) (by kernel_rfl) (by kernel_rfl) (by first | exact (fun _ _ _ h => h) | exact (fun _ _ _ h => absurd h.1 (by simp))) (by kernel_rfl) (by rfl) (by rintro w' ⟨y1, y2⟩; go_simp) (HS.out _ hbd) ?_; go_frame
      refine AnyT.takeD (i := 3) (v := .int .i64 k) rfl rfl (by kernel_rfl) (by kernel_rfl) (by kernel_rfl) (by first | exact (fun _ _ _ h => h) | exact (fun _ _ _ h => absurd h.1 (by simp))) (by kernel_rfl) (by rfl) (by rintro w' ⟨y1, y2⟩; go_simp) (HS.out _ hbd) ?_; go_frame
      refine AnyT.takeD (i := 4) (v := .pointer (some ⟨g1, k, none⟩)) rfl rfl (by kernel_rfl) (by kernel_rfl) (by kernel_rfl) (by first | exact (fun _ _ _ h => h) | exact (fun _ _ _ h => absurd h.1 (by simp))) (by kernel_rfl) (by rfl) (by rintro w' ⟨y1, y2⟩; go_simp) (HS.out _ hbd) ?_; go_frame
      refine AnyT.takeD (i := 5) (v := .slice ua n2 uc) rfl rfl (by kernel_rfl) (by kernel_rfl) (by kernel_rfl) (by first | exact (fun _ _ _ h => h) | exact (fun _ _ _ h => absurd h.1 (by simp))) (by kernel_rfl) (by rfl) (by rintro w' ⟨y1, y2⟩; go_simp) (HS.out _ hbd) ?_; go_frame
      refine AnyT.takeD (i := 6) (v := .slice (some ⟨yb, yo, none⟩) n cap3) rfl rfl (by kernel_rfl) (by kernel_rfl) (by kernel_rfl) (by first | exact (fun _ _ _ h => h) | exact (fun _ _ _ h => absurd h.1 (by simp))) (by kernel_rfl) (by rfl) (by rintro w' ⟨y1, y2⟩; go_simp) (HS.out _ hbd) ?_; go_frame
      refine AnyT.takeD (i := 7) (v := .int .i64 k) rfl rfl (by kernel_rfl) (by kernel_rfl) (by kernel_rfl) (by first | exact (fun _ _ _ h => h) | exact (fun _ _ _ h => absurd h.1 (by simp))) (by kernel_rfl) (by rfl) (by rintro w' ⟨y1, y2⟩; go_simp) (HS.out _ hbd) ?_; go_frame
      refine AnyT.takeD (i := 8) (v := .pointer (some ⟨yb, yo + k, none⟩)) rfl rfl (by kernel_rfl) (by kernel_rfl) (by kernel_rfl) (by first | exact (fun _ _ _ h => h) | exact (fun _ _ _ h => absurd h.1 (by simp))) (by kernel_rfl) (by rfl) (by rintro w' ⟨y1, y2⟩; go_simp) (HS.out _ hbd) ?_; go_frame
      refine AnyT.takeD (i := 9) (v := .int .i64 x) rfl rfl (by kernel_rfl) (by kernel_rfl) (by kernel_rfl) (by first | exact (fun _ _ _ h => h) | exact (fun _ _ _ h => absurd h.1 (by simp))) (by kernel_rfl) (by rfl) (by rintro w' ⟨y1, y2⟩; go_simp) (HS.out _ hbd) ?_; go_frame
      have hbA : Below wr.heap.size wr (wd.alloc (.cells #[.int .i64 x] 3)) := HB3.out.alloc HB3.out.size _
      have M3 := hid (Nat.le_trans HBK.out.size hbA.size)
      refine AnyT.next (i := 10) (by kernel_rfl) rfl (wpOp_of_list rfl ?_)
      go_wp2
      refine ⟨fun _ => HS.out _ hbA, ?_⟩
      refine AnyT.next (i := 11) (by kernel_rfl) rfl (wpOp_of_list rfl ?_)
      refine wpList_app_at _ rfl (.tmp 30) (.tmp 35) 33 rfl w.heap.size 3 (.int .i64 0) 1 8 Tryz.underlying33 li_int rfl Nat.one_pos (.slice ua n2 uc) n2 _ rfl (HO2.out.alloc _) ⟨wd.heap.size, 0, none⟩ 1 1 [.int .i64 x] rfl rfl (one_news wd _ _ _ rfl) (li_one _) M1.out M2.out M3.out ?_
      intro a5 c5 w5 own5 g5 hat
      have hD5 : TabD (w5.setCell ⟨g1, k, none⟩ (.slice a5 (n2 + 1) c5)) w.heap.size (.slice (some ⟨g1, 0, none⟩) n c1) (addY L0 y (k + 1)) := by
        rw [HAU.out]
        exact HSET.out _ w5 _ (r ++ [x]) hbA g5 (by unfold OwnR; simpa [HRL.out] using own5) hat
      have hb5 : Below w.heap.size w w5 := (HBK.out.trans (hbA.mono HBK.out.size)).grown g5 M3.out (fun q hq => (HSU.out q hq).1)
      have hg5 : w5.heap[g1]? = (wd.alloc (.cells #[.int .i64 x] 3)).heap[g1]? := g5.block g1 (Nat.lt_of_lt_of_le hg0 hbA.size) (fun e => HUN.out g1 e.symm rfl)
      have hy5 : w5.heap[yb]? = (wd.alloc (.cells #[.int .i64 x] 3)).heap[yb]? := g5.block yb (Nat.lt_of_lt_of_le hys M3.out) (fun e => by have := (HSU.out yb e.symm).1; omega)
      have q1 : w5.cell? ⟨g1, k, none⟩ = some (.slice ua n2 uc) := (World.cell?_of_block (a := ⟨g1, k, none⟩) hg5).trans (HS.out _ hbA).1
      have q2 : w5.cell? ⟨yb, yo + k, none⟩ = some (.int .i64 x) := (World.cell?_of_block (a := ⟨yb, yo + k, none⟩) hy5).trans (HS.out _ hbA).2
      have q3 : w5.frozen? ⟨g1, k, none⟩ = false := by
        have h5 : w5.heap[g1]? = wr.heap[g1]? := hg5.trans (hbA.block g1 hg0)
        rw [← hfu]; simp [World.frozen?, h5]
      have q4 : g1 < w5.heap.size := by
        rcases Nat.lt_or_ge g1 w5.heap.size with h | h
        · exact h
        · rw [World.cell?, Array.getElem?_eq_none h] at q1; cases q1
      have hbe : Below w.heap.size w (w5.setCell ⟨g1, k, none⟩ (.slice a5 (n2 + 1) c5)) := below_set hb5 hbg k _
      refine ⟨fun _ => ⟨q1, q2⟩, ?_⟩
      have HD5 := hid hD5
      have HBE := hid hbe
      clear own5 g5 hat hD5 hb5 hg5 hy5 hbe hbA
      refine AnyT.next (i := 12) (by kernel_rfl) rfl (wpOp_of_list rfl ?_)
      go_wp2
      refine ⟨fun h => absurd h (by decide), ?_⟩
      refine AnyT.next (i := 13) (by kernel_rfl) rfl (wpOp_of_list rfl ?_)
      go_wp2
      refine ⟨fun h => absurd h (by decide), ?_⟩
      refine AnyT.done (by kernel_rfl) ?_ _
      go_wp2
      exact ⟨⟨k + 1, by omega, by go_num, HD5.out, HBE.out⟩, by simp [intOf]; omega⟩
    · obtain rfl : k = n := by omega
      rw [HALL.out] at hT
      have hRA := hT.tab.rows (by rw [← HALL.out]; exact HAL.out k (Nat.le_refl _)) (fun r hr => by rw [HYW.out r hr]; unfold maxLen; omega)
      have HR1 := hid (HRd.out wr (some ⟨g1, 0, none⟩) c1 hRA)
      have HBK := hid hbk
      clear hT hRA hbk HRd
      go_wp2_with (go_at_call 111; refine HR1.out.mono ?_; rintro e w3 ⟨vD, vP, rfl, hTD, hTP, hb3⟩; refine Stop.of ?_)
      refine Stop.go ?_
      obtain ⟨dA, dc, rfl⟩ : ∃ a c, vD = .slice a K c := by
        obtain ⟨_, ho, _⟩ := hTD
        obtain ⟨a', c', e⟩ := ownsRow_slice ho
        exact ⟨a', c', by rw [e, HDL.out]⟩
      have HDA := hid (hTD.rows HDL.out (fun r hr => by rw [HDW.out r hr]; unfold maxLen; omega))
      obtain ⟨ja, jc, rfl, hJI, hJm⟩ := ints_of_own hTP (by unfold castL; rw [List.length_map, HKJ.out])
      have HJI := hid hJI
      have HBW := hid (show Below w.heap.size w w3 from HBK.out.trans (hb3.mono HBK.out.size))
      clear hTD hTP hJI hb3 HR1 HBK
      have hmk := run_make_rat n2 (by omega)
      obtain ⟨w7, hw7⟩ : ∃ w7, w7 = w3.alloc (.cells (madeCells #[.int .i64 0, .int .i64 0] (n2 * 2)) 101) := ⟨_, rfl⟩
      obtain ⟨g, hg⟩ : ∃ g, g = w3.heap.size := ⟨_, rfl⟩
      have HRB0 := hid (show RatBlk w7 g (List.replicate n2 (0, 0)) by rw [hw7, hg]; exact made_rat w3 n2)
      have HB7 := hid (show Below g w3 w7 by rw [hw7, hg]; exact (Below.refl _ _).alloc (Nat.le_refl _) _)
      go_wp2_with fail
      rw [← hg, ← hw7]
      have HG := hid hg
      clear hg hw7 hmk
      go_wp2
      go_loopw [49] (fun i wr => ∃ t : Nat, t ≤ n2 ∧ i = .int .i64 t ∧ RatBlk wr g (List.replicate t (0, 1) ++ List.replicate (n2 - t) (0, 0)) ∧ Below w3.heap.size w3 wr) (fun i _ => n2 - (intOf i).toNat)
      case atStart => exact ⟨0, Nat.zero_le _, rfl, by simpa using HRB0.out, by rw [← HG.out]; exact HB7.out⟩
      case round =>
        obtain ⟨t, ht, rfl, hr, hbk⟩ := hrel
        by_cases hlt : t < n2
        · have hlen : (List.replicate t ((0, 1) : Rt) ++ List.replicate (n2 - t) (0, 0)).length = n2 := by simp; omega
          obtain ⟨⟨z0, q0⟩, ⟨z1, q1⟩, f0, f1⟩ : (∃ z, wr.cell? ⟨g, t * 2, none⟩ = some (.int .i64 z)) ∧ (∃ z, wr.cell? ⟨g, t * 2 + 1, none⟩ = some (.int .i64 z)) ∧ wr.frozen? ⟨g, t * 2, none⟩ = false ∧ wr.frozen? ⟨g, t * 2 + 1, none⟩ = false := by
            obtain ⟨q0, q1, q2⟩ := hr.cells (k := t) (by rw [hlen]; exact hlt)
            exact ⟨⟨_, q0⟩, ⟨_, q1⟩, q2 _, q2 _⟩
          have hst := hr.set (k := t) (by rw [hlen]; exact hlt) 0 1
          have e1 : (List.replicate t ((0, 1) : Rt) ++ List.replicate (n2 - t) (0, 0)).set t (0, 1) = List.replicate (t + 1) (0, 1) ++ List.replicate (n2 - (t + 1)) (0, 0) := by
            rw [List.set_append_right _ _ (by simp), show n2 - t = n2 - (t + 1) + 1 by omega, List.replicate_succ (n := n2 - (t + 1)), List.replicate_succ' (n := t)]
            simp
          rw [e1] at hst
          have hbe : Below w3.heap.size w3 ((wr.setCell ⟨g, t * 2, none⟩ (.int .i64 0)).setCell ⟨g, t * 2 + 1, none⟩ (.int .i64 1)) := below_set (below_set hbk (by rw [HG.out]; exact Nat.le_refl _) _ _) (by rw [HG.out]; exact Nat.le_refl _) _ _
          have hgl := hr.lt
          have HST := hid hst
          have HBE := hid hbe
          have i1 : (t : Int) < (n2 : Int) := by omega
          clear hst hbe e1 hlen hr hbk
          go_wp2
          exact ⟨⟨t + 1, by omega, by go_num, HST.out, HBE.out⟩, by simp [intOf]; omega⟩
        · obtain rfl : t = n2 := by omega
          rw [Nat.sub_self, List.replicate_zero, List.append_nil] at hr
          have HR := hid hr
          have HBK := hid hbk
          clear hr hbk
          go_wp2
          obtain ⟨outTo, hOT⟩ : ∃ f : Nat → List Rt, f = fun k => (List.range k).foldl (fun out i => out.set (jf J i) (ratioF (vec (D[i]?.getD []) t) (vec (D[i]?.getD []) (jf J i)))) (List.replicate t (0, 1)) := ⟨_, rfl⟩
          have HO0 := hid (show outTo 0 = List.replicate t (0, 1) by rw [hOT]; rfl)
          have HOS := hid (fun k => show outTo (k + 1) = (outTo k).set (jf J k) (ratioF (vec (D[k]?.getD []) t) (vec (D[k]?.getD []) (jf J k))) by rw [hOT]; simp only []; rw [List.range_succ, List.foldl_append]; rfl)
          have HOE := hid (show SV = if t ∈ J then ([], 0, false) else (outTo K, (t : Int) - K, true) by rw [HSV.out, hOT])
          have HOL := hid (fun k => show (outTo k).length = t by
            induction k with
            | zero => rw [HO0.out]; simp
            | succ k ih => rw [HOS.out k]; simpa using ih)
          clear hOT
          go_loopw [59] (fun i wr => ∃ k : Nat, k ≤ K ∧ i = .int .i64 k ∧ RatBlk wr g (outTo k) ∧ Below w3.heap.size w3 wr ∧ Hid (∀ i, i < k → jf J i ≠ t)) (fun i _ => K - (intOf i).toNat)
          case atStart => exact ⟨0, Nat.zero_le _, rfl, by rw [HO0.out]; exact HR.out, HBK.out, hid (fun i h => by omega)⟩
          case round =>
            obtain ⟨k, hk, rfl, hr, hbk, HNE⟩ := hrel
            by_cases hlt : k < K
            · have hkJ : k < J.length := by rw [← HKJ.out]; exact hlt
              obtain ⟨jb, jo, rfl, hjs, hcj⟩ := HJI.out k (by unfold castL; rw [List.length_map]; exact hkJ)
              have hJk : jf J k = J[k] := by unfold jf; rw [List.getElem?_eq_getElem hkJ]; rfl
              have hcv : (castL J)[k]?.getD 0 = ((jf J k : Nat) : Int) := by rw [hJk]; unfold castL; simp [hkJ]
              rw [hcv] at hcj
              have hjw : wr.cell? ⟨jb, jo + k, none⟩ = some (.int .i64 ((jf J k : Nat) : Int)) := (hbk.cell (p := ⟨jb, jo + k, none⟩) hjs).trans hcj
              have hpl := HJLT.out k hlt
              have hzp := HJPOS.out k hlt
              have hos := HOS.out k
              have hmem : jf J k = t → t ∈ J := fun h => by rw [hJk] at h; rw [← h]; exact List.getElem_mem hkJ
              obtain ⟨p, hp⟩ : ∃ p, p = jf J k := ⟨_, rfl⟩
              rw [← hp] at hjw hpl hzp hos hmem
              have HP := hid hp
              clear hcj hcv hJk hp hkJ
              by_cases hpt : p = t
              · have hse := HOE.out
                rw [if_pos (hmem hpt)] at hse
                subst hse
                subst hpt
                have HBK := hid hbk
                clear hr hbk hpl hzp hos hmem
                have i3 : ((p : Int) == (p : Int)) = true := by simp
                go_wp2
                go_ret3
                exact ⟨.slice none 0 0, rfl, w.heap.size, Nat.le_refl _, RatsO.nil _ _, chain HBW.out HBK.out⟩
              · have hp2 : p < t := by omega
                obtain ⟨db, doff, ra, rn, rc, rfl, hds, hdc, hrn, hrm, hri⟩ := HDA.out k (by rw [HDL.out]; exact hlt)
                have hkD : k < D.length := by rw [HDL.out]; exact hlt
                have hrw : rn = t + 1 := by rw [← hrn]; exact HDW.out _ (List.getElem_mem _)
                have hvx : ∀ c, (D[k])[c]?.getD 0 = vec (D[k]?.getD []) c := fun c => by rw [List.getElem?_eq_getElem hkD]; rfl
                obtain ⟨rb, ro, rfl, hrs, hcx⟩ := hri t (by omega)
                obtain ⟨_, _, e2, _, hcz⟩ := hri p (by omega)
                cases e2
                rw [hvx] at hcx hcz
                have hbx := vec_mem (P := fun x => -((1073741824 : Nat) : Int) ≤ x ∧ x ≤ ((1073741824 : Nat) : Int)) (by omega) (HDB.out _ (List.getElem_mem hkD))
                have hbx1 := hbx t
                have hbx2 := hbx p
                have hRk : D[k]?.getD [] = D[k] := by rw [List.getElem?_eq_getElem hkD]; rfl
                rw [← hRk] at hbx1 hbx2
                have HOf := hid (fun (X : World) => r3ratio_c X (vec (D[k]?.getD []) t) (vec (D[k]?.getD []) p) (by omega) (by omega) (by omega))
                obtain ⟨x, hx⟩ : ∃ x, x = vec (D[k]?.getD []) t := ⟨_, rfl⟩
                obtain ⟨z, hz⟩ : ∃ x, x = vec (D[k]?.getD []) p := ⟨_, rfl⟩
                rw [← hx] at hcx HOf hos
                rw [← hz] at hcz HOf hos
                obtain ⟨Q, hQ⟩ : ∃ Q, Q = ratioF x z := ⟨_, rfl⟩
                rw [← hQ] at HOf hos
                obtain ⟨q1, q2⟩ := Q
                have HOSK := hid hos
                have HOLK := hid (HOL.out k)
                have HNE2 := hid (show ∀ i, i < k + 1 → jf J i ≠ t from fun i hi => by
                  rcases Nat.lt_or_ge i k with h | h
                  · exact HNE.out i h
                  · obtain rfl : i = k := by omega
                    rw [← HP.out]; exact hpt)
                have HR := hid hr
                have HBK := hid hbk
                have HS := hid (fun (X : World) (hX : Below w3.heap.size w3 X) => show X.cell? ⟨db, doff + k, none⟩ = some (.slice (some ⟨rb, ro, none⟩) rn rc) ∧ X.cell? ⟨rb, ro + t, none⟩ = some (.int .i64 x) ∧ X.cell? ⟨rb, ro + p, none⟩ = some (.int .i64 z) from
                  ⟨(hX.cell (p := ⟨db, doff + k, none⟩) hds).trans hdc, (hX.cell (p := ⟨rb, ro + t, none⟩) hrs).trans hcx, (hX.cell (p := ⟨rb, ro + p, none⟩) hrs).trans hcz⟩)
                have i1 : (k : Int) < (K : Int) := by omega
                have i2 : (p : Int) < (rn : Int) := by omega
                have i4 : (t : Int) < (rn : Int) := by omega
                have i5 : (p : Int) < (t : Int) := by omega
                have i3 : ((p : Int) == (t : Int)) = false := by simp; omega
                simp only [ratV] at HOf
                clear hr hbk hzp hos hmem hbx hbx1 hbx2 hRk hx hz hQ hcx hcz hvx hri hrn hrw hdc hpl hpt
                go_wp2
                refine plain_region (fun j' X => wAll j' = true → X.cell? ⟨db, doff + k, none⟩ = some (.slice (some ⟨rb, ro, none⟩) rn rc) ∧ X.cell? ⟨rb, ro + t, none⟩ = some (.int .i64 x) ∧ X.cell? ⟨rb, ro + p, none⟩ = some (.int .i64 z)) (by kernel_rfl) ?_
                have hbd : Below w3.heap.size w3 wr.drew := HBK.out.drew
                have HR2 := hid (HR.out.keep (w' := wr.drew) rfl)
                generalize wr.drew = wd at hbd HR2 ⊢
                refine AnyT.takeD (i := 0) (v := .slice (some ⟨g, 0, none⟩) t t) rfl rfl (by kernel_rfl) (by kernel_rfl) (by kernel_rfl) (by first | exact (fun _ _ _ h => h) | exact (fun _ _ _ h => absurd h.1 (by simp))) (by kernel_rfl) (by rfl) (by rintro w' ⟨y1, y2, y3⟩; go_simp) (HS.out _ hbd) ?_; go_frame
                refine AnyT.takeD (i := 1) (v := .int .i64 p) rfl rfl (by kernel_rfl) (by kernel_rfl) (by kernel_rfl) (by first | exact (fun _ _ _ h => h) | exact (fun _ _ _ h => absurd h.1 (by simp))) (by kernel_rfl) (by rfl) (by rintro w' ⟨y1, y2, y3⟩; go_simp) (HS.out _ hbd) ?_; go_frame
                refine AnyT.takeD (i := 2) (v := .slice (some ⟨db, doff, none⟩) K dc) rfl rfl (by kernel_rfl) (by kernel_rfl) (by kernel_rfl) (by first | exact (fun _ _ _ h => h) | exact (fun _ _ _ h => absurd h.1 (by simp))) (by kernel_rfl) (by rfl) (by rintro w' ⟨y1, y2, y3⟩; go_simp) (HS.out _ hbd) ?_; go_frame
                refine AnyT.takeD (i := 3) (v := .int .i64 k) rfl rfl (by kernel_rfl) (by kernel_rfl) (by kernel_rfl) (by first | exact (fun _ _ _ h => h) | exact (fun _ _ _ h => absurd h.1 (by simp))) (by kernel_rfl) (by rfl) (by rintro w' ⟨y1, y2, y3⟩; go_simp) (HS.out _ hbd) ?_; go_frame
                refine AnyT.takeD (i := 4) (v := .pointer (some ⟨db, doff + k, none⟩)) rfl rfl (by kernel_rfl) (by kernel_rfl) (by kernel_rfl) (by first | exact (fun _ _ _ h => h) | exact (fun _ _ _ h => absurd h.1 (by simp))) (by kernel_rfl) (by rfl) (by rintro w' ⟨y1, y2, y3⟩; go_simp) (HS.out _ hbd) ?_; go_frame
                refine AnyT.takeD (i := 5) (v := .slice (some ⟨rb, ro, none⟩) rn rc) rfl rfl (by kernel_rfl) (by kernel_rfl) (by kernel_rfl) (by first | exact (fun _ _ _ h => h) | exact (fun _ _ _ h => absurd h.1 (by simp))) (by kernel_rfl) (by rfl) (by rintro w' ⟨y1, y2, y3⟩; go_simp) (HS.out _ hbd) ?_; go_frame
                refine AnyT.takeD (i := 6) (v := .slice a2 t cap2) rfl rfl (by kernel_rfl) (by kernel_rfl) (by kernel_rfl) (by first | exact (fun _ _ _ h => h) | exact (fun _ _ _ h => absurd h.1 (by simp))) (by kernel_rfl) (by rfl) (by rintro w' ⟨y1, y2, y3⟩; go_simp) (HS.out _ hbd) ?_; go_frame
                refine AnyT.takeD (i := 7) (v := .int .i64 t) rfl rfl (by kernel_rfl) (by kernel_rfl) (by kernel_rfl) (by first | exact (fun _ _ _ h => h) | exact (fun _ _ _ h => absurd h.1 (by simp))) (by kernel_rfl) (by rfl) (by rintro w' ⟨y1, y2, y3⟩; go_simp) (HS.out _ hbd) ?_; go_frame
                refine AnyT.takeD (i := 8) (v := .pointer (some ⟨rb, ro + t, none⟩)) rfl rfl (by kernel_rfl) (by kernel_rfl) (by kernel_rfl) (by first | exact (fun _ _ _ h => h) | exact (fun _ _ _ h => absurd h.1 (by simp))) (by kernel_rfl) (by rfl) (by rintro w' ⟨y1, y2, y3⟩; go_simp) (HS.out _ hbd) ?_; go_frame
                refine AnyT.takeD (i := 9) (v := .int .i64 x) rfl rfl (by kernel_rfl) (by kernel_rfl) (by kernel_rfl) (by first | exact (fun _ _ _ h => h) | exact (fun _ _ _ h => absurd h.1 (by simp))) (by kernel_rfl) (by rfl) (by rintro w' ⟨y1, y2, y3⟩; go_simp) (HS.out _ hbd) ?_; go_frame
                refine AnyT.takeD (i := 10) (v := .slice (some ⟨db, doff, none⟩) K dc) rfl rfl (by kernel_rfl) (by kernel_rfl) (by kernel_rfl) (by first | exact (fun _ _ _ h => h) | exact (fun _ _ _ h => absurd h.1 (by simp))) (by kernel_rfl) (by rfl) (by rintro w' ⟨y1, y2, y3⟩; go_simp) (HS.out _ hbd) ?_; go_frame
                refine AnyT.takeD (i := 11) (v := .int .i64 k) rfl rfl (by kernel_rfl) (by kernel_rfl) (by kernel_rfl) (by first | exact (fun _ _ _ h => h) | exact (fun _ _ _ h => absurd h.1 (by simp))) (by kernel_rfl) (by rfl) (by rintro w' ⟨y1, y2, y3⟩; go_simp) (HS.out _ hbd) ?_; go_frame
                refine AnyT.takeD (i := 12) (v := .pointer (some ⟨db, doff + k, none⟩)) rfl rfl (by kernel_rfl) (by kernel_rfl) (by kernel_rfl) (by first | exact (fun _ _ _ h => h) | exact (fun _ _ _ h => absurd h.1 (by simp))) (by kernel_rfl) (by rfl) (by rintro w' ⟨y1, y2, y3⟩; go_simp) (HS.out _ hbd) ?_; go_frame
                refine AnyT.takeD (i := 13) (v := .slice (some ⟨rb, ro, none⟩) rn rc) rfl rfl (by kernel_rfl) (by kernel_rfl) (by kernel_rfl) (by first | exact (fun _ _ _ h => h) | exact (fun _ _ _ h => absurd h.1 (by simp))) (by kernel_rfl) (by rfl) (by rintro w' ⟨y1, y2, y3⟩; go_simp) (HS.out _ hbd) ?_; go_frame
                refine AnyT.takeD (i := 14) (v := .int .i64 p) rfl rfl (by kernel_rfl) (by kernel_rfl) (by kernel_rfl) (by first | exact (fun _ _ _ h => h) | exact (fun _ _ _ h => absurd h.1 (by simp))) (by kernel_rfl) (by rfl) (by rintro w' ⟨y1, y2, y3⟩; go_simp) (HS.out _ hbd) ?_; go_frame
                refine AnyT.takeD (i := 15) (v := .pointer (some ⟨rb, ro + p, none⟩)) rfl rfl (by kernel_rfl) (by kernel_rfl) (by kernel_rfl) (by first | exact (fun _ _ _ h => h) | exact (fun _ _ _ h => absurd h.1 (by simp))) (by kernel_rfl) (by rfl) (by rintro w' ⟨y1, y2, y3⟩; go_simp) (HS.out _ hbd) ?_; go_frame
                refine AnyT.takeD (i := 16) (v := .int .i64 z) rfl rfl (by kernel_rfl) (by kernel_rfl) (by kernel_rfl) (by first | exact (fun _ _ _ h => h) | exact (fun _ _ _ h => absurd h.1 (by simp))) (by kernel_rfl) (by rfl) (by rintro w' ⟨y1, y2, y3⟩; go_simp) (HS.out _ hbd) ?_; go_frame
                refine AnyT.next (i := 17) (by kernel_rfl) rfl (wpOp_of_list rfl ?_)
                go_wp2_with (go_at_call 150; refine (HOf.out _).mono ?_; rintro e w4 ⟨rfl, hbl4⟩; refine Stop.of ?_)
                refine Stop.go ?_
                have HB4 := hid (chain hbd hbl4)
                have hr4 := HR2.out.keep (hbl4.block g HR2.out.lt)
                obtain ⟨⟨z0, p0⟩, ⟨z1, p1⟩, f0, f1⟩ : (∃ z, w4.cell? ⟨g, p * 2, none⟩ = some (.int .i64 z)) ∧ (∃ z, w4.cell? ⟨g, p * 2 + 1, none⟩ = some (.int .i64 z)) ∧ w4.frozen? ⟨g, p * 2, none⟩ = false ∧ w4.frozen? ⟨g, p * 2 + 1, none⟩ = false := by
                  obtain ⟨q0, q1, q2⟩ := hr4.cells (k := p) (by rw [HOLK.out]; exact hp2)
                  exact ⟨⟨_, q0⟩, ⟨_, q1⟩, q2 _, q2 _⟩
                have hst := hr4.set (k := p) (by rw [HOLK.out]; exact hp2) q1 q2
                have hbe : Below w3.heap.size w3 ((w4.setCell ⟨g, p * 2, none⟩ (.int .i64 q1)).setCell ⟨g, p * 2 + 1, none⟩ (.int .i64 q2)) := below_set (below_set HB4.out (by rw [HG.out]; exact Nat.le_refl _) _ _) (by rw [HG.out]; exact Nat.le_refl _) _ _
                have hgl := hr4.lt
                rw [← HOSK.out] at hst
                have HST := hid hst
                have HBE := hid hbe
                clear hbd hbl4 hst hbe hr4
                go_wp2
                refine ⟨fun _ => HS.out _ HB4.out, ?_⟩
                refine AnyT.next (i := 18) (by kernel_rfl) rfl (wpOp_of_list rfl ?_)
                go_wp2
                refine ⟨fun _ => HS.out _ HB4.out, ?_⟩
                refine AnyT.next (i := 19) (by kernel_rfl) rfl (wpOp_of_list rfl ?_)
                go_wp2
                refine ⟨fun _ => HS.out _ HBE.out, ?_⟩
                refine AnyT.done (by kernel_rfl) ?_ _
                go_wp2
                exact ⟨⟨k + 1, by omega, by go_num, HST.out, HBE.out, HNE2⟩, by simp [intOf]; omega⟩
            · obtain rfl : k = K := by omega
              have htJ : t ∉ J := fun h => by
                obtain ⟨i, hi, e⟩ := List.mem_iff_getElem.1 h
                refine HNE.out i (by rw [HKJ.out]; exact hi) ?_
                unfold jf; rw [List.getElem?_eq_getElem hi]; exact e
              have hse := HOE.out
              rw [if_neg htJ] at hse
              subst hse
              have HRO := hid (hr.own (base := g) (HOL.out k) (by unfold maxLen; omega) (Nat.le_refl _))
              have HBK := hid hbk
              have hsub : IntKind.i64.wrap ((t : Int) - (k : Int)) = (t : Int) - (k : Int) := IntWalk.i64_in _ (by omega)
              clear hr hbk htJ
              go_wp2
              go_ret3
              exact ⟨_, rfl, g, by rw [HG.out]; exact HBW.out.size, HRO.out, chain HBW.out HBK.out⟩
end

section
open Go.RowKit
set_option linter.unusedVariables false

theorem solve_eq {M : Mask} {l y : List Int} (h : checkE M y l = 0) : solveV M l y = solveR (withY (colsF M l) y) l.length := by
  obtain ⟨hok, hyl, hmil, hso⟩ := check_ok h
  obtain ⟨hM, h1, h6, hc1, hc10⟩ := okM_ok hok
  unfold solveV
  rw [if_pos h]
  exact solve_same ((hM.cols l).addY (y := y) (by rw [colsF_len]; omega) (Y := 1000000) (by omega) (mil_bnd6 hmil))

set_option maxHeartbeats 1000000 in
theorem r3Solve_c (w : World) (a a2 a3 : Option Addr) (n cap n2 cap2 n3 cap3 : Nat) (M : Mask) (l y : List Int) (hn : M.length = n) (hn2 : l.length = n2) (hn3 : y.length = n3) (hm : n ≤ maxLen) (hm2 : n2 ≤ maxLen) (hm3 : n3 ≤ maxLen) (H : RowsAt w a M) (H2 : IntsAt w a2 l) (H3 : IntsAt w a3 y) :
    Calls Tryz.prog 141 #[.slice a n cap, .slice a2 n2 cap2, .slice a3 n3 cap3] w fun e w' => ∃ v base, e = .returned (.tuple #[v, .int .i64 (solveV M l y).2]) ∧ w.heap.size ≤ base ∧ RatsO w' base v (solveV M l y).1 ∧ Below w.heap.size w w' := by
  have HV := hid (r2Valid_c w a n cap M hn hm H)
  have hv : checkE M y l ≠ 0 → solveV M l y = ([], checkE M y l) := fun h => by unfold solveV; rw [if_neg h]
  cases hok : okM M
  · rw [hok] at HV
    have he : checkE M y l = 1 := by unfold checkE; rw [hok]; rfl
    rw [hv (by rw [he]; decide), he]
    clear hn hn2 hn3 H H2 H3 hok he hv
    go_enter Tryz.func141, Tryz.ntmps141
    go_wp2_with (go_at_call 57; refine HV.out.mono ?_; rintro e w1 ⟨rfl, rfl⟩)
    go_ret2
    exact ⟨.slice none 0 0, w.heap.size, rfl, Nat.le_refl _, RatsO.nil _ _, Below.refl _ _⟩
  · rw [hok] at HV
    by_cases hl : n3 = n
    · subst hl
      have hdl : ((n3 : Int) != (n3 : Int)) = false := by simp
      have HRD := hid (fun (X : World) (hX : Below w.heap.size w X) => r3reading_c X a3 n3 cap n3 cap3 M y a hn hn3 hm (H3.below hX))
      have HNM := hid (r3Named_c w a a2 n3 cap n2 cap2 M l hn hn2 hm2 H H2 hok)
      have hre : readE M y = if milB y = true then 0 else 7 := by unfold readE; rw [if_pos (by omega)]
      have hce : checkE M y l = if milB y = true then pixE M l else 7 := by unfold checkE; rw [if_pos hok, if_pos (by omega)]
      have hpx : pixE M l = namedE (colsM M) l := by unfold pixE; rw [if_pos hok]
      rw [hre] at HRD
      cases hmil : milB y
      · rw [hmil] at hce HRD
        simp only [Bool.false_eq_true, if_false] at hce HRD
        rw [hv (by rw [hce]; decide), hce]
        have HRD2 := hid (HRD.out w (Below.refl _ _))
        clear hn hn2 hn3 H H2 H3 hok hce hv hmil hre hpx HNM HRD
        go_enter Tryz.func141, Tryz.ntmps141
        go_wp2_with (go_at_call 57; refine HV.out.mono ?_; rintro e w1 ⟨rfl, rfl⟩; refine Stop.of ?_)
        refine Stop.go ?_
        go_wp2_with (go_at_call 131; refine HRD2.out.mono ?_; rintro e w1 ⟨rfl, rfl⟩)
        go_ret2
        exact ⟨.slice none 0 0, w.heap.size, rfl, Nat.le_refl _, RatsO.nil _ _, Below.refl _ _⟩
      · rw [hmil] at hce HRD
        simp only [if_true] at hce HRD
        have HRD2 := hid (HRD.out w (Below.refl _ _))
        rw [← hpx] at HNM
        by_cases hp : pixE M l = 0
        · have hc0 : checkE M y l = 0 := by rw [hce, hp]
          rw [solve_eq hc0]
          rw [hp] at HNM
          have HSO := hid (fun (X : World) (hX : Below w.heap.size w X) => r3solved_c X a a2 a3 n3 cap n2 cap2 cap3 M l y hn hn2 hn3 (H.below hX) (H2.below hX) (H3.below hX) hok hmil (pix_ok hp).2)
          have hsr : solveR (withY (colsF M l) y) l.length = if (solvedR (withY (colsF M l) y) n2).2.2 = false then ([], 8) else if 0 < (solvedR (withY (colsF M l) y) n2).2.1 then ([], 11) else ((solvedR (withY (colsF M l) y) n2).1, 0) := by rw [hn2]; rfl
          rw [hsr]
          obtain ⟨⟨S1, S2, S3⟩, hS⟩ : ∃ S, S = solvedR (withY (colsF M l) y) n2 := ⟨_, rfl⟩
          rw [← hS] at HSO ⊢
          simp only [] at HSO ⊢
          obtain ⟨⟨RL, RE⟩, hR⟩ : ∃ R : List Rt × Int, R = if S3 = false then ([], 8) else if 0 < S2 then ([], 11) else (S1, 0) := ⟨_, rfl⟩
          rw [← hR]
          simp only []
          have HRR := hid hR
          clear hR
          clear hn hn2 hn3 H H2 H3 hok hce hv hmil hre hpx HRD hc0 hsr hS hp
          go_enter Tryz.func141, Tryz.ntmps141
          go_wp2_with (go_at_call 57; refine HV.out.mono ?_; rintro e w1 ⟨rfl, rfl⟩; refine Stop.of ?_)
          refine Stop.go ?_
          go_wp2_with (go_at_call 131; refine HRD2.out.mono ?_; rintro e w1 ⟨rfl, rfl⟩; refine Stop.of ?_)
          refine Stop.go ?_
          go_wp2_with (go_at_call 146; refine HNM.out.mono ?_; rintro e w2 ⟨rfl, k2, rfl⟩; refine Stop.of ?_)
          refine Stop.go ?_
          have hb2 := below_drewN (Below.refl w.heap.size w) k2
          go_wp2_with (go_at_call 147; refine (HSO.out _ hb2).mono ?_; rintro e w3 ⟨v, base, rfl, hbs, hO, hb3⟩; refine Stop.of ?_)
          refine Stop.go ?_
          have hb := chain hb2 hb3
          have hbs' : w.heap.size ≤ base := Nat.le_trans hb2.size hbs
          obtain ⟨va, vc, rfl⟩ := ownsRow_slice hO
          have HO := hid hO
          clear hb2 hb3 hbs hO
          cases S3
          · obtain ⟨rfl, rfl⟩ := Prod.mk.inj (HRR.out.trans (if_pos rfl))
            go_wp2
            go_ret2
            exact ⟨.slice none 0 0, rfl, w.heap.size, Nat.le_refl _, RatsO.nil _ _, hb⟩
          · by_cases h0 : 0 < S2
            · obtain ⟨rfl, rfl⟩ := Prod.mk.inj (HRR.out.trans ((if_neg (by decide)).trans (if_pos h0)))
              go_wp2
              go_ret2
              first | exact ⟨.slice none 0 0, rfl, w.heap.size, Nat.le_refl _, RatsO.nil _ _, hb⟩ | exact ⟨.slice none 0 0, w.heap.size, rfl, Nat.le_refl _, RatsO.nil _ _, hb⟩
            · obtain ⟨rfl, rfl⟩ := Prod.mk.inj (HRR.out.trans ((if_neg (by decide)).trans (if_neg h0)))
              go_wp2
              go_ret2
              first | exact ⟨_, rfl, base, hbs', HO.out, hb⟩ | exact ⟨_, base, rfl, hbs', HO.out, hb⟩
        · have hc0 : checkE M y l ≠ 0 := by rw [hce]; exact hp
          rw [hv hc0, hce]
          obtain ⟨E, hE⟩ : ∃ E, E = pixE M l := ⟨_, rfl⟩
          rw [← hE] at HNM hp ⊢
          have hpb : (E != 0) = true := by simpa using hp
          clear hn hn2 hn3 H H2 H3 hok hce hv hmil hre hpx HRD hc0 hE
          go_enter Tryz.func141, Tryz.ntmps141
          go_wp2_with (go_at_call 57; refine HV.out.mono ?_; rintro e w1 ⟨rfl, rfl⟩; refine Stop.of ?_)
          refine Stop.go ?_
          go_wp2_with (go_at_call 131; refine HRD2.out.mono ?_; rintro e w1 ⟨rfl, rfl⟩; refine Stop.of ?_)
          refine Stop.go ?_
          go_wp2_with (go_at_call 146; refine HNM.out.mono ?_; rintro e w2 ⟨rfl, k2, rfl⟩)
          go_ret2
          exact ⟨.slice none 0 0, w.heap.size, rfl, Nat.le_refl _, RatsO.nil _ _, below_drewN (Below.refl _ _) _⟩
    · have hdl : ((n3 : Int) != (n : Int)) = true := by simp; omega
      have he : checkE M y l = 9 := by unfold checkE; rw [if_pos hok, if_neg (by omega)]
      rw [hv (by rw [he]; decide), he]
      clear hn hn2 hn3 H H2 H3 hok he hv hl
      go_enter Tryz.func141, Tryz.ntmps141
      go_wp2_with (go_at_call 57; refine HV.out.mono ?_; rintro e w1 ⟨rfl, rfl⟩)
      go_ret2
      exact ⟨.slice none 0 0, w.heap.size, rfl, Nat.le_refl _, RatsO.nil _ _, Below.refl _ _⟩

end
end
end Go.Proofs.YtkmjeegnijohmaaGreat

namespace Go.Proofs.YtkmjeegnijohmaaGreat
section
set_option linter.unusedVariables false

theorem foldl_set_len {α : Type} (f : Nat → α) (g : Nat → Nat) (l : List α) : ∀ (K : Nat), ((List.range K).foldl (fun out i => out.set (g i) (f i)) l).length = l.length
  | 0 => by simp
  | K + 1 => by rw [List.range_succ, List.foldl_append]; simp [foldl_set_len f g l K]
theorem foldl_set_at {α : Type} (f : Nat → α) (g : Nat → Nat) (l : List α) : ∀ (K i : Nat), i < K → g i < l.length → (∀ a b, a < b → b < K → g a ≠ g b) → ((List.range K).foldl (fun out i => out.set (g i) (f i)) l)[g i]? = some (f i)
  | 0, i, h, _, _ => by omega
  | K + 1, i, h, hl, hd => by
    rw [List.range_succ, List.foldl_append]
    simp only [List.foldl_cons, List.foldl_nil]
    by_cases e : i = K
    · subst e
      rw [List.getElem?_set_self (by rw [foldl_set_len]; exact hl)]
    · rw [List.getElem?_set_ne (fun e2 => hd i K (by omega) (by omega) e2.symm)]
      exact foldl_set_at f g l K i (by omega) hl (fun a b h1 h2 => hd a b h1 (by omega))

end

section
open Go.RowKit
set_option linter.unusedVariables false

def rdE (M : Mask) (y : List Int) : Int := if okM M = true then readE M y else 1
theorem rd_check (M : Mask) (y : List Int) : rdE M y = checkE M y [] := by
  unfold rdE checkE readE pixE namedE
  cases okM M <;> simp [ascB]
theorem r3Read_c (w : World) (a a2 : Option Addr) (n cap n2 cap2 : Nat) (M : Mask) (y : List Int) (hn : M.length = n) (hn2 : y.length = n2) (hm : n ≤ maxLen) (hm2 : n2 ≤ maxLen) (H : RowsAt w a M) (H2 : IntsAt w a2 y) :
    Calls Tryz.prog 119 #[.slice a n cap, .slice a2 n2 cap2] w fun e w' => e = .returned (.int .i64 (rdE M y)) ∧ w = w' := by
  have HV := hid (r2Valid_c w a n cap M hn hm H)
  have HR := hid (r3reading_c w a2 n cap n2 cap2 M y a hn hn2 hm2 H2)
  unfold rdE
  cases hok : okM M
  · rw [hok] at HV
    simp only [Bool.false_eq_true, if_false]
    clear hn hn2 H H2 hok HR
    go_enter Tryz.func119, Tryz.ntmps119
    go_wp2_with (go_at_call 57; refine HV.out.mono ?_; rintro e w1 ⟨rfl, rfl⟩)
    go_ret
    exact ⟨rfl, rfl⟩
  · rw [hok] at HV
    simp only [if_true]
    clear hn hn2 H H2 hok
    go_enter Tryz.func119, Tryz.ntmps119
    go_wp2_with (go_at_call 57; refine HV.out.mono ?_; rintro e w1 ⟨rfl, rfl⟩; refine Stop.of ?_)
    refine Stop.go ?_
    go_wp2_with (go_at_call 131; refine HR.out.mono ?_; rintro e w1 ⟨rfl, rfl⟩; refine Stop.of ?_)
    refine Stop.go ?_
    go_wp2
    go_ret
    exact ⟨rfl, rfl⟩

end

section
open Go.RowKit
set_option linter.unusedVariables false

end

section
open Go.RowKit
set_option linter.unusedVariables false

end
end Go.Proofs.YtkmjeegnijohmaaGreat

namespace Go.Proofs.YtkmjeegnijohmaaGreat
section
open Go.RowKit Go.Lib
set_option linter.unusedVariables false

end

section
open Go.RowKit Go.Lib
set_option linter.unusedVariables false

def WP (V a b : Int) : Prop := a = V / 18446744073709551616 ∧ b = V % 18446744073709551616
theorem WP.ex (V : Int) : ∃ a b, WP V a b := ⟨_, _, rfl, rfl⟩
end

section
open Go.RowKit Go.Lib
set_option linter.unusedVariables false

def validR (r : Rt) : Bool := decide (1 ≤ r.2) && (decide (r.2 ≤ 400) && (decide (-10000000000 ≤ r.1) && (decide (r.1 ≤ 10000000000) && decide (Int.gcd r.1 r.2 = 1))))
theorem validR_iff {r : Rt} : validR r = true ↔ 1 ≤ r.2 ∧ r.2 ≤ 400 ∧ -10000000000 ≤ r.1 ∧ r.1 ≤ 10000000000 ∧ Int.gcd r.1 r.2 = 1 := by
  unfold validR; simp only [Bool.and_eq_true, decide_eq_true_eq]

end
end Go.Proofs.YtkmjeegnijohmaaGreat

namespace Go.Proofs.YtkmjeegnijohmaaGreat
section
open Go.RowKit Go.Lib
set_option linter.unusedVariables false

def ratAt (x : List Rt) (k : Nat) : Rt := x[k]?.getD (0, 1)
end

section
open Go.RowKit Go.Lib
set_option linter.unusedVariables false

end

section
set_option linter.unusedVariables false

def denP (x : List Rt) : Nat → Int
  | 0 => 1
  | k + 1 => denP x k * (ratAt x k).2
theorem denP_ne {x : List Rt} (h : ∀ k, (ratAt x k).2 ≠ 0) : ∀ k, denP x k ≠ 0
  | 0 => by show (1 : Int) ≠ 0; decide
  | k + 1 => Int.mul_ne_zero (denP_ne h k) (h k)
theorem denP_dvd (x : List Rt) : ∀ (k i : Nat), i < k → (ratAt x i).2 ∣ denP x k
  | 0, i, h => by omega
  | k + 1, i, h => by
    by_cases e : i = k
    · subst e; exact ⟨denP x i, Int.mul_comm _ _⟩
    · obtain ⟨c, hc⟩ := denP_dvd x k i (by omega)
      exact ⟨c * (ratAt x k).2, by rw [denP, hc]; grind⟩
def numP (x : List Rt) (W i : Nat) : Int := (ratAt x i).1 * (denP x W / (ratAt x i).2)
theorem numP_eq {x : List Rt} {W i : Nat} (hi : i < W) : numP x W i * (ratAt x i).2 = (ratAt x i).1 * denP x W := by
  have h2 := Int.ediv_mul_cancel (denP_dvd x W i hi)
  unfold numP
  rw [Int.mul_assoc, h2]

end
end Go.Proofs.YtkmjeegnijohmaaGreat

namespace Go.Proofs.YtkmjeegnijohmaaGreat
set_option linter.unusedVariables false

def sumA {α : Type} (v : α → Int) : List α → Nat
  | [] => 0
  | r :: rs => (v r).natAbs + sumA v rs
def pairA {α : Type} (c d : α → Int) : List α → Nat
  | [] => 0
  | r :: rs => sumA (fun s => c r * d s - d r * c s) rs + pairA c d rs

theorem ex_abs {α : Type} (v : α → Int) : ∀ (l : List α) (F : Nat) (f : List α → Int), (∀ m : List α, m.length + 1 = l.length → (f m).natAbs ≤ F) → (ex v f l).natAbs ≤ F * sumA v l
  | [], F, f, _ => by simp [ex]
  | r :: rs, F, f, hf => by
    have h1 := ex_abs v rs F (fun l => f (r :: l)) (fun m hm => hf _ (by simp; omega))
    have h2 := hf rs (by simp)
    have h3 : (v r * f rs).natAbs ≤ F * (v r).natAbs := by rw [Int.natAbs_mul, Nat.mul_comm]; exact Nat.mul_le_mul_right _ h2
    unfold ex sumA
    rw [Nat.mul_add]
    omega
theorem ex_lin {α : Type} (c d : α → Int) (x y : Int) : ∀ (l : List α) (f : List α → Int), ex (fun s => x * d s - y * c s) f l = x * ex d f l - y * ex c f l
  | [], f => by simp [ex]
  | r :: rs, f => by
    unfold ex
    rw [ex_lin c d x y rs (fun l => f (r :: l))]
    grind
theorem ex2_abs {α : Type} (c d : α → Int) : ∀ (l : List α) (F : Nat) (f : List α → Int), (∀ m : List α, m.length + 2 = l.length → (f m).natAbs ≤ F) → (ex c (ex d f) l).natAbs ≤ F * pairA c d l
  | [], F, f, _ => by simp [ex]
  | r :: rs, F, f, hf => by
    have h1 := ex2_abs c d rs F (fun k => f (r :: k)) (fun m hm => hf _ (by simp; omega))
    have e1 : ex c (fun l => ex d f (r :: l)) rs = d r * ex c f rs - ex c (ex d (fun m => f (r :: m))) rs := by
      have : (fun l => ex d f (r :: l)) = fun l => d r * f l - ex d (fun m => f (r :: m)) l := by funext l; rfl
      rw [this, ex_sub c rs (fun l => d r * f l) (fun l => ex d (fun m => f (r :: m)) l), ex_mul]
    have e2 : ex c (ex d f) (r :: rs) = ex (fun s => c r * d s - d r * c s) f rs + ex c (ex d (fun m => f (r :: m))) rs := by
      rw [ex_lin]
      show c r * ex d f rs - ex c (fun l => ex d f (r :: l)) rs = _
      rw [e1]; omega
    have h2 := ex_abs (fun s => c r * d s - d r * c s) rs F f (fun m hm => hf m (by simp; omega))
    rw [e2]
    unfold pairA
    rw [Nat.mul_add]
    omega

structure Cnt where
  a : Nat
  b : Nat
  c : Nat
  d : Nat
def cnt {α : Type} (c d : α → Int) : List α → Cnt
  | [] => ⟨0, 0, 0, 0⟩
  | r :: rs =>
    let k := cnt c d rs
    if c r = 0 then (if d r = 0 then k else { k with d := k.d + 1 }) else if d r = 0 then { k with c := k.c + 1 } else if c r = d r then { k with a := k.a + 1 } else { k with b := k.b + 1 }
theorem cnt_cons {α : Type} (c d : α → Int) (r : α) (rs : List α) : cnt c d (r :: rs) = if c r = 0 then (if d r = 0 then cnt c d rs else { cnt c d rs with d := (cnt c d rs).d + 1 }) else if d r = 0 then { cnt c d rs with c := (cnt c d rs).c + 1 } else if c r = d r then { cnt c d rs with a := (cnt c d rs).a + 1 } else { cnt c d rs with b := (cnt c d rs).b + 1 } := rfl
theorem one3 {x : Int} (h : -1 ≤ x ∧ x ≤ 1) : x = -1 ∨ x = 0 ∨ x = 1 := by omega
theorem cnt_le {α : Type} (c d : α → Int) : ∀ l : List α, (cnt c d l).a + (cnt c d l).b + (cnt c d l).c + (cnt c d l).d ≤ l.length
  | [] => by simp [cnt]
  | r :: rs => by
    have := cnt_le c d rs
    rw [cnt_cons]
    simp only [List.length_cons]
    generalize cnt c d rs = k at this ⊢
    obtain ⟨A, B, C, D⟩ := k
    split <;> (try split) <;> (try split) <;> (try simp only []) <;> (try simp only [] at this) <;> omega
theorem sum_cnt {α : Type} {c d : α → Int} (hc : ∀ r, -1 ≤ c r ∧ c r ≤ 1) (hd : ∀ r, -1 ≤ d r ∧ d r ≤ 1) (x y : Int) (hx : -1 ≤ x ∧ x ≤ 1) (hy : -1 ≤ y ∧ y ≤ 1) : ∀ l : List α,
    sumA (fun s => x * d s - y * c s) l = if x = 0 then (if y = 0 then 0 else (cnt c d l).a + (cnt c d l).b + (cnt c d l).c) else if y = 0 then (cnt c d l).a + (cnt c d l).b + (cnt c d l).d else if x = y then 2 * (cnt c d l).b + (cnt c d l).c + (cnt c d l).d else 2 * (cnt c d l).a + (cnt c d l).c + (cnt c d l).d
  | [] => by simp [sumA, cnt]
  | r :: rs => by
    have ih := sum_cnt hc hd x y hx hy rs
    unfold sumA
    rw [ih, cnt_cons]
    have h1 := one3 (hc r)
    have h2 := one3 (hd r)
    generalize c r = p at h1 ⊢
    generalize d r = q at h2 ⊢
    generalize cnt c d rs = k
    rcases one3 hx with rfl | rfl | rfl <;> rcases one3 hy with rfl | rfl | rfl <;> rcases h1 with rfl | rfl | rfl <;> rcases h2 with rfl | rfl | rfl <;> simp <;> omega
theorem pair_cnt {α : Type} {c d : α → Int} (hc : ∀ r, -1 ≤ c r ∧ c r ≤ 1) (hd : ∀ r, -1 ≤ d r ∧ d r ≤ 1) : ∀ l : List α,
    pairA c d l = 2 * ((cnt c d l).a * (cnt c d l).b) + (cnt c d l).c * (cnt c d l).d + ((cnt c d l).c + (cnt c d l).d) * ((cnt c d l).a + (cnt c d l).b)
  | [] => by simp [pairA, cnt]
  | r :: rs => by
    have ih := pair_cnt hc hd rs
    have hs := sum_cnt hc hd (c r) (d r) (hc r) (hd r) rs
    unfold pairA
    rw [hs, ih, cnt_cons]
    have h1 := one3 (hc r)
    have h2 := one3 (hd r)
    generalize c r = p at h1 ⊢
    generalize d r = q at h2 ⊢
    generalize cnt c d rs = k
    obtain ⟨A, B, C, D⟩ := k
    rcases h1 with rfl | rfl | rfl <;> rcases h2 with rfl | rfl | rfl <;> simp <;> grind
theorem pair_le {α : Type} {c d : α → Int} (hc : ∀ r, -1 ≤ c r ∧ c r ≤ 1) (hd : ∀ r, -1 ≤ d r ∧ d r ≤ 1) (l : List α) : 2 * pairA c d l ≤ l.length * l.length := by
  rw [pair_cnt hc hd l]
  have h := cnt_le c d l
  generalize cnt c d l = k at h ⊢
  obtain ⟨A, B, C, D⟩ := k
  simp only [] at h ⊢
  refine Nat.le_trans ?_ (Nat.mul_le_mul h h)
  have hab : 2 * (A * B) ≤ A * A + B * B := by
    rcases Nat.le_total A B with e | e
    · obtain ⟨t, rfl⟩ := Nat.exists_eq_add_of_le e
      have := Nat.zero_le (t * t)
      grind
    · obtain ⟨t, rfl⟩ := Nat.exists_eq_add_of_le e
      have := Nat.zero_le (t * t)
      grind
  have h1 := Nat.zero_le (C * C)
  have h2 := Nat.zero_le (D * D)
  have e : (A + B + C + D) * (A + B + C + D) = A * A + B * B + 2 * (A * B) + (C * C + D * D + 2 * (C * D)) + 2 * ((C + D) * (A + B)) := by grind
  rw [e]
  omega

theorem det_288 {α : Type} (cs : List (α → Int)) (hc : ∀ c ∈ cs, ∀ r, -1 ≤ c r ∧ c r ≤ 1) (l : List α) (hl : l.length = cs.length) (h6 : cs.length ≤ 6) : (det cs l).natAbs ≤ 288 := by
  have two : ∀ (c d : α → Int) (ds : List (α → Int)) (F : Nat) (m : List α), (∀ r, -1 ≤ c r ∧ c r ≤ 1) → (∀ r, -1 ≤ d r ∧ d r ≤ 1) → (∀ k : List α, k.length + 2 = m.length → (det ds k).natAbs ≤ F) → (det (c :: d :: ds) m).natAbs ≤ F * (m.length * m.length / 2) := by
    intro c d ds F m h1 h2 h3
    refine Nat.le_trans (ex2_abs c d m F (det ds) h3) (Nat.mul_le_mul_left _ ?_)
    have := pair_le h1 h2 m
    omega
  have d0 : ∀ m : List α, (det ([] : List (α → Int)) m).natAbs ≤ 1 := fun m => by simp [det]
  have d1 : ∀ (c : α → Int) (m : List α), (∀ r, -1 ≤ c r ∧ c r ≤ 1) → m.length = 1 → (det [c] m).natAbs ≤ 1 := by
    intro c m h hm
    match m, hm with
    | [r], _ => have := h r; simp [det, ex]; omega
  match cs, hc, hl, h6 with
  | [], _, _, _ => have := d0 l; omega
  | [c], hc, hl, _ => have := d1 c l (hc c (by simp)) (by simpa using hl); omega
  | [c, d], hc, hl, _ =>
    have := two c d [] 1 l (hc c (by simp)) (hc d (by simp)) (fun k _ => d0 k)
    rw [hl] at this; simp at this; omega
  | [c, d, e], hc, hl, _ =>
    have := two c d [e] 1 l (hc c (by simp)) (hc d (by simp)) (fun k hk => d1 e k (hc e (by simp)) (by simp at hl; omega))
    rw [hl] at this; simp at this; omega
  | [c, d, e, f], hc, hl, _ =>
    have := two c d [e, f] 2 l (hc c (by simp)) (hc d (by simp)) (fun k hk => by
      have := two e f [] 1 k (hc e (by simp)) (hc f (by simp)) (fun k _ => d0 k)
      rw [show k.length = 2 by simp at hl; omega] at this; simpa using this)
    rw [hl] at this; simp at this; omega
  | [c, d, e, f, g], hc, hl, _ =>
    have := two c d [e, f, g] 4 l (hc c (by simp)) (hc d (by simp)) (fun k hk => by
      have hk3 : k.length = 3 := by simp at hl; omega
      have := two e f [g] 1 k (hc e (by simp)) (hc f (by simp)) (fun j hj => d1 g j (hc g (by simp)) (by omega))
      rw [hk3] at this; simpa using this)
    rw [hl] at this; simp at this; omega
  | [c, d, e, f, g, h], hc, hl, _ =>
    have := two c d [e, f, g, h] 16 l (hc c (by simp)) (hc d (by simp)) (fun k hk => by
      have hk4 : k.length = 4 := by simp at hl; omega
      have := two e f [g, h] 2 k (hc e (by simp)) (hc f (by simp)) (fun j hj => by
        have := two g h [] 1 j (hc g (by simp)) (hc h (by simp)) (fun k _ => d0 k)
        rw [show j.length = 2 by omega] at this; simpa using this)
      rw [hk4] at this; simpa using this)
    rw [hl] at this; simp at this; omega
  | _ :: _ :: _ :: _ :: _ :: _ :: _ :: _, _, _, h6 => simp at h6
end Go.Proofs.YtkmjeegnijohmaaGreat

namespace Go.Proofs.YtkmjeegnijohmaaGreat
set_option linter.unusedVariables false

theorem RInv.piv_288 {W N : Nat} {A0 : Nat → Vec} {j : Nat} {L : List (List Int)} {J : List Nat} (h : RInv W N A0 j L J) (hN : N ≤ 6) (h1 : ∀ x ∈ J, ∀ r, -1 ≤ A0 r x ∧ A0 r x ≤ 1) {k : Nat} (hk : k < J.length) :
    0 < rowv L k (jf J k) ∧ rowv L k (jf J k) ≤ 288 := by
  have hp := (h.pp k hk).2
  refine ⟨hp, ?_⟩
  obtain ⟨A, hs, hA⟩ := h.st
  have hd := det_288 (pcols (jf J) A J.length) (fun x hx r => by
    obtain ⟨k, hk, rfl⟩ := mem_pcols.1 hx
    obtain ⟨q0, e⟩ := hA r
    simp only [e]
    exact h1 _ (by unfold jf; rw [List.getElem?_eq_getElem hk]; exact List.getElem_mem hk) q0) (downs J.length) (by rw [downs_len, pcols_len]) (by rw [pcols_len]; exact Nat.le_trans hs.le hN)
  have h0 := hs.d0
  have hdv := Int.natAbs_dvd_natAbs.2 (hs.piv_dvd hk (h.pp k hk).1)
  have := Nat.le_of_dvd (by omega) hdv
  omega

theorem sys_zero {R : List (List Int)} {n Y : Nat} (h : MaskY R n Y) (hn : n ∉ (rRed R (n + 1)).piv) {q : Nat} (h1 : (pRed R n).2.length ≤ q) (h2 : q < R.length) (c : Nat) : rowv (pRed R n).1 q c = 0 := by
  have hi := pRed_inv R h.wid n (fun j hj q => rowv_le (by decide) (fun r hr => h.one r hr j hj) q)
  rcases Nat.lt_or_ge c n with hc | hc
  · exact hi.zero q h1 h2 c hc
  · by_cases e : c = n
    · subst e
      rcases Classical.em (rowv (pRed R c).1 q c = 0) with e0 | e0
      · exact e0
      · exact absurd (red_more (m := c + 1) h.wid h.one (Nat.le_refl _) h1 h2 e0) hn
    · exact rowv_wid hi.wid q (by omega)

theorem foldl_set_other {α : Type} (f : Nat → α) (g : Nat → Nat) (l : List α) : ∀ (K j : Nat), (∀ a, a < K → g a ≠ j) → ((List.range K).foldl (fun out i => out.set (g i) (f i)) l)[j]? = l[j]?
  | 0, j, _ => by simp
  | K + 1, j, h => by
    rw [List.range_succ, List.foldl_append]
    simp only [List.foldl_cons, List.foldl_nil]
    rw [List.getElem?_set_ne (h K (by omega))]
    exact foldl_set_other f g l K j (fun a ha => h a (by omega))

theorem solved_shape {R : List (List Int)} {n Y : Nat} (h : MaskY R n Y) (hn : n ∉ (rRed R (n + 1)).piv) :
    (solvedR R n).2.2 = true ∧ (solvedR R n).1.length = n ∧ (∀ i, i < (pRed R n).2.length → ratAt (solvedR R n).1 (jf (pRed R n).2 i) = ratioF (rowv (pRed R n).1 i n) (rowv (pRed R n).1 i (jf (pRed R n).2 i))) ∧
    (∀ j, j ∉ (pRed R n).2 → ratAt (solvedR R n).1 j = (0, 1)) := by
  have hi := pRed_inv R h.wid n (fun j hj q => rowv_le (by decide) (fun r hr => h.one r hr j hj) q)
  obtain ⟨e1, e2⟩ := red_same (m := n + 1) h.wid h.one (Nat.le_refl _) (fun q h1 h2 c _ _ => sys_zero h hn h1 h2 c)
  have hl := pRed_len R n
  have hK := hi.K_le
  unfold solvedR
  simp only []
  rw [if_neg hn, e2, ← e1]
  refine ⟨rfl, by rw [foldl_set_len]; simp, fun i hlt => ?_, fun j hj => ?_⟩
  · unfold ratAt
    rw [foldl_set_at (fun i => ratioF (vec (((pRed R n).1.take (pRed R n).2.length)[i]?.getD []) n) (vec (((pRed R n).1.take (pRed R n).2.length)[i]?.getD []) (jf (pRed R n).2 i))) (fun i => jf (pRed R n).2 i) _ _ i hlt (by simp only [List.length_replicate]; exact hi.jf_lt hlt) (fun a b h1 h2 => by have := hi.ech.asc a b h1 h2; omega)]
    rw [List.getElem?_take_of_lt hlt]
    rfl
  · unfold ratAt
    rw [foldl_set_other _ _ _ _ j (fun a ha e => hj (by rw [← e]; exact jf_mem ha)), List.getElem?_replicate]
    split <;> rfl

theorem ratioF_low {a b : Int} (hb : 0 < b) : 0 < (ratioF a b).2 ∧ (ratioF a b).2 ≤ b ∧ (ratioF a b).1.natAbs ≤ a.natAbs ∧ Int.gcd (ratioF a b).1 (ratioF a b).2 = 1 ∧ (ratioF a b).1 * b = a * (ratioF a b).2 := by
  have g1 : 0 < Int.gcd a b := Nat.pos_of_ne_zero fun e => by have := (Int.gcd_eq_zero_iff.1 e).2; omega
  obtain ⟨a1, ha⟩ := Int.gcd_dvd_left a b
  obtain ⟨b1, hb1⟩ := Int.gcd_dvd_right a b
  have hG0 : ((Int.gcd a b : Nat) : Int) ≠ 0 := by omega
  have e : ratioF a b = (a1, b1) := by
    unfold ratioF
    rw [Int.tdiv_eq_of_eq_mul_left hG0 (c := a1) (by rw [Int.mul_comm]; exact ha), Int.tdiv_eq_of_eq_mul_left hG0 (c := b1) (by rw [Int.mul_comm]; exact hb1)]
  rw [e]
  have hb0 : 0 < b1 := by
    rcases Int.lt_or_le 0 b1 with h | h
    · exact h
    · have : ((Int.gcd a b : Nat) : Int) * b1 ≤ 0 := Int.mul_nonpos_of_nonneg_of_nonpos (by omega) h
      omega
  have hg : Int.gcd a1 b1 = 1 := by
    have k1 : Int.gcd (((Int.gcd a b : Nat) : Int) * a1) (((Int.gcd a b : Nat) : Int) * b1) = Int.gcd a b * Int.gcd a1 b1 := by
      rw [Int.gcd_mul_left]; simp
    rw [← ha, ← hb1] at k1
    exact Nat.eq_of_mul_eq_mul_left g1 (by omega)
  refine ⟨hb0, ?_, ?_, hg, ?_⟩
  · have : b1 * 1 ≤ b1 * ((Int.gcd a b : Nat) : Int) := Int.mul_le_mul_of_nonneg_left (by omega) (by omega)
    rw [Int.mul_comm b1 ((Int.gcd a b : Nat) : Int)] at this
    omega
  · have : a1.natAbs ≤ Int.gcd a b * a1.natAbs := Nat.le_mul_of_pos_left _ g1
    have h2 : a.natAbs = Int.gcd a b * a1.natAbs := by
      have := congrArg Int.natAbs ha
      rwa [Int.natAbs_mul, Int.natAbs_natCast] at this
    omega
  · show a1 * b = a * b1
    generalize ((Int.gcd a b : Nat) : Int) = G at ha hb1
    rw [ha, hb1]; grind

theorem sys_le {R : List (List Int)} {n Y : Nat} (h : MaskY R n Y) (i c : Nat) : (rowv (pRed R n).1 i c).natAbs ≤ 720 * Y := by
  unfold rowv
  cases hk : (pRed R n).1[i]? with
  | none => simp [vec]
  | some r =>
    have h2 := (pRed_le (n := n) (Y := Y) h.wid h.le6 (fun r hr c hc => h.one r hr c hc) h.all (Nat.le_refl n) r (List.mem_of_getElem? hk)).2
    have := vec_mem (P := fun x => x.natAbs ≤ 720 * Y) (by simp) (fun x hx => by have := h2 x hx; omega) c
    simpa using this

theorem solved_valid {R : List (List Int)} {n Y : Nat} (h : MaskY R n Y) (hY : Y ≤ 1000000) (hn : n ∉ (rRed R (n + 1)).piv) : (solvedR R n).1.all validR = true ∧ ∀ j, 0 < (ratAt (solvedR R n).1 j).2 := by
  obtain ⟨_, hl, hp, ho⟩ := solved_shape h hn
  have hi := pRed_inv R h.wid n (fun j hj q => rowv_le (by decide) (fun r hr => h.one r hr j hj) q)
  have hv : ∀ j, validR (ratAt (solvedR R n).1 j) = true := by
    intro j
    by_cases hj : j ∈ (pRed R n).2
    · obtain ⟨i, hilt, e⟩ := List.mem_iff_getElem.1 hj
      have ej : jf (pRed R n).2 i = j := by unfold jf; rw [List.getElem?_eq_getElem hilt]; simpa using e
      rw [← ej, hp i hilt]
      obtain ⟨b1, b2⟩ := hi.piv_288 h.le6 (fun x hx r => rowv_le (by decide) (fun r hr => h.one r hr x (hi.lt x hx)) r) hilt
      have b3 := sys_le h i n
      obtain ⟨c1, c2, c3, c4, _⟩ := ratioF_low (a := rowv (pRed R n).1 i n) b1
      have b4 : 720 * Y ≤ 720000000 := by omega
      rw [validR_iff]
      exact ⟨by omega, by omega, by omega, by omega, c4⟩
    · rw [ho j hj]; decide
  refine ⟨List.all_eq_true.2 fun r hr => ?_, fun j => ?_⟩
  · obtain ⟨j, hj, e⟩ := List.mem_iff_getElem.1 hr
    have := hv j
    unfold ratAt at this
    rw [List.getElem?_eq_getElem hj] at this
    rw [← e]; exact this
  · have := (validR_iff.1 (hv j)).1; omega

theorem sm_succ (f : Nat → Int) (n : Nat) : sm f (n + 1) = sm f n + f n := rfl

theorem solved_row {R : List (List Int)} {n Y : Nat} (h : MaskY R n Y) (hY : Y ≤ 1000000) (hn : n ∉ (rRed R (n + 1)).piv) {u : Vec} (hu : Sp (RB R.length (rowv R)) u) :
    sm (fun j => u j * numP (solvedR R n).1 n j) n = u n * denP (solvedR R n).1 n := by
  obtain ⟨_, hl, hp, ho⟩ := solved_shape h hn
  obtain ⟨_, hpos⟩ := solved_valid h hY hn
  have hi := pRed_inv R h.wid n (fun j hj q => rowv_le (by decide) (fun r hr => h.one r hr j hj) q)
  have hden : denP (solvedR R n).1 n ≠ 0 := denP_ne (fun k => by have := hpos k; omega) n
  have hnum := fun i (hi : i < n) => numP_eq (x := (solvedR R n).1) (W := n) hi
  generalize (solvedR R n).1 = X at hl hp ho hpos hden hnum ⊢
  have hsp := (hi.span (fun q h1 h2 c => sys_zero h hn h1 h2 c)).2 hu
  have key := dotS_sp (B := RB (pRed R n).2.length (rowv (pRed R n).1)) (h := fun c => if c < n then numP X n c else -denP X n) (n := n + 1) (by
    rintro v ⟨k, hk, rfl⟩
    have hkn := hi.jf_lt hk
    unfold dotS
    rw [sm_succ, sm_congr (g := fun c => rowv (pRed R n).1 k c * numP X n c) (fun c hc => by simp only [if_pos hc])]
    simp only [Nat.lt_irrefl, if_false]
    rw [sm_single hkn (fun c hc hne => ?_)]
    · have e1 := hnum _ hkn
      rw [hp k hk] at e1
      have hb := (hi.pp k hk).2
      obtain ⟨c1, _, _, _, c5⟩ := ratioF_low (a := rowv (pRed R n).1 k n) hb
      -- num * b2 = b1 * den, b1 * b = a * b2
      generalize rowv (pRed R n).1 k (jf (pRed R n).2 k) = b at *
      generalize rowv (pRed R n).1 k n = a at *
      generalize ratioF a b = p at *
      obtain ⟨b1, b2⟩ := p
      dsimp only at *
      have e2 : b2 * (b * numP X n (jf (pRed R n).2 k)) = b2 * (a * denP X n) := by
        have : b2 * (b * numP X n (jf (pRed R n).2 k)) = b * (numP X n (jf (pRed R n).2 k) * b2) := by grind
        rw [this, e1]
        have : b * (b1 * denP X n) = (b1 * b) * denP X n := by grind
        rw [this, c5]; grind
      have e3 := Int.eq_of_mul_eq_mul_left (show b2 ≠ 0 by omega) e2
      rw [e3, Int.mul_neg]; omega
    · by_cases hm : c ∈ (pRed R n).2
      · obtain ⟨q, hq, e⟩ := List.mem_iff_getElem.1 hm
        have ej : jf (pRed R n).2 q = c := by unfold jf; rw [List.getElem?_eq_getElem hq]; simpa using e
        have hqk : q ≠ k := fun e2 => hne (by rw [← ej, e2])
        rw [← ej, hi.ech.red.off k hk q hq (fun e3 => hqk e3.symm)]
        simp
      · have e1 := hnum c hc
        rw [ho c hm] at e1
        simp at e1
        rw [e1]; simp) hsp
  unfold dotS at key
  rw [sm_succ, sm_congr (g := fun c => u c * numP X n c) (fun c hc => by simp only [if_pos hc])] at key
  simp only [Nat.lt_irrefl, if_false] at key
  rw [Int.mul_neg] at key
  omega
end Go.Proofs.YtkmjeegnijohmaaGreat

namespace Go.Proofs.YtkmjeegnijohmaaGreat
set_option linter.unusedVariables false

theorem withY_trunc {M : List (List Int)} {n : Nat} (h : MaskOk M n) {y : List Int} (hy : y.length = M.length) {q : Nat} (hq : q < M.length) : truncV n (rowv (withY M y) q) = rowv M q := by
  funext c
  unfold truncV
  by_cases hc : c < n
  · rw [if_pos hc, withY_row h hy hq, if_pos hc]
  · rw [if_neg hc, rowv_wid h.wid q (by omega)]

theorem withY_piv {M : List (List Int)} {n : Nat} (h : MaskOk M n) {y : List Int} (hy : y.length = M.length) {Y : Nat} (hY : MaskY (withY M y) n Y) : (pRed (withY M y) n).2 = JP M n := by
  have he := pRed_inv (withY M y) hY.wid n (fun j hj q => rowv_le (by decide) (fun r hr => hY.one r hr j hj) q)
  rw [withY_len hy] at he
  have hi := h.inv n
  have hE : Ech (pRed (withY M y) n).2.length (jf (pRed (withY M y) n).2) (fun k => truncV n (rowv (pRed (withY M y) n).1 k)) := by
    have e := he.ech
    refine ⟨⟨fun k hk => ?_, fun k hk q hq hne => ?_⟩, fun k hk c hc => ?_, e.asc⟩
    · have hl := he.jf_lt hk
      simp only [truncV, if_pos hl]
      exact e.red.piv k hk
    · have hl := he.jf_lt hq
      simp only [truncV, if_pos hl]
      exact e.red.off k hk q hq hne
    · simp only [truncV]
      split
      · exact e.lead k hk c hc
      · rfl
  have s1 : ∀ k, k < (pRed (withY M y) n).2.length → Sp (RB (JP M n).length (rowv (RP M n))) (truncV n (rowv (pRed (withY M y) n).1 k)) := by
    intro k hk
    refine h.span.2 (truncV_sp (B := RB M.length (rowv (withY M y))) ?_ (he.sp1 k (Nat.lt_of_lt_of_le hk he.K_le)))
    rintro v ⟨q, hq, rfl⟩
    rw [withY_trunc h hy hq]; exact RB.sp hq
  have s2 : ∀ k, k < (JP M n).length → Sp (RB (pRed (withY M y) n).2.length (fun k => truncV n (rowv (pRed (withY M y) n).1 k))) (rowv (RP M n) k) := by
    intro k hk
    refine (h.span.1 (RB.sp hk)).trans ?_
    rintro v ⟨q, hq, rfl⟩
    rw [← withY_trunc h hy hq]
    refine truncV_sp (B := RB M.length (rowv (pRed (withY M y) n).1)) ?_ (he.sp2 q hq)
    rintro v ⟨m, hm, rfl⟩
    rcases Nat.lt_or_ge m (pRed (withY M y) n).2.length with c | c
    · exact .of ⟨m, c, rfl⟩
    · refine Sp.zero.congr fun x => ?_
      unfold truncV
      split
      · exact he.zero m c hm x ‹_›
      · rfl
  obtain ⟨hK, hJ, hR⟩ := hE.unique hi.ech s1 s2
  exact List.ext_getElem hK fun k h1 h2 => by
    have := hJ k h1
    unfold jf at this
    rw [List.getElem?_eq_getElem h1, List.getElem?_eq_getElem h2] at this
    simpa using this

end Go.Proofs.YtkmjeegnijohmaaGreat

namespace Go.Proofs.YtkmjeegnijohmaaGreat
set_option linter.unusedVariables false

theorem denP_pos {x : List Rt} (h : ∀ k, 0 < (ratAt x k).2) : ∀ k, 0 < denP x k
  | 0 => by show (0 : Int) < 1; decide
  | k + 1 => Int.mul_pos (denP_pos h k) (h k)

theorem solve_of {M : List (List Int)} {n : Nat} (h : MaskOk M n) {y : List Int} (hy : y.length = M.length) (hmil : ∀ v ∈ y, -1000000 ≤ v ∧ v ≤ 1000000) (hr : rankF M n = n)
    {l : Nat → Int} {D : Int} (hD : D ≠ 0) (hl : ∀ q, q < M.length → sm (fun i => rowv M q i * l i) n = vec y q * D) :
    (solveP (withY M y) n).2 = 0 ∧ (solveP (withY M y) n).1.length = n ∧ ∀ k, k < n → (ratAt (solveP (withY M y) n).1 k).1 * D = l k * (ratAt (solveP (withY M y) n).1 k).2 ∧ 0 < (ratAt (solveP (withY M y) n).1 k).2 ∧ (ratAt (solveP (withY M y) n).1 k).2 ≤ 288 ∧ Int.gcd (ratAt (solveP (withY M y) n).1 k).1 (ratAt (solveP (withY M y) n).1 k).2 = 1 := by
  have hY := h.addY hy (Y := 1000000) (by decide) (by simpa using hmil)
  have hi := pRed_inv (withY M y) hY.wid n (fun j hj q => rowv_le (by decide) (fun r hr => hY.one r hr j hj) q)
  have hpiv := withY_piv h hy hY
  have hJl : (pRed (withY M y) n).2.length = n := by rw [hpiv]; exact hr
  have hasc : (pRed (withY M y) n).2 = List.range' 0 n := asc_full hi.asc (fun x hx => by have := hi.lt x hx; omega) hJl
  have hjf : ∀ k, k < n → jf (pRed (withY M y) n).2 k = k := fun k hk => by
    rw [hasc]; unfold jf; rw [List.getElem?_range' hk]; simp
  have hlen : (withY M y).length = M.length := withY_len hy
  have hdot : ∀ u, Sp (RB (withY M y).length (rowv (withY M y))) u → dotS u (fun c => if c < n then l c else -D) (n + 1) = 0 := by
    intro u hu
    refine dotS_sp ?_ hu
    rintro v ⟨q, hq, rfl⟩
    rw [hlen] at hq
    unfold dotS
    rw [sm_succ, sm_congr (g := fun i => rowv M q i * l i) (fun c hc => by simp only [if_pos hc]; rw [withY_row h hy hq, if_pos hc]), hl q hq]
    simp only [Nat.lt_irrefl, if_false]
    rw [withY_row h hy hq, if_neg (by omega), if_pos rfl]
    rw [Int.mul_neg]; omega
  have hsp1 := hi.sp1
  rw [← hlen] at hy
  -- the rows behind the pivots
  have h0 : ∀ q, n ≤ q → q < (withY M y).length → rowv (pRed (withY M y) n).1 q n = 0 := by
    intro q h1 h2
    have hd := hdot _ (hsp1 q h2)
    unfold dotS at hd
    rw [sm_succ, sm_congr (g := fun _ => 0) (fun c hc => by simp only [if_pos hc]; rw [hi.zero q (by omega) h2 c hc]; simp), sm_zero] at hd
    simp only [Nat.lt_irrefl, if_false] at hd
    rcases Int.mul_eq_zero.1 (show rowv (pRed (withY M y) n).1 q n * -D = 0 by omega) with e | e
    · exact e
    · omega
  have hpl := pRed_len (withY M y) n
  have hany : ((pRed (withY M y) n).1.drop (pRed (withY M y) n).2.length).any (nz n) = false := by
    rw [List.any_eq_false]
    intro r hr2
    obtain ⟨i, hilt, rfl⟩ := List.mem_iff_getElem.1 hr2
    rw [List.getElem_drop]
    rw [List.length_drop] at hilt
    have := h0 ((pRed (withY M y) n).2.length + i) (by omega) (by omega)
    rw [rowv_lt (by omega)] at this
    simpa [nz] using this
  have hs : solveP (withY M y) n = ((List.range n).map fun k => ofF (vec ((pRed (withY M y) n).1[k]?.getD []) n) (vec ((pRed (withY M y) n).1[k]?.getD []) (jf (pRed (withY M y) n).2 k)), 0) := by
    unfold solveP
    simp only []
    rw [if_neg (by rw [hany]; simp), if_neg (by omega)]
  rw [hs]
  refine ⟨rfl, by simp, fun k hk => ?_⟩
  have hk' : k < (pRed (withY M y) n).2.length := by omega
  have hb := hi.piv_288 (by rw [withY_len (by omega)]; exact h.le6) (fun x hx r => rowv_le (by decide) (fun r hr => hY.one r hr x (hi.lt x hx)) r) hk'
  have e1 : ratAt ((List.range n).map fun k => ofF (vec ((pRed (withY M y) n).1[k]?.getD []) n) (vec ((pRed (withY M y) n).1[k]?.getD []) (jf (pRed (withY M y) n).2 k))) k = ofF (rowv (pRed (withY M y) n).1 k n) (rowv (pRed (withY M y) n).1 k (jf (pRed (withY M y) n).2 k)) := by
    unfold ratAt
    rw [List.getElem?_map, List.getElem?_range hk]; rfl
  rw [e1, ofF_pos hb.1]
  have hd := hdot _ (hsp1 k (Nat.lt_of_lt_of_le hk' hi.K_le))
  unfold dotS at hd
  rw [sm_succ, sm_single hk (fun c hc hne => ?_)] at hd
  · simp only [if_pos hk, Nat.lt_irrefl, if_false] at hd
    have hjk := hjf k hk
    rw [hjk] at hb ⊢
    obtain ⟨c1, c2, c3, c4, c5⟩ := ratioF_low (a := rowv (pRed (withY M y) n).1 k n) hb.1
    refine ⟨?_, c1, by omega, c4⟩
    generalize rowv (pRed (withY M y) n).1 k k = b at *
    generalize rowv (pRed (withY M y) n).1 k n = a at *
    generalize ratioF a b = p at *
    obtain ⟨b1, b2⟩ := p
    dsimp only at *
    have e2 : b * (b1 * D) = b * (l k * b2) := by
      have : b * (b1 * D) = (b1 * b) * D := by grind
      rw [this, c5]
      have hd' : b * l k = a * D := by rw [Int.mul_neg] at hd; omega
      have : b * (l k * b2) = (b * l k) * b2 := by grind
      rw [this, hd']; grind
    exact Int.eq_of_mul_eq_mul_left (by omega) e2
  · simp only [if_pos hc]
    have hc' : c < (pRed (withY M y) n).2.length := by omega
    have := hi.ech.red.off k hk' c hc' (fun e => hne e.symm)
    rw [hjf c hc] at this
    rw [this]; simp

theorem solve_to {M : List (List Int)} {n : Nat} (h : MaskOk M n) {y : List Int} (hy : y.length = M.length) (hmil : ∀ v ∈ y, -1000000 ≤ v ∧ v ≤ 1000000) (he : (solveP (withY M y) n).2 = 0) :
    rankF M n = n ∧ ∃ (l : Nat → Int) (D : Int), 0 < D ∧ (∀ q, q < M.length → sm (fun i => rowv M q i * l i) n = vec y q * D) ∧ ∀ k, k < n → (ratAt (solveP (withY M y) n).1 k).1 * D = l k * (ratAt (solveP (withY M y) n).1 k).2 := by
  have hY := h.addY hy (Y := 1000000) (by decide) (by simpa using hmil)
  have hi := pRed_inv (withY M y) hY.wid n (fun j hj q => rowv_le (by decide) (fun r hr => hY.one r hr j hj) q)
  have hpiv := withY_piv h hy hY
  have hle := asc_le (a := 0) (b := n) hi.asc (fun x hx => ⟨Nat.zero_le _, hi.lt x hx⟩)
  have hge : n ≤ (pRed (withY M y) n).2.length := by
    unfold solveP at he
    simp only [] at he
    split at he
    · simp at he
    · split at he
      · simp at he
      · omega
  have hr : rankF M n = n := by
    have : rankF M n = (pRed (withY M y) n).2.length := by rw [hpiv]; rfl
    omega
  have hss := solve_same hY
  have hn : n ∉ (rRed (withY M y) (n + 1)).piv := by
    intro hm
    rw [hss] at he
    unfold solveR solvedR at he
    simp only [] at he
    rw [if_pos hm] at he
    simp at he
  have hsv : (solveP (withY M y) n).1 = (solvedR (withY M y) n).1 := by
    rw [hss] at he ⊢
    unfold solveR at he ⊢
    simp only [] at he ⊢
    split at he
    · simp at he
    · rename_i h1
      split at he
      · simp at he
      · rename_i h2
        rw [if_neg h1, if_neg h2]
  obtain ⟨_, hpos⟩ := solved_valid hY (Nat.le_refl _) hn
  refine ⟨hr, numP (solvedR (withY M y) n).1 n, denP (solvedR (withY M y) n).1 n, denP_pos hpos n, fun q hq => ?_, fun k hk => ?_⟩
  · have := solved_row hY (Nat.le_refl _) hn (RB.sp (K := (withY M y).length) (R := rowv (withY M y)) (k := q) (by rw [withY_len hy]; exact hq))
    rw [sm_congr (g := fun i => rowv M q i * numP (solvedR (withY M y) n).1 n i) (fun c hc => by rw [withY_row h hy hq, if_pos hc]), withY_row h hy hq, if_neg (by omega), if_pos rfl] at this
    exact this
  · rw [hsv]
    have := numP_eq (x := (solvedR (withY M y) n).1) (W := n) hk
    omega

theorem rank_zero {M : List (List Int)} {n : Nat} (h : MaskOk M n) (hr : rankF M n = n) {v : Vec} (hv : IsKer M n v) {c : Nat} (hc : c < n) : v c = 0 := by
  have hi := h.inv n
  have hasc : (pRed M n).2 = List.range' 0 n := asc_full hi.asc (fun x hx => by have := hi.lt x hx; omega) hr
  have hjf : ∀ k, k < n → jf (pRed M n).2 k = k := fun k hk => by
    rw [hasc]; unfold jf; rw [List.getElem?_range' hk]; simp
  have hcl : c < (pRed M n).2.length := by show c < rankF M n; omega
  have hd := h.ker_iff.1 hv c hcl
  unfold dotS at hd
  rw [sm_single hc (fun k hk hne => ?_)] at hd
  · have hp := (hi.pp c hcl).2
    rw [hjf c hc] at hp
    rcases Int.mul_eq_zero.1 hd with e | e
    · exact absurd e (by show ¬ rowv (pRed M n).1 c c = 0; omega)
    · exact e
  · have hk' : k < (pRed M n).2.length := by show k < rankF M n; omega
    have := hi.ech.red.off c hcl k hk' (fun e => hne e.symm)
    rw [hjf k hk] at this
    show rowv (pRed M n).1 c k * v k = 0
    rw [this]; simp
end Go.Proofs.YtkmjeegnijohmaaGreat
