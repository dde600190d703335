/- Walks and plain laws for StreamKeysRow, part 3. -/
import Derived.Maps.RangeWalk
import Derived.Sort.QuietIn
import Derived.Sort.LoopGhostIn
import Derived.Sort.CutIn
import Derived.Maps.AppendAt
import Derived.Deep.CutRange
import Derived.Test.YtkmjeegnijohmaaPkStreamKeysRow2
namespace Go.Proofs.Ytkmjeegnijohmaa
set_option linter.unusedVariables false

def upF (a : Int) : Nat → List Int
  | 0 => []
  | m + 1 => a :: upF (a + 1) m
theorem upF_len : ∀ (m : Nat) (a : Int), (upF a m).length = m
  | 0, _ => rfl
  | m + 1, a => by simp [upF, upF_len m]
def comb : Nat → Nat → Int → List (List Int)
  | _, 0, _ => [[]]
  | 0, _ + 1, _ => []
  | m + 1, k + 1, a => (comb m k (a + 1)).map (a :: ·) ++ comb m (k + 1) (a + 1)
def nextS (n : Int) : List Int → Option (List Int)
  | [] => none
  | a :: r => match nextS n r with
    | some s => some (a :: s)
    | none => if a + r.length + 1 < n then some (upF (a + 1) (r.length + 1)) else none

theorem comb_none : ∀ (m k : Nat) (a : Int), m < k → comb m k a = []
  | 0, k + 1, a, _ => rfl
  | m + 1, k + 1, a, h => by simp [comb, comb_none m k (a + 1) (by omega), comb_none m (k + 1) (a + 1) (by omega)]
theorem comb_head : ∀ (m k : Nat) (a : Int), k ≤ m → ∃ t, comb m k a = upF a k :: t
  | m, 0, a, _ => by cases m <;> exact ⟨[], rfl⟩
  | m + 1, k + 1, a, h => by
    obtain ⟨t, ht⟩ := comb_head m k (a + 1) (by omega)
    exact ⟨t.map (a :: ·) ++ comb m (k + 1) (a + 1), by simp [comb, ht, upF]⟩
theorem comb_len : ∀ (m k : Nat) (a : Int), ∀ x ∈ comb m k a, x.length = k
  | m, 0, a, x, h => by cases m <;> (simp [comb] at h; simp [h])
  | 0, k + 1, a, x, h => by simp [comb] at h
  | m + 1, k + 1, a, x, h => by
    simp only [comb, List.mem_append, List.mem_map] at h
    rcases h with ⟨y, hy, rfl⟩ | h
    · simp [comb_len m k (a + 1) y hy]
    · exact comb_len m (k + 1) (a + 1) x h
theorem comb_asc : ∀ (m k : Nat) (a : Int), ∀ x ∈ comb m k a, x.Pairwise (· < ·) ∧ ∀ y ∈ x, a ≤ y ∧ y < a + m
  | m, 0, a, x, h => by cases m <;> (simp [comb] at h; simp [h])
  | 0, k + 1, a, x, h => by simp [comb] at h
  | m + 1, k + 1, a, x, h => by
    simp only [comb, List.mem_append, List.mem_map] at h
    rcases h with ⟨y, hy, rfl⟩ | h
    · obtain ⟨h1, h2⟩ := comb_asc m k (a + 1) y hy
      refine ⟨List.pairwise_cons.2 ⟨fun z hz => by have := h2 z hz; omega, h1⟩, fun z hz => ?_⟩
      rcases List.mem_cons.1 hz with rfl | hz
      · omega
      · have := h2 z hz; omega
    · obtain ⟨h1, h2⟩ := comb_asc m (k + 1) (a + 1) x h
      exact ⟨h1, fun z hz => by have := h2 z hz; omega⟩
def Chn (n : Int) (e : Option (List Int)) : List (List Int) → Prop
  | [] => True
  | [x] => nextS n x = e
  | x :: y :: t => nextS n x = some y ∧ Chn n e (y :: t)

theorem Chn.append {n : Int} {e : Option (List Int)} {y : List Int} {t : List (List Int)} : ∀ {l : List (List Int)}, Chn n (some y) l → Chn n e (y :: t) → Chn n e (l ++ y :: t)
  | [], _, h => h
  | [x], h, h2 => ⟨h, h2⟩
  | x :: z :: l, h, h2 => ⟨h.1, Chn.append (l := z :: l) h.2 h2⟩

theorem Chn.cons {n a : Int} {k : Nat} : ∀ {l : List (List Int)}, (∀ x ∈ l, x.length = k) → Chn n none l → Chn n (if a + k + 1 < n then some (upF (a + 1) (k + 1)) else none) (l.map (a :: ·))
  | [], _, _ => trivial
  | [x], hl, h => by
    show (match nextS n x with | some s => some (a :: s) | none => if a + x.length + 1 < n then some (upF (a + 1) (x.length + 1)) else none) = _
    have h' : nextS n x = none := h
    rw [h', hl x (by simp)]
  | x :: y :: l, hl, h => by
    refine ⟨?_, Chn.cons (l := y :: l) (fun z hz => hl z (by simp [List.mem_cons.1 hz])) h.2⟩
    show (match nextS n x with | some s => some (a :: s) | none => _) = _
    rw [h.1]

theorem comb_chn : ∀ (m k : Nat) (a : Int), Chn (a + m) none (comb m k a)
  | m, 0, a => by cases m <;> exact rfl
  | 0, k + 1, a => trivial
  | m + 1, k + 1, a => by
    have h1 := Chn.cons (n := a + (m + 1 : Nat)) (a := a) (comb_len m k (a + 1)) (by have := comb_chn m k (a + 1); rwa [show a + 1 + (m : Int) = a + (m + 1 : Nat) by omega] at this)
    have h2 := comb_chn m (k + 1) (a + 1)
    rw [show a + 1 + (m : Int) = a + (m + 1 : Nat) by omega] at h2
    show Chn _ _ ((comb m k (a + 1)).map (a :: ·) ++ comb m (k + 1) (a + 1))
    by_cases h : k + 1 ≤ m
    · obtain ⟨t, ht⟩ := comb_head m (k + 1) (a + 1) h
      rw [if_pos (by omega)] at h1
      rw [ht] at h2 ⊢
      exact h1.append h2
    · rw [if_neg (by omega)] at h1
      rw [comb_none m (k + 1) (a + 1) (by omega), List.append_nil]
      exact h1

theorem Chn.at {n : Int} : ∀ {l : List (List Int)} {i : Nat} {x : List Int}, Chn n none l → l[i]? = some x → l[i + 1]? = nextS n x
  | [], i, x, _, h => by simp at h
  | [y], 0, x, h, hi => by
    simp at hi; subst hi
    have h' : nextS n y = none := h
    rw [h']; rfl
  | [y], i + 1, x, h, hi => by simp at hi
  | y :: z :: l, 0, x, h, hi => by simp at hi; subst hi; rw [h.1]; rfl
  | y :: z :: l, i + 1, x, h, hi => Chn.at (l := z :: l) h.2 (by simpa using hi)

theorem nextS_up {n : Int} : ∀ (m : Nat) (a : Int), a + m = n → nextS n (upF a m) = none
  | 0, _, _ => rfl
  | m + 1, a, h => by
    show (match nextS n (upF (a + 1) m) with | some s => some (a :: s) | none => if a + (upF (a + 1) m).length + 1 < n then _ else none) = _
    rw [nextS_up m (a + 1) (by omega), upF_len]
    simp only []
    rw [if_neg (by omega)]
theorem nextS_at {n : Int} {m : Nat} {d : Int} (hd : d + m + 1 < n) : ∀ u : List Int, nextS n (u ++ d :: upF (n - m) m) = some (u ++ upF (d + 1) (m + 1))
  | [] => by
    show (match nextS n (upF (n - m) m) with | some s => some (d :: s) | none => if d + (upF (n - m) m).length + 1 < n then some (upF (d + 1) ((upF (n - m) m).length + 1)) else none) = _
    rw [nextS_up m (n - m) (by omega), upF_len]
    simp only []
    rw [if_pos hd]; rfl
  | a :: u => by
    show (match nextS n (u ++ d :: upF (n - m) m) with | some s => some (a :: s) | none => _) = _
    rw [nextS_at hd u]; rfl

def nextFrom (a : Int) (s : List Int) : Int := match s.getLast? with | some x => x + 1 | none => a
def extS (a n : Int) (s : List Int) : List (List Int) := (upF (nextFrom a s) (n - nextFrom a s).toNat).map (fun j => s ++ [j])

def lvls (n : Nat) : Nat → List (List Int)
  | 0 => comb n 0 0
  | k + 1 => lvls n k ++ comb n (k + 1) 0
def allS (n : Nat) : List (List Int) := lvls n n
def grown (n at' : Nat) : List (List Int) := [[]] ++ ((allS n).take at').flatMap (extS 0 n)
end Go.Proofs.Ytkmjeegnijohmaa

namespace Go.Proofs.Ytkmjeegnijohmaa
section
set_option linter.unusedVariables false

theorem Sp.mono {B B' : Vec → Prop} (h : ∀ v, B v → B' v) {v : Vec} (hv : Sp B v) : Sp B' v := hv.trans fun u hu => .of (h u hu)
theorem RB.mono {K K' : Nat} (h : K ≤ K') {W : Nat → Vec} {v : Vec} (hv : Sp (RB K W) v) : Sp (RB K' W) v := hv.mono fun u ⟨k, hk, e⟩ => ⟨k, by omega, e⟩

theorem Sp.split {K : Nat} {W : Nat → Vec} {v : Vec} (h : Sp (RB (K + 1) W) v) : ∃ n a : Int, n ≠ 0 ∧ Sp (RB K W) (fun c => n * v c + a * W K c) := by
  induction h with
  | of hb =>
    obtain ⟨k, hk, rfl⟩ := hb
    by_cases e : k = K
    · subst e; exact ⟨1, -1, by decide, Sp.zero.congr fun c => by grind⟩
    · exact ⟨1, 0, by decide, (RB.sp (by omega : k < K)).congr fun c => by grind⟩
  | zero => exact ⟨1, 0, by decide, Sp.zero.congr fun c => by simp⟩
  | add _ _ h1 h2 =>
    obtain ⟨n, a, hn, h1⟩ := h1
    obtain ⟨m, b, hm, h2⟩ := h2
    exact ⟨n * m, m * a + n * b, Int.mul_ne_zero hn hm, (Sp.lin m n h1 h2).congr fun c => by grind⟩
  | mul x _ h1 =>
    obtain ⟨n, a, hn, h1⟩ := h1
    exact ⟨n, x * a, hn, (Sp.mul x h1).congr fun c => by grind⟩
  | div hx _ h1 =>
    obtain ⟨n, a, hn, h1⟩ := h1
    exact ⟨n * _, a, Int.mul_ne_zero hn hx, h1.congr fun c => by grind⟩

theorem Red.le : ∀ {K : Nat} {K' : Nat} {J' : Nat → Nat} {R' : Nat → Vec} {W : Nat → Vec}, Red K' J' R' → (∀ k, k < K' → Sp (RB K W) (R' k)) → K' ≤ K
  | 0, K', J', R', W, h, hs => by
    rcases Nat.eq_zero_or_pos K' with e | e
    · omega
    · exfalso
      have : ∀ {v : Vec}, Sp (RB 0 W) v → ∀ c, v c = 0 := by
        intro v hv
        induction hv with
        | of hb => obtain ⟨k, hk, _⟩ := hb; omega
        | zero => intro c; rfl
        | add _ _ h1 h2 => intro c; simp only [h1, h2]; rfl
        | mul x _ h1 => intro c; simp only [h1]; simp
        | div hx _ h1 => intro c; exact eq_zero_of_mul hx (h1 c)
      exact h.piv 0 e (this (hs 0 e) _)
  | K + 1, K', J', R', W, h, hs => by
    rcases Classical.em (∀ k, k < K' → Sp (RB K W) (R' k)) with c | c
    · have := Red.le h c; omega
    · obtain ⟨k0, c⟩ := Classical.not_forall.1 c
      obtain ⟨hk0, c⟩ := Classical.not_imp.1 c
      obtain ⟨n, a, hn, h0⟩ := (hs k0 hk0).split
      have ha : a ≠ 0 := fun e => c (Sp.div hn (h0.congr fun c => by rw [e]; grind))
      obtain ⟨K1, rfl⟩ : ∃ K1, K' = K1 + 1 := ⟨K' - 1, by omega⟩
      have hch : ∀ k, ∃ m b : Int, k < K1 + 1 → m ≠ 0 ∧ Sp (RB K W) (fun c => m * R' k c + b * W K c) := by
        intro k
        by_cases hk : k < K1 + 1
        · obtain ⟨m, b, hm, hh⟩ := (hs k hk).split; exact ⟨m, b, fun _ => ⟨hm, hh⟩⟩
        · exact ⟨0, 0, fun h => absurd h hk⟩
      obtain ⟨sk, hsk⟩ : ∃ sk : Nat → Nat, sk = fun k => if k < k0 then k else k + 1 := ⟨_, rfl⟩
      have sk1 : ∀ k, k < K1 → sk k < K1 + 1 ∧ sk k ≠ k0 := by
        intro k hk; rw [hsk]; simp only []
        split <;> constructor <;> omega
      have sk2 : ∀ k q, sk k = sk q → k = q := by
        intro k q e; rw [hsk] at e; simp only [] at e
        split at e <;> split at e <;> omega
      have hch2 : ∀ k, ∃ V : Vec, k < K1 → Sp (RB K W) V ∧ ∃ x y : Int, x ≠ 0 ∧ ∀ c, V c = x * R' (sk k) c + y * R' k0 c := by
        intro k
        by_cases hk : k < K1
        · obtain ⟨m, b, hmb⟩ := hch (sk k)
          obtain ⟨hm, hh⟩ := hmb (sk1 k hk).1
          refine ⟨fun c => a * (m * R' (sk k) c + b * W K c) + (-b) * (n * R' k0 c + a * W K c), fun _ => ⟨Sp.lin a (-b) hh h0, a * m, -b * n, Int.mul_ne_zero ha hm, fun c => by grind⟩⟩
        · exact ⟨fun _ => 0, fun h => absurd h hk⟩
      have hV := Classical.choose_spec (Classical.axiomOfChoice hch2)
      obtain ⟨V, hV⟩ := Classical.axiomOfChoice hch2
      have : K1 ≤ K := Red.le (K := K) (J' := fun k => J' (sk k)) (R' := V) (W := W) ⟨fun k hk => by
          obtain ⟨_, x, y, hx, e⟩ := hV k hk
          obtain ⟨s1, s2⟩ := sk1 k hk
          rw [e, h.off k0 hk0 (sk k) s1 (Ne.symm s2)]
          have := h.piv (sk k) s1
          intro h9
          exact this (eq_zero_of_mul hx (by simpa using h9)),
        fun k hk q hq hne => by
          obtain ⟨_, x, y, hx, e⟩ := hV k hk
          obtain ⟨s1, s2⟩ := sk1 k hk
          obtain ⟨t1, t2⟩ := sk1 q hq
          rw [e, h.off k0 hk0 (sk q) t1 (Ne.symm t2), h.off (sk k) s1 (sk q) t1 (fun e => hne (sk2 _ _ e))]
          simp⟩ (fun k hk => (hV k hk).1)
      omega

theorem Sp.map {B B' : Vec → Prop} (f : Vec → Vec) (h0 : f (fun _ => 0) = fun _ => 0) (ha : ∀ u v, f (fun c => u c + v c) = fun c => f u c + f v c) (hm : ∀ (k : Int) u, f (fun c => k * u c) = fun c => k * f u c)
    (hB : ∀ v, B v → Sp B' (f v)) {v : Vec} (h : Sp B v) : Sp B' (f v) := by
  induction h with
  | of hb => exact hB _ hb
  | zero => rw [h0]; exact .zero
  | add _ _ h1 h2 => rw [ha]; exact .add h1 h2
  | mul k _ h1 => rw [hm]; exact .mul k h1
  | div hk _ h1 => rw [hm] at h1; exact .div hk h1

def colsF (M : List (List Int)) (S : List Int) : List (List Int) := M.map (fun r => S.map (fun j => vec r j.toNat))
def pickV (S : List Int) (v : Vec) : Vec := fun c => match S[c]? with | some j => v j.toNat | none => 0
theorem colsF_vec (r : List Int) (S : List Int) : vec (S.map (fun j => vec r j.toNat)) = pickV S (vec r) := by
  funext c
  unfold pickV
  show ((S.map (fun j => vec r j.toNat))[c]?).getD 0 = _
  rw [List.getElem?_map]
  cases S[c]? <;> rfl
theorem colsF_len (M : List (List Int)) (S : List Int) : (colsF M S).length = M.length := by simp [colsF]
theorem colsF_wid (M : List (List Int)) (S : List Int) : ∀ r ∈ colsF M S, r.length = S.length := by
  intro r hr
  obtain ⟨r', _, rfl⟩ := List.mem_map.1 hr
  simp
theorem colsF_le {M : List (List Int)} (h : ∀ r ∈ M, ∀ c, -1 ≤ vec r c ∧ vec r c ≤ 1) (S : List Int) : ∀ r ∈ colsF M S, ∀ c, -1 ≤ vec r c ∧ vec r c ≤ 1 := by
  intro r hr c
  obtain ⟨r', hr', rfl⟩ := List.mem_map.1 hr
  rw [colsF_vec]
  unfold pickV
  split
  · exact h r' hr' _
  · decide

structure MaskOk (M : List (List Int)) (n : Nat) : Prop where
  wid : ∀ r ∈ M, r.length = n
  le6 : M.length ≤ 6
  one : ∀ r ∈ M, ∀ c, -1 ≤ vec r c ∧ vec r c ≤ 1
theorem MaskOk.cols {M : List (List Int)} {n : Nat} (h : MaskOk M n) (S : List Int) : MaskOk (colsF M S) S.length :=
  ⟨colsF_wid M S, by rw [colsF_len]; exact h.le6, colsF_le h.one S⟩
theorem MaskOk.inv {M : List (List Int)} {n : Nat} (h : MaskOk M n) (t : Nat) : RInv n M.length (rowv M) t (pRed M t).1 (pRed M t).2 :=
  pRed_inv M h.wid t (fun j _ q => rowv_le (by decide) (fun r hr => h.one r hr j) q)
theorem MaskOk.below {M : List (List Int)} {n : Nat} (h : MaskOk M n) {q : Nat} (h1 : (pRed M n).2.length ≤ q) (h2 : q < M.length) (c : Nat) : rowv (pRed M n).1 q c = 0 := by
  rcases Nat.lt_or_ge c n with hc | hc
  · exact (h.inv n).zero q h1 h2 c hc
  · exact rowv_wid (h.inv n).wid q hc

end

section
set_option linter.unusedVariables false

def SetOk (n : Nat) (S : List Int) : Prop := S.Pairwise (· < ·) ∧ ∀ y ∈ S, 0 ≤ y ∧ y < (n : Int)
theorem SetOk.get {n : Nat} {S : List Int} (h : SetOk n S) {i : Nat} (hi : i < S.length) : 0 ≤ S[i] ∧ S[i] < n := h.2 _ (List.getElem_mem hi)
theorem SetOk.inj {n : Nat} {S : List Int} (h : SetOk n S) {i j : Nat} (hi : i < S.length) (hj : j < S.length) (e : S[i] = S[j]) : i = j := by
  rcases Nat.lt_trichotomy i j with c | c | c
  · have := List.pairwise_iff_getElem.1 h.1 i j hi hj c; omega
  · exact c
  · have := List.pairwise_iff_getElem.1 h.1 j i hj hi c; omega

theorem comb_ok {n k : Nat} {S : List Int} (h : S ∈ comb n k 0) : SetOk n S := by
  obtain ⟨h1, h2⟩ := comb_asc n k 0 S h
  exact ⟨h1, fun y hy => by have := h2 y hy; omega⟩

end

section
set_option linter.unusedVariables false

def ofF (n d : Int) : Int × Int :=
  let g : Int := (Int.gcd n d : Nat)
  if d < 0 then (n.tdiv (-g), d.tdiv (-g)) else (n.tdiv g, d.tdiv g)
def withY (R : List (List Int)) (y : List Int) : List (List Int) := List.zipWith (fun r v => r ++ [v]) R y
theorem withY_len {R : List (List Int)} {y : List Int} (h : y.length = R.length) : (withY R y).length = R.length := by simp [withY, h]
theorem withY_mem {R : List (List Int)} {y : List Int} {r : List Int} (h : r ∈ withY R y) : ∃ r' ∈ R, ∃ v ∈ y, r = r' ++ [v] := by
  unfold withY at h
  obtain ⟨i, hi, rfl⟩ := List.mem_iff_getElem.1 h
  rw [List.getElem_zipWith]
  simp at hi
  exact ⟨_, List.getElem_mem (by omega), _, List.getElem_mem (by omega), rfl⟩
theorem vec_snoc_lt {r : List Int} {v : Int} {c : Nat} (h : c < r.length) : vec (r ++ [v]) c = vec r c := by
  unfold vec; rw [List.getElem?_append_left h]

structure MaskY (R : List (List Int)) (n : Nat) (Y : Nat) : Prop where
  wid : ∀ r ∈ R, r.length = n + 1
  le6 : R.length ≤ 6
  one : ∀ r ∈ R, ∀ c, c < n → -1 ≤ vec r c ∧ vec r c ≤ 1
  all : ∀ r ∈ R, ∀ x ∈ r, -(Y : Int) ≤ x ∧ x ≤ Y
theorem MaskOk.addY {M : List (List Int)} {n : Nat} (h : MaskOk M n) {y : List Int} (hy : y.length = M.length) {Y : Nat} (hY1 : 1 ≤ Y) (hY : ∀ v ∈ y, -(Y : Int) ≤ v ∧ v ≤ Y) : MaskY (withY M y) n Y := by
  refine ⟨fun r hr => ?_, by rw [withY_len hy]; exact h.le6, fun r hr c hc => ?_, fun r hr x hx => ?_⟩
  · obtain ⟨r', h1, v, _, rfl⟩ := withY_mem hr
    simp [h.wid r' h1]
  · obtain ⟨r', h1, v, _, rfl⟩ := withY_mem hr
    rw [vec_snoc_lt (by rw [h.wid r' h1]; exact hc)]; exact h.one r' h1 c
  · obtain ⟨r', h1, v, h2, rfl⟩ := withY_mem hr
    rcases List.mem_append.1 hx with hx | hx
    · obtain ⟨c, hc, rfl⟩ := List.mem_iff_getElem.1 hx
      have := h.one r' h1 c
      rw [vec_lt hc] at this; omega
    · simp at hx; subst hx; exact hY _ h2

def solveP (R : List (List Int)) (n : Nat) : List (Int × Int) × Int :=
  let s := pRed R n
  if (s.1.drop s.2.length).any (nz n) then ([], 8)
  else if s.2.length < n then ([], 11)
  else ((List.range n).map fun k => ofF (vec (s.1[k]?.getD []) n) (vec (s.1[k]?.getD []) (jf s.2 k)), 0)
theorem asc_le : ∀ {J : List Nat} {a b : Nat}, J.Pairwise (· < ·) → (∀ x ∈ J, a ≤ x ∧ x < b) → J.length ≤ b - a
  | [], a, b, _, _ => Nat.zero_le _
  | x :: J, a, b, hp, hb => by
    rw [List.pairwise_cons] at hp
    have hx := hb x (by simp)
    have := asc_le (a := x + 1) (b := b) hp.2 (fun y hy => by have := hp.1 y hy; have := hb y (by simp [hy]); omega)
    simp only [List.length_cons]; omega
end

section
set_option linter.unusedVariables false

def dotS (u v : Vec) (n : Nat) : Int := sm (fun c => u c * v c) n

def IsKer (M : List (List Int)) (n : Nat) (v : Vec) : Prop := ∀ q, q < M.length → dotS (rowv M q) v n = 0
end

section
set_option linter.unusedVariables false

end
end Go.Proofs.Ytkmjeegnijohmaa

namespace Go.Proofs.Ytkmjeegnijohmaa
open Go.RowKit
set_option linter.unusedVariables false

def allI (n : Nat) : List Int := (List.range n).map (fun j : Nat => (j : Int))
theorem allI_len (n : Nat) : (allI n).length = n := by simp [allI]
theorem allI_succ (n : Nat) : allI (n + 1) = allI n ++ [(n : Int)] := by unfold allI; rw [List.range_succ, List.map_append]; rfl

set_option maxHeartbeats 1000000 in
theorem all_c (w : World) (n : Nat) (hn : n ≤ 1000) :
    Calls Try.prog 102 #[.int .i64 n] w fun e w' => ∃ v, e = .returned v ∧ w'.ownsRow w.heap.size 3 1 v n ((allI n).map (Value.int .i64)) ∧ Below w.heap.size w w' := by
  go_enter Try.func102, Try.ntmps102
  go_wp2
  go_loopw [3, 6] (fun v i wr => ∃ k : Nat, k ≤ n ∧ i = .int .i64 k ∧ wr.ownsRow w.heap.size 3 1 v k ((allI k).map (Value.int .i64)) ∧ Below w.heap.size w wr) (fun _ i _ => n - (intOf i).toNat)
  case atStart => exact ⟨0, Nat.zero_le _, rfl, World.ownsRow_nil _ _ _ _, Below.refl _ _⟩
  case round =>
    obtain ⟨k, hk, rfl, hown, hbk⟩ := hrel
    by_cases hlt : k < n
    · obtain ⟨va, vc, rfl⟩ := ownsRow_slice hown
      have HO := hid hown
      have M1 := hid (show k + 1 ≤ maxLen by unfold maxLen; omega)
      have M2 := hid (show (k + 1) * 8 ≤ 140737488355328 by omega)
      have M3 := hid (Nat.le_trans hbk.size (le_alloc wr (.cells #[.int .i64 (k : Int)] 3)))
      clear hown
      go_wp2_with (at_builtin; refine wpList_app _ rfl (.tmp 9) (.tmp 11) 25 rfl w.heap.size 3 (.int .i64 0) 1 8 Try.underlying25 li_int rfl Nat.one_pos (.slice va k vc) k _ rfl (HO.out.alloc _) (some ⟨wr.heap.size, 0, none⟩) 1 1 [.int .i64 (k : Int)] rfl rfl no_none (one_news wr _ _) (li_one _) M1.out M2.out M3.out ?_; refine Stop.of ?_)
      refine Stop.go ?_
      intro a3 c3 w3 own3 g3
      have hB3 : Below w.heap.size w w3 := (hbk.alloc hbk.size _).grown g3 M3.out (fun k hk => (HO.out.lt k hk).1)
      go_wp2
      refine ⟨⟨k + 1, by omega, by go_num, ?_, hB3⟩, by simp [intOf]; omega⟩
      rw [allI_succ]
      simpa using own3
    · obtain rfl : k = n := by omega
      go_wp2
      go_ret
      exact ⟨_, rfl, hown, hbk⟩

def MoreP (P : Program) (g : Nat) (lb : Array Value) (w : World) (N : Nat) (mo : Nat → List Int) : Prop :=
  ∀ (i : Nat) (W : World), i < N → Below w.heap.size w W → Calls P g (#[.int .i64 i] ++ lb) W fun e W' => ∃ a c, e = .returned (.slice a (mo i).length c) ∧ IntsAt W' a (mo i) ∧ Below W.heap.size W W'
def chosenF (M : List (List Int)) (S : List Int) (mo : Nat → List Int) : List (List Int) := M.mapIdx (fun i r => S.map (fun j => vec r j.toNat) ++ mo i)
theorem chosenF_len (M : List (List Int)) (S : List Int) (mo : Nat → List Int) : (chosenF M S mo).length = M.length := by simp [chosenF]
theorem chosenF_take {M : List (List Int)} {S : List Int} {mo : Nat → List Int} {k : Nat} (hk : k < M.length) : (chosenF M S mo).take (k + 1) = (chosenF M S mo).take k ++ [S.map (fun j => vec M[k] j.toNat) ++ mo k] := by
  rw [List.take_succ_eq_append_getElem (by rw [chosenF_len]; exact hk)]
  simp [chosenF]

theorem ints_one (l : List Int) : ∀ u ∈ l.map (Value.int .i64), u.oneCell' = true := by intro u hu; obtain ⟨x, _, rfl⟩ := List.mem_map.1 hu; rfl

set_option maxRecDepth 100000 in
set_option maxHeartbeats 4000000 in
theorem chosen_c (w : World) (a : Option Addr) (n cap : Nat) (M : List (List Int)) (hn : M.length = n) (hn6 : n ≤ 1000) (H : RowsAt w a M) (a2 : Option Addr) (k2 cap2 : Nat) (S : List Int) (hk2 : S.length = k2) (hk21 : k2 ≤ 1000) (H2 : IntsAt w a2 S)
    (hS : ∀ r ∈ M, ∀ j ∈ S, 0 ≤ j ∧ j < r.length) (g : Nat) (lb : Array Value) (eg : ∀ args w, (callFunc g args).run Try.prog w = .ok (.enter g args) w) (mo : Nat → List Int) (hmo : MoreP Try.prog g lb w n mo) (hml : ∀ i, i < n → (mo i).length ≤ 1000 ∧ 1 ≤ k2 + (mo i).length) :
    Calls Try.prog 108 #[.slice a n cap, .slice a2 k2 cap2, .func (.func g) #[] lb] w fun e w' => ∃ v, e = .returned v ∧ OwnM w' w.heap.size v (chosenF M S mo) ∧ Below w.heap.size w w' := by
  have HN := hid hn
  have HH := hid H
  have HK2 := hid hk2
  have HH2 := hid H2
  have HS := hid hS
  have HMO := hid hmo
  have HML := hid hml
  have HCT := hid (fun (k : Nat) (hk : k < M.length) => chosenF_take (M := M) (S := S) (mo := mo) hk)
  have HCL := hid (chosenF_len M S mo)
  obtain ⟨C, hC⟩ : ∃ C, C = chosenF M S mo := ⟨_, rfl⟩
  rw [← hC] at HCT HCL ⊢
  clear hn H hk2 H2 hS hmo hml hC
  go_enter Try.func108, Try.ntmps108
  go_wp2
  go_loopw [7, 15] (fun v i wr => ∃ k : Nat, k ≤ n ∧ i = .int .i64 k ∧ OwnM wr w.heap.size v (C.take k) ∧ Below w.heap.size w wr) (fun _ i _ => n - (intOf i).toNat)
  case atStart => exact ⟨0, Nat.zero_le _, rfl, OwnM.nil _ _, Below.refl _ _⟩
  case round =>
    obtain ⟨k, hk, rfl, ho, hbk⟩ := hrel
    obtain ⟨wo, hwo⟩ : ∃ wo, wo = wr := ⟨_, rfl⟩
    subst hwo
    by_cases hlt : k < n
    · have hkM : k < M.length := by rw [HN.out]; exact hlt
      obtain ⟨b, off, ra, rn, rc, rfl, hbs, hq0, hrn, hrm, hri⟩ := (HH.out.below hbk) k hkM
      have htk := HCT.out k hkM
      have hsr := HS.out M[k] (List.getElem_mem hkM)
      obtain ⟨r, hr⟩ : ∃ r, r = M[k] := ⟨_, rfl⟩
      rw [← hr] at htk hsr hrn hri
      have hlen : (C.take k).length = k := by rw [List.length_take, HCL.out]; omega
      have HL := hid hlen
      have HTK := hid htk
      have HSR := hid hsr
      have HRN := hid hrn
      have HRI := hid hri
      have HO := hid ho
      have HBK := hid hbk
      obtain ⟨va, vc, hv⟩ : ∃ va vc, u7 = .slice va k vc := by
        obtain ⟨_, _, ho1, _⟩ := ho
        obtain ⟨a', c', e⟩ := ownsRow_slice ho1
        exact ⟨a', c', by rw [e, hlen]⟩
      subst hv
      clear hr htk hsr hrn hri hkM ho hlen
      go_wp2
      go_loopw [10, 22] (fun v i wr => ∃ t : Nat, t ≤ k2 ∧ i = .int .i64 t ∧ wr.ownsRow wo.heap.size 3 1 v t (((S.take t).map (fun j => vec r j.toNat)).map (Value.int .i64)) ∧ Below wo.heap.size wo wr) (fun _ i _ => k2 - (intOf i).toNat)
      case atStart => exact ⟨0, Nat.zero_le _, rfl, World.ownsRow_nil _ _ _ _, Below.refl _ _⟩
      case round =>
        obtain ⟨t, ht, rfl, hown, hbt⟩ := hrel
        by_cases hlt2 : t < k2
        · have htS : t < S.length := by rw [HK2.out]; exact hlt2
          obtain ⟨b2, off2, rfl, hbs2, hc2⟩ := (HH2.out.below (chain HBK.out hbt)) t htS
          have hpp := HSR.out S[t] (List.getElem_mem htS)
          have hg2 : S[t]?.getD 0 = S[t] := by rw [List.getElem?_eq_getElem htS]; rfl
          rw [hg2] at hc2
          have htk2 : (S.take (t + 1)).map (fun j => vec r j.toNat) = (S.take t).map (fun j => vec r j.toNat) ++ [vec r (S[t]).toNat] := by
            rw [List.take_succ_eq_append_getElem htS, List.map_append]; rfl
          obtain ⟨q, hq⟩ : ∃ q : Nat, S[t] = q := ⟨(S[t]).toNat, by omega⟩
          rw [hq] at hc2 hpp htk2
          rw [show ((q : Int)).toNat = q by omega] at htk2
          have hqr : q < r.length := by omega
          obtain ⟨b3, off3, rfl, hbs3, hc3⟩ := (HRI.out.below hbt) q hqr
          have hqn : (q : Int) < (rn : Int) := by have := HRN.out; omega
          have hq0' : (0 : Int) ≤ (q : Int) := by omega
          obtain ⟨x, hx⟩ : ∃ x, x = r[q]?.getD 0 := ⟨_, rfl⟩
          have hxv : vec r q = x := hx.symm
          rw [← hx] at hc3
          rw [hxv] at htk2
          obtain ⟨la, lc, rfl⟩ := ownsRow_slice hown
          have HTK2 := hid htk2
          have HOW := hid hown
          have M1 := hid (show t + 1 ≤ maxLen by unfold maxLen; omega)
          have M2 := hid (show (t + 1) * 8 ≤ 140737488355328 by omega)
          have M3 := hid (Nat.le_trans hbt.size (le_alloc wr (.cells #[.int .i64 x] 3)))
          clear hpp hg2 htk2 hq hx hxv hown htS hqr
          go_wp2_with (at_builtin; refine wpList_app _ rfl (.tmp 26) (.tmp 31) 25 rfl wo.heap.size 3 (.int .i64 0) 1 8 Try.underlying25 li_int rfl Nat.one_pos (.slice la t lc) t _ rfl (HOW.out.alloc _) (some ⟨wr.heap.size, 0, none⟩) 1 1 [.int .i64 x] rfl rfl no_none (one_news wr _ _) (li_one _) M1.out M2.out M3.out ?_; refine Stop.of ?_)
          refine Stop.go ?_
          intro a3 c3 w3 own3 g3
          have hB3 : Below wo.heap.size wo w3 := (hbt.alloc hbt.size _).grown g3 M3.out (fun k hk => (HOW.out.lt k hk).1)
          go_wp2
          refine ⟨⟨t + 1, by omega, by go_num, ?_, hB3⟩, by simp [intOf]; omega⟩
          rw [HTK2.out]
          simpa using own3
        · obtain rfl : t = k2 := by omega
          rw [List.take_of_length_le (by rw [HK2.out]; exact Nat.le_refl _)] at hown
          obtain ⟨la, lc, rfl⟩ := ownsRow_slice hown
          have HMK := hid (HMO.out k wr hlt (chain HBK.out hbt))
          have HOW := hid hown
          have hml := HML.out k hlt
          obtain ⟨m, hm⟩ : ∃ m, m = mo k := ⟨_, rfl⟩
          rw [← hm] at hml HMK HTK
          obtain ⟨ml, hmle⟩ : ∃ ml, ml = m.length := ⟨_, rfl⟩
          rw [← hmle] at hml HMK
          have HME := hid hmle
          obtain ⟨hml1, hml2⟩ := hml
          clear hown hm hmle
          go_wp2_with (refine HMK.out.mono ?_; rintro e w2 ⟨ma, mc, rfl, hmi, hb2⟩; refine Stop.of ?_)
          refine Stop.go ?_
          have HO2 := hid (own_below HOW.out hb2)
          have HMI := hid hmi
          have HB2 := hid (chain hbt hb2)
          have N1 := hid (show t + ml ≤ maxLen by unfold maxLen; omega)
          have N2 := hid (show (t + ml) * 8 ≤ 140737488355328 by omega)
          have N3 := hid (show wo.heap.size ≤ w2.heap.size from HB2.out.size)
          have N4 := hid (show (m.map (Value.int .i64)).length = ml * 1 by rw [List.length_map, HME.out]; omega)
          have N5 := hid (show ma = none → ml = 0 from fun h => by rw [HME.out]; exact ints_none hmi h)
          have N6 := hid (ints_news hmi)
          clear hmi hb2 hbt
          go_wp2_with (at_builtin; refine wpList_app _ rfl (.tmp 35) (.tmp 38) 25 rfl wo.heap.size 3 (.int .i64 0) 1 8 Try.underlying25 li_int rfl Nat.one_pos (.slice la t lc) t _ rfl HO2.out ma ml mc (m.map (Value.int .i64)) rfl N4.out N5.out N6.out (ints_one _) N1.out N2.out N3.out ?_; refine Stop.of ?_)
          refine Stop.go ?_
          intro a3 c3 w3 own3 g3
          have hB3 : Below wo.heap.size wo w3 := HB2.out.grown g3 N3.out (fun k hk => (HO2.out.lt k hk).1)
          rw [← List.map_map, ← List.map_append] at own3
          obtain ⟨X, hX⟩ : ∃ X, X = S.map (fun j => vec r j.toNat) ++ m := ⟨_, rfl⟩
          rw [← hX] at own3 HTK
          have hXl : X.length = t + ml := by rw [hX, List.length_append, List.length_map, HK2.out, HME.out]
          obtain ⟨gn, cc, e3, hgn, hsr⟩ := spRow_own own3 hXl (by omega)
          cases e3
          have HXL := hid hXl
          obtain ⟨g', vs, ho, hin, he⟩ := HO.out
          rw [HL.out] at ho
          have hb2a : Below wo.heap.size wo (w3.alloc (.cells #[.slice (some ⟨gn, 0, none⟩) (t + ml) c3] 25)) := hB3.alloc hB3.size _
          have M1 := hid (show k + 1 ≤ maxLen by unfold maxLen; omega)
          have M2 := hid (show (k + 1) * 24 ≤ 140737488355328 by omega)
          have M3 := hid (Nat.le_trans HBK.out.size hb2a.size)
          have HO2' := hid (own_below ho hb2a)
          have HE := hid he
          have HIN := hid hin
          have HSR2 := hid hsr
          have HB2' := hid hb2a
          have HOO := hid ho
          have HC3 := hid (own_cap own3)
          clear he hin hsr hb2a ho own3 hX hXl hml1 hml2 hB3 g3
          go_wp2_with (at_builtin; refine wpList_app _ rfl (.tmp 34) (.tmp 40) 22 rfl w.heap.size 25 (.slice none 0 0) 1 24 Try.underlying22 li_ints rfl Nat.one_pos (.slice va k vc) k vs rfl HO2'.out (some ⟨w3.heap.size, 0, none⟩) 1 1 [.slice (some ⟨gn, 0, none⟩) (t + ml) c3] rfl rfl no_none (one_news w3 _ _) (slice_oneCell _ _ _) M1.out M2.out M3.out ?_; refine Stop.of ?_)
          refine Stop.go ?_
          intro a5 c5 w5 own5 g5
          have hsn : OwnM w5 w.heap.size (.slice a5 (k + 1) c5) (C.take k ++ [X]) := by
            have own5' : w5.ownsRow w.heap.size 25 1 (.slice a5 (k + 1) c5) ((C.take k).length + 1) (vs ++ [.slice (some ⟨gn, 0, none⟩) X.length c3]) := by rw [HL.out, HXL.out]; exact own5
            exact OwnM.snoc (by rw [HL.out]; exact HOO.out) HIN.out HE.out HB2'.out (HSR2.out.keep (Below.heap_alloc _ _ _ HSR2.out.lt)) hgn (by rw [HXL.out]; exact HC3.out) HBK.out.size g5 own5'
          have hB5 : Below w.heap.size w w5 := (HBK.out.trans (HB2'.out.mono HBK.out.size)).grown g5 M3.out (fun q hq => (HO2'.out.lt q hq).1)
          rw [← HTK.out] at hsn
          go_wp2
          exact ⟨⟨k + 1, by omega, by go_num, hsn, hB5⟩, by simp [intOf]; omega⟩
    · obtain rfl : k = n := by omega
      rw [List.take_of_length_le (by rw [HCL.out, HN.out]; exact Nat.le_refl _)] at ho
      go_wp2
      go_ret
      exact ⟨_, rfl, ho, hbk⟩
end Go.Proofs.Ytkmjeegnijohmaa

namespace Go.Proofs.Ytkmjeegnijohmaa
section
set_option linter.unusedVariables false

theorem IsKer.congr {M : List (List Int)} {n : Nat} {u v : Vec} (h : IsKer M n u) (e : ∀ c, c < n → u c = v c) : IsKer M n v := fun q hq => by
  have := h q hq
  unfold dotS at *
  rw [sm_congr (g := fun c => rowv M q c * u c) (fun c hc => by rw [e c hc])]; exact this

end

section
set_option linter.unusedVariables false

def unitF (N i : Nat) : List Int := (List.replicate N 0).set i 1
def extF (M : List (List Int)) : List (List Int) := M.mapIdx (fun i r => r ++ unitF M.length i)
abbrev RE (M : List (List Int)) (n : Nat) : List (List Int) := (pRed (extF M) n).1
end
end Go.Proofs.Ytkmjeegnijohmaa

namespace Go.Proofs.Ytkmjeegnijohmaa
open Go.RowKit
set_option linter.unusedVariables false

def intsJ (J : List Nat) : List Int := J.map (fun j : Nat => (j : Int))
theorem intsJ_len (J : List Nat) : (intsJ J).length = J.length := by simp [intsJ]
theorem intsJ_vals (J : List Nat) : J.map (fun j : Nat => Value.int .i64 j) = (intsJ J).map (Value.int .i64) := by unfold intsJ; rw [List.map_map]; rfl

theorem ints_of_own {W : World} {base : Nat} {v : Value} {n : Nat} {l : List Int} (h : W.ownsRow base 3 1 v n (l.map (Value.int .i64))) (hn : l.length = n) : ∃ a c, v = .slice a n c ∧ IntsAt W a l ∧ n ≤ maxLen := by
  subst hn
  rcases h.2 with ⟨rfl, h0⟩ | ⟨g, cap, cur, rfl, hbg, hgg, hnc, hcm, hsz, htk⟩
  · exact ⟨none, 0, by rw [h0], fun j hj => by omega, by rw [h0]; decide⟩
  · refine ⟨_, cap, rfl, ?_, by omega⟩
    have := (ElemI.own (S := fun _ => True) (base := base) ⟨h.1, .inr ⟨g, cap, cur, rfl, hbg, hgg, hnc, hcm, hsz, htk⟩⟩ (show l.length ≤ maxLen by omega) (fun _ _ => trivial)).ints
    exact this.2.2

end Go.Proofs.Ytkmjeegnijohmaa

namespace Go.Proofs.Ytkmjeegnijohmaa
open Go.RowKit
set_option linter.unusedVariables false

theorem region_cut {P : Program} {c : Code} {Q : Exit → Act → World → Prop} {a : Act} {w : World} (R : Act → Act → World → Prop) (h1 : c.wp P (fun e a' w' => e = .normal ∧ R a a' w') a w) (h2 : ∀ a' w', R a a' w' → Q .normal a' w') : c.wp P Q a w :=
  Code.wp_mono (fun e a' w' ⟨he, hr⟩ => by subst he; exact h2 a' w' hr) h1

theorem okM_ok {M : Mask} (h : okM M = true) : MaskOk M (colsM M) ∧ 1 ≤ M.length ∧ M.length ≤ 6 ∧ 1 ≤ colsM M ∧ colsM M ≤ 10 := by
  unfold okM inB at h
  simp only [Bool.and_eq_true, decide_eq_true_eq, List.all_eq_true] at h
  obtain ⟨⟨h1, h2⟩, h3⟩ := h
  have hr : ∀ r ∈ M, r.length = colsM M ∧ (1 ≤ r.length ∧ r.length ≤ 10) ∧ ∀ x ∈ r, -1 ≤ x ∧ x ≤ 1 := fun r hr => by
    have h4 := h3 r hr
    unfold okMRow inB at h4
    simp only [Bool.and_eq_true, decide_eq_true_eq, List.all_eq_true] at h4
    obtain ⟨h5, ⟨h6, h7⟩, h8⟩ := h4
    exact ⟨h5, ⟨by omega, by omega⟩, h8⟩
  have h0 : M.length ≠ 0 := by omega
  have hm0 : M[0]'(by omega) ∈ M := List.getElem_mem _
  obtain ⟨k1, k2, _⟩ := hr _ hm0
  refine ⟨⟨fun r hr' => (hr r hr').1, by omega, fun r hr' c => vec_mem (P := fun x => -1 ≤ x ∧ x ≤ 1) (by decide) (hr r hr').2.2 c⟩, by omega, by omega, by omega, by omega⟩

theorem rows_head {w : World} {a : Option Addr} {M : Mask} (H : RowsAt w a M) (h0 : 0 < M.length) :
    ∃ b off ra rc, a = some ⟨b, off, none⟩ ∧ b < w.heap.size ∧ w.cell? ⟨b, off, none⟩ = some (.slice ra (colsM M) rc) := by
  obtain ⟨b, off, ra, rn, rc, rfl, hb, hc, hn, _, _⟩ := H 0 h0
  refine ⟨b, off, ra, rc, rfl, hb, ?_⟩
  have e : colsM M = rn := by unfold colsM; rw [List.getElem?_eq_getElem h0]; exact hn
  rw [e]; simpa using hc

end Go.Proofs.Ytkmjeegnijohmaa

namespace Go.Proofs.Ytkmjeegnijohmaa
set_option linter.unusedVariables false

theorem upF_get : ∀ (m : Nat) (a : Int) (j : Nat), j < m → (upF a m)[j]? = some (a + j)
  | 0, _, _, h => by omega
  | m + 1, a, 0, _ => by simp [upF]
  | m + 1, a, j + 1, h => by
    show (upF (a + 1) m)[j]? = _
    rw [upF_get m (a + 1) j (by omega)]; congr 1; omega
theorem upF_snoc : ∀ (m : Nat) (a : Int), upF a (m + 1) = upF a m ++ [a + m]
  | 0, a => by simp [upF]
  | m + 1, a => by
    show a :: upF (a + 1) (m + 1) = a :: (upF (a + 1) m ++ _)
    rw [upF_snoc m (a + 1)]
    congr 3; omega
theorem upF_range (m : Nat) : ∀ a : Nat, upF (a : Int) m = (List.range' a m).map (fun j : Nat => (j : Int)) := by
  induction m with
  | zero => intro a; rfl
  | succ m ih =>
    intro a
    show (a : Int) :: upF ((a : Int) + 1) m = _
    have := ih (a + 1)
    rw [show ((a : Int) + 1) = ((a + 1 : Nat) : Int) by omega, this]
    simp [List.range'_succ]

def TailAt (n k : Nat) (x : List Int) (m : Nat) : Prop := ∀ j, m ≤ j → j < k → x[j]? = some ((n : Int) - k + j)

theorem tail_le {n k m : Nat} {x : List Int} (hl : x.length = k) (hp : x.Pairwise (· < ·)) (hb : ∀ y ∈ x, y < (n : Int)) (hm : m < k) (ht : TailAt n k x (m + 1)) : x[m]?.getD 0 ≤ (n : Int) - k + m := by
  have hml : m < x.length := by omega
  rw [List.getElem?_eq_getElem hml]
  by_cases e : m + 1 = k
  · have := hb _ (List.getElem_mem hml); simp; omega
  · have h1 := ht (m + 1) (Nat.le_refl _) (by omega)
    have hml1 : m + 1 < x.length := by omega
    rw [List.getElem?_eq_getElem hml1] at h1
    have h2 := List.pairwise_iff_getElem.1 hp m (m + 1) hml hml1 (by omega)
    have h3 := Option.some.inj h1
    simp; omega
theorem tail_step {n k m : Nat} {x : List Int} (hl : x.length = k) (hm : m < k) (ht : TailAt n k x (m + 1)) (he : x[m]?.getD 0 = (n : Int) - k + m) : TailAt n k x m := by
  intro j h1 h2
  by_cases e : j = m
  · subst e
    rw [List.getElem?_eq_getElem (by omega)] at he ⊢
    rw [← he]; rfl
  · exact ht j (by omega) h2
theorem tail_drop {n k m : Nat} {x : List Int} (hl : x.length = k) (hk : k ≤ n) (hm : m ≤ k) (ht : TailAt n k x m) : x.drop m = upF ((n : Int) - (k - m : Nat)) (k - m) := by
  apply List.ext_getElem?
  intro j
  rw [List.getElem?_drop]
  rcases Nat.lt_or_ge j (k - m) with h | h
  · rw [ht (m + j) (by omega) (by omega), upF_get _ _ _ h]; congr 1; omega
  · rw [List.getElem?_eq_none (by omega), List.getElem?_eq_none (by rw [upF_len]; omega)]

theorem next_none {n k : Nat} {x : List Int} (hl : x.length = k) (hk : k ≤ n) (ht : TailAt n k x 0) : nextS n x = none := by
  have := tail_drop hl hk (Nat.zero_le _) ht
  rw [List.drop_zero, Nat.sub_zero] at this
  rw [this]
  exact nextS_up k _ (by omega)
def fillS (x : List Int) (m j : Nat) : List Int := x.take m ++ upF (x[m]?.getD 0 + 1) (j - m) ++ x.drop j
theorem fillS_len {x : List Int} {m j : Nat} (h1 : m ≤ j) (h2 : j ≤ x.length) : (fillS x m j).length = x.length := by
  unfold fillS; simp [upF_len]; omega
theorem fillS_get {x : List Int} {m j : Nat} (h1 : m < j) (h2 : j ≤ x.length) : (fillS x m j)[j - 1]?.getD 0 = x[m]?.getD 0 + (j - m : Nat) := by
  unfold fillS
  rw [List.getElem?_append_left (by simp [upF_len]; omega), List.getElem?_append_right (by simp; omega)]
  simp only [List.length_take]
  rw [show j - 1 - min m x.length = j - m - 1 by omega, upF_get _ _ _ (by omega)]
  simp; omega
theorem fillS_set {x : List Int} {m j : Nat} (h1 : m ≤ j) (h2 : j < x.length) : (fillS x m j).set j (x[m]?.getD 0 + (j + 1 - m : Nat)) = fillS x m (j + 1) := by
  unfold fillS
  have hl : (x.take m ++ upF (x[m]?.getD 0 + 1) (j - m)).length = j := by simp [upF_len]; omega
  rw [List.set_append_right _ _ (by omega), hl, Nat.sub_self, List.drop_eq_getElem_cons h2, List.set_cons_zero, show j + 1 - m = (j - m) + 1 by omega, upF_snoc]
  simp
  omega
theorem fillS_start {x : List Int} {m : Nat} (hm : m < x.length) : x.set m (x[m]?.getD 0 + 1) = fillS x m (m + 1) := by
  have := fillS_set (x := x) (m := m) (j := m) (Nat.le_refl _) hm
  rw [show m + 1 - m = 1 by omega] at this
  unfold fillS at this ⊢
  rw [← this]
  simp [upF]
theorem fillS_done {n k m : Nat} {x : List Int} (hl : x.length = k) (hk : k ≤ n) (hm : m < k) (ht : TailAt n k x (m + 1)) (hlt : x[m]?.getD 0 < (n : Int) - k + m) : nextS n x = some (fillS x m k) := by
  have h1 := tail_drop hl hk (by omega) ht
  have hml : m < x.length := by omega
  have hx : x = x.take m ++ x[m] :: upF ((n : Int) - (k - (m + 1) : Nat)) (k - (m + 1)) := by
    rw [← h1, ← List.drop_eq_getElem_cons hml, List.take_append_drop]
  have hd : x[m]?.getD 0 = x[m] := by rw [List.getElem?_eq_getElem hml]; rfl
  rw [hd] at hlt
  have h2 := nextS_at (n := (n : Int)) (m := k - (m + 1)) (d := x[m]) (by omega) (x.take m)
  rw [← hx] at h2
  rw [h2]
  unfold fillS
  rw [hd, List.drop_eq_nil_of_le (by omega), List.append_nil, show k - (m + 1) + 1 = k - m by omega]

theorem take_snoc_at {α : Type} {l : List α} {i : Nat} {x : α} (h : l[i]? = some x) : l.take i ++ [x] = l.take (i + 1) := by
  obtain ⟨hi, rfl⟩ := List.getElem?_eq_some_iff.1 h
  rw [List.take_succ_eq_append_getElem hi]
theorem take_all_at {α : Type} {l : List α} {i : Nat} {x : α} (h : l[i]? = some x) (hn : l[i + 1]? = none) : l.take (i + 1) = l := by
  exact List.take_of_length_le (List.getElem?_eq_none_iff.1 hn)
end Go.Proofs.Ytkmjeegnijohmaa

namespace Go.Proofs.Ytkmjeegnijohmaa
open Go.RowKit
set_option linter.unusedVariables false
attribute [local go_sem] Oper.semAt_some

theorem allI_upF (n : Nat) : allI n = upF 0 n := by
  have := upF_range n 0
  rw [show ((0 : Nat) : Int) = 0 from rfl] at this
  rw [this]
  unfold allI
  rw [List.range_eq_range']

set_option maxRecDepth 100000 in
set_option maxHeartbeats 4000000 in
theorem iter_sets (w0 : World) (n k kb nb : Nat) (hn : n ≤ 1000) (hk : k ≤ 1000) (hk1 : 1 ≤ k) (hkb : kb < w0.heap.size) (hnb : nb < w0.heap.size) (hf0 : w0.cell? ⟨kb, 0, none⟩ = some (.int .i64 k)) (hf1 : w0.cell? ⟨nb, 0, none⟩ = some (.int .i64 n)) :
    IterInts Try.prog 3 101 #[.pointer (some ⟨kb, 0, none⟩), .pointer (some ⟨nb, 0, none⟩)] (comb n k 0) (fun q => q = kb ∨ q = nb) w0 := by
  obtain ⟨xs, hxs⟩ : ∃ xs, xs = comb n k 0 := ⟨_, rfl⟩
  have hfacts : ∀ x ∈ xs, x.length = k ∧ x.Pairwise (· < ·) ∧ (∀ y ∈ x, y < (n : Int)) ∧ ∀ j : Nat, (0 : Int) ≤ x[j]?.getD 0 := fun x hx => by
    rw [hxs] at hx
    obtain ⟨h1, h2⟩ := comb_asc n k 0 x hx
    exact ⟨comb_len n k 0 x hx, h1, fun y hy => by have := (h2 y hy).2; omega, fun j => by
      rcases Nat.lt_or_ge j x.length with h | h
      · rw [List.getElem?_eq_getElem h]; have := (h2 _ (List.getElem_mem h)).1; simp; omega
      · rw [List.getElem?_eq_none h]; simp⟩
  have hchn : Chn n none xs := by rw [hxs]; have := comb_chn n k 0; rwa [Int.zero_add] at this
  have hhead : k ≤ n → xs[0]? = some (upF 0 k) := fun hkn => by
    rw [hxs]
    obtain ⟨t, ht⟩ := comb_head n k 0 hkn
    rw [ht]; rfl
  have hnil : ¬ k ≤ n → xs = [] := fun h => by rw [hxs]; exact comb_none n k 0 (by omega)
  rw [← hxs]
  have HF := hid hfacts
  have HC := hid hchn
  have HH := hid hhead
  have HNL := hid hnil
  clear hfacts hchn hhead hnil hxs
  intro l J Jx W hb hJ hY h0
  have hg0 : W.cell? ⟨kb, 0, none⟩ = some (.int .i64 k) := (hb.cell (p := ⟨kb, 0, none⟩) hkb).trans hf0
  have hg1 : W.cell? ⟨nb, 0, none⟩ = some (.int .i64 n) := (hb.cell (p := ⟨nb, 0, none⟩) hnb).trans hf1
  have hkW : kb < W.heap.size := Nat.lt_of_lt_of_le hkb hb.size
  have hnW : nb < W.heap.size := Nat.lt_of_lt_of_le hnb hb.size
  have HJ := hid hJ
  have HY := hid hY
  have H0 := hid h0
  have HALL := hid (all_c W k hk)
  clear hJ hY h0 hf0 hf1 hb
  refine callsIn_of_wp Try.func101 rfl trivial ?_ rfl
  simp only [Try.ntmps101, List.size_toArray, List.length_cons, List.length_nil, Nat.reduceAdd, Nat.reduceSub, Array.replicate_succ, Array.replicate_zero, List.push_toArray, List.append_toArray, List.nil_append, List.cons_append]
  gi_wp2_with (refine ⟨trivial, rfl, ?_⟩; gi_at_call 102; refine (callsIn_wide.2 HALL.out).mono ?_; rintro e w1 ⟨v, rfl, ho1, hb1⟩; refine Stop.of ?_)
  refine Stop.go ?_
  obtain ⟨it, cap, rfl, hit, hr1⟩ := spRow_own ho1 (allI_len k) hk1
  rw [allI_upF] at hr1
  have hJ1 : J it [] w1 := HJ.out it _ _ _ hit (H0.out it hit) (Keep.of_below hb1)
  have hkb1 := hb1.block kb hkW
  have hnb1 := hb1.block nb hnW
  have hs1 := hb1.size
  clear ho1 HALL
  by_cases hkn : k ≤ n
  · have hhead := HH.out hkn
    have hit1 := hr1.lt
    have HIT := hid hit
    clear hit
    gi_wp2
    gi_loopg [] xs.length (fun (g : Nat) wr => ∃ (i : Nat) (x : List Int), g = xs.length - i ∧ xs[i]? = some x ∧ J it (xs.take i) wr ∧ SpRow wr it x ∧ wr.heap[kb]? = W.heap[kb]? ∧ wr.heap[nb]? = W.heap[nb]? ∧ W.heap.size ≤ wr.heap.size)
    case atStart => exact ⟨0, upF 0 k, by omega, hhead, by rw [List.take_zero]; exact hJ1, hr1, hkb1, hnb1, hs1⟩
    case round =>
      obtain ⟨i, x, rfl, hx, hJk, hrk, hfk, hfn, hsz⟩ := hrel
      have hxm : x ∈ xs := List.mem_of_getElem? hx
      obtain ⟨hxl, hxp, hxb, hxn⟩ := HF.out x hxm
      have hil : i < xs.length := (List.getElem?_eq_some_iff.1 hx).1
      obtain ⟨sp, hrow⟩ := hrk
      have hyk := HY.out it (xs.take i) x cap sp wr (by rw [take_snoc_at hx]; exact List.take_prefix _ _) HIT.out (Array.getElem?_eq_some_iff.1 hrow).1 hJk hrow
      rw [hxl, take_snoc_at hx] at hyk
      have hw0 : wr.cell? ⟨kb, 0, none⟩ = some (.int .i64 k) := (World.cell?_of_block (a := ⟨kb, 0, none⟩) hfk).trans hg0
      have hw1 : wr.cell? ⟨nb, 0, none⟩ = some (.int .i64 n) := (World.cell?_of_block (a := ⟨nb, 0, none⟩) hfn).trans hg1
      have hkn' : (k : Int) ≤ (n : Int) := by omega
      have HRK := hid (show SpRow wr it x from ⟨sp, hrow⟩)
      have HFK := hid hfk
      have HFN := hid hfn
      have HX := hid hx
      have HXL := hid hxl
      have HXP := hid hxp
      have HXB := hid hxb
      have HXN := hid hxn
      clear hrow hJk hfk hfn hx hxm hxl hxp hxb hxn hhead hJ1 hr1 hkb1 hnb1
      obtain ⟨fn, tmps, assign, body, hy, hR⟩ := hyk
      gi_wp2
      refine ⟨rfl, hR.mono ?_⟩
      clear hR hy
      rintro e W3 (⟨rfl, hJ3, hs3, hk3⟩ | ⟨rfl, hJx⟩)
      · have hr3 : SpRow W3 it x := HRK.out.keep (hk3 it (Or.inr rfl))
        have hfk3 : W3.heap[kb]? = W.heap[kb]? := (hk3 kb (Or.inl (Or.inl rfl))).trans HFK.out
        have hfn3 : W3.heap[nb]? = W.heap[nb]? := (hk3 nb (Or.inl (Or.inr rfl))).trans HFN.out
        have hg30 : W3.cell? ⟨kb, 0, none⟩ = some (.int .i64 k) := (World.cell?_of_block (a := ⟨kb, 0, none⟩) hfk3).trans hg0
        have hg31 : W3.cell? ⟨nb, 0, none⟩ = some (.int .i64 n) := (World.cell?_of_block (a := ⟨nb, 0, none⟩) hfn3).trans hg1
        have HR3 := hid hr3
        have HK3 := hid hfk3
        have HN3 := hid hfn3
        have HJ3 := hid hJ3
        clear hr3 hfk3 hfn3 hJ3 hk3 hw0 hw1 HRK HFK HFN
        gi_wp2
        gi_loopw [5] (fun i5 wi => ∃ i0 : Int, i5 = .int .i64 i0 ∧ -1 ≤ i0 ∧ i0 < k ∧ TailAt n k x (i0 + 1).toNat ∧ Below W3.heap.size W3 wi) (fun i5 _ => (intOf i5 + 1).toNat)
        case atStart =>
          refine ⟨k - 1, by first | rfl | (congr 1), by omega, by omega, ?_, Below.refl _ _⟩
          intro j h1 h2
          omega
        case round =>
          obtain ⟨i0, rfl, hi1, hi2, hT, hbi⟩ := hrel
          have hgk : wr.cell? ⟨kb, 0, none⟩ = some (.int .i64 k) := (hbi.cell (p := ⟨kb, 0, none⟩) (by show kb < _; omega)).trans hg30
          have hgn : wr.cell? ⟨nb, 0, none⟩ = some (.int .i64 n) := (hbi.cell (p := ⟨nb, 0, none⟩) (by show nb < _; omega)).trans hg31
          have hri := HR3.out.keep (hbi.block it HR3.out.lt)
          have HBI := hid hbi
          clear hbi
          by_cases h0 : 0 ≤ i0
          · obtain ⟨m, rfl⟩ := Int.eq_ofNat_of_zero_le h0
            have e1 : ((m : Int) + 1).toNat = m + 1 := by omega
            rw [e1] at hT
            have hmk : m < k := by omega
            have hle := tail_le HXL.out HXP.out HXB.out hmk hT
            have hc : wr.cell? ⟨it, m, none⟩ = some (.int .i64 (x[m]?.getD 0)) := hri.cell (by rw [HXL.out]; exact hmk)
            have hw1 : wrap64 ((n : Int) - k) = (n : Int) - k := by unfold wrap64; omega
            have hw2 : wrap64 ((n : Int) - k + m) = (n : Int) - k + m := by unfold wrap64; omega
            have hz := hri.frozen m
            have hlt3 := hri.lt
            have HRI := hid hri
            clear hri
            have hm0 : (0 : Int) ≤ (m : Int) := by omega
            have hm1 : (m : Int) < (k : Int) := by omega
            have HT := hid hT
            by_cases he : x[m]?.getD 0 = (n : Int) - k + m
            · have hst := tail_step HXL.out hmk hT he
              have hbe : (x[m]?.getD 0 == (n : Int) - k + m) = true := by simpa using he
              have HST := hid hst
              clear he hst hT hle
              gi_wp2
              gi_quiet (fail)
              gi_wp2
              refine ⟨⟨(m : Int) - 1, rfl, by omega, by omega, ?_, below_drewN HBI.out nq⟩, ?_⟩
              · rw [show ((m : Int) - 1 + 1).toNat = m by omega]; exact HST.out
              · simp [intOf]
            · have hbe : (x[m]?.getD 0 == (n : Int) - k + m) = false := by simpa using he
              have hlt : x[m]?.getD 0 < (n : Int) - k + m := by omega
              have HLT := hid hlt
              clear he hT hle hlt
              gi_wp2
              gi_quiet (fail)
              have HRQ := hid (show SpRow (wr.drewN nq) it x from HRI.out)
              have HBQ := hid (below_drewN HBI.out nq)
              have hgk2 : (wr.drewN nq).cell? ⟨kb, 0, none⟩ = some (.int .i64 k) := hgk
              have hc2 : (wr.drewN nq).cell? ⟨it, m, none⟩ = some (.int .i64 (x[m]?.getD 0)) := hc
              have hz2 : (wr.drewN nq).frozen? ⟨it, m, none⟩ = false := hz
              have hlt2 : it < (wr.drewN nq).heap.size := hlt3
              clear HRI HBI hgk hgn hc hz hlt3
              generalize wr.drewN nq = w4 at HRQ HBQ hgk2 hc2 hz2 hlt2 ⊢
              have hv : wrap64 (x[m]?.getD 0 + 1) = x[m]?.getD 0 + 1 := by
                have h1 := HLT.out
                have h2 : (0 : Int) ≤ x[m]?.getD 0 := HXN.out m
                unfold wrap64; omega
              have HV := hid hv
              clear hv
              have HKS := hid (HRQ.out.set m (by rw [HXL.out]; exact hmk) (x[m]?.getD 0 + 1))
              rw [fillS_start (by rw [HXL.out]; exact hmk)] at HKS
              have HW9 := hid (show wrap64 ((m : Int) + 1) = ((m + 1 : Nat) : Int) by unfold wrap64; omega)
              gi_wp2
              gi_loopw [6] (fun v wj => ∃ j : Nat, m + 1 ≤ j ∧ j ≤ k ∧ v = .int .i64 j ∧ SpRow wj it (fillS x m j) ∧ Keep (fun q => q ≠ it) w4 wj) (fun v _ => k - (intOf v).toNat)
              case atStart => exact ⟨m + 1, Nat.le_refl _, by omega, by rw [show ((m : Int) + 1) = ((m + 1 : Nat) : Int) by omega], by have h := HKS.out; with_reducible (first | (rw [HV.out]; exact h) | exact h), Keep.set _ _ _ _⟩
              case round =>
                obtain ⟨j, hj1, hj2, rfl, hrj, hkj⟩ := hrel
                have hgj : wr.cell? ⟨kb, 0, none⟩ = some (.int .i64 k) := hkj.cell hgk2 (by have := HIT.out; omega)
                by_cases hjk : j < k
                · have hlen := fillS_len (m := m) (j := j) (x := x) (by omega) (show j ≤ x.length by rw [HXL.out]; omega)
                  have hget := fillS_get (x := x) (show m < j by omega) (by rw [HXL.out]; omega)
                  have hset := fillS_set (x := x) (show m ≤ j by omega) (by rw [HXL.out]; omega)
                  have hcj := hrj.cell (j := j - 1) (by rw [hlen, HXL.out]; omega)
                  rw [hget] at hcj
                  have hzj := hrj.frozen j
                  have hcj2 := hrj.cell (j := j) (by rw [hlen, HXL.out]; exact hjk)
                  obtain ⟨u, hu⟩ : ∃ u, u = (fillS x m j)[j]?.getD 0 := ⟨_, rfl⟩
                  rw [← hu] at hcj2
                  have hltj := hrj.lt
                  have hwj : wrap64 ((j : Int) - 1) = ((j - 1 : Nat) : Int) := by unfold wrap64; omega
                  have hwv : wrap64 (x[m]?.getD 0 + ((j - m : Nat) : Int) + 1) = x[m]?.getD 0 + ((j + 1 - m : Nat) : Int) := by
                    have h1 := HLT.out
                    have h2 : (0 : Int) ≤ x[m]?.getD 0 := HXN.out m
                    unfold wrap64; omega
                  have HSJ := hid (hrj.set j (by rw [hlen, HXL.out]; exact hjk) (x[m]?.getD 0 + ((j + 1 - m : Nat) : Int)))
                  rw [hset] at HSJ
                  have i1 : (0 : Int) ≤ ((j - 1 : Nat) : Int) := by omega
                  have i2 : ((j - 1 : Nat) : Int) < (k : Int) := by omega
                  have i3 : (0 : Int) ≤ (j : Int) := by omega
                  have i4 : (j : Int) < (k : Int) := by omega
                  have HKJ := hid hkj
                  obtain ⟨y, hy⟩ : ∃ y, y = x[m]?.getD 0 + ((j - m : Nat) : Int) := ⟨_, rfl⟩
                  obtain ⟨z, hz⟩ : ∃ z, z = x[m]?.getD 0 + ((j + 1 - m : Nat) : Int) := ⟨_, rfl⟩
                  rw [← hy, ← hz] at hwv
                  rw [← hy] at hcj
                  rw [← hz] at HSJ
                  obtain ⟨p, hp⟩ : ∃ p, p = j - 1 := ⟨_, rfl⟩
                  rw [← hp] at hcj hwj i1 i2
                  have hjp : (j : Int) - 1 = (p : Int) := by omega
                  clear hrj hkj hlen hget hset hy hz hp hu
                  gi_wp2
                  refine ⟨⟨j + 1, by omega, by omega, ?_, HSJ.out, HKJ.out.trans (Keep.set _ _ _ _)⟩, by simp [intOf]; omega⟩
                  rw [show ((j : Int) + 1) = ((j + 1 : Nat) : Int) by omega]
                · obtain rfl : j = k := by omega
                  have hnx := HC.out.at HX.out
                  rw [fillS_done HXL.out hkn hmk HT.out HLT.out] at hnx
                  have hi1 : i + 1 < xs.length := (List.getElem?_eq_some_iff.1 hnx).1
                  have HNX := hid hnx
                  have HKJ := hid hkj
                  have HRJ := hid hrj
                  clear hnx hkj hrj
                  gi_wp2
                  gi_roundg (xs.length - (i + 1))
                  case measure => omega
                  case rel =>
                    refine ⟨i + 1, fillS x m j, rfl, HNX.out, ?_, HRJ.out, ?_, ?_, ?_⟩
                    · exact HJ.out it _ W3 _ HIT.out HJ3.out ((Keep.of_below HBQ.out).trans HKJ.out)
                    · exact (HKJ.out.block kb (by have := HBQ.out.size; omega) (by have := HIT.out; omega)).trans ((HBQ.out.block kb (by omega)).trans HK3.out)
                    · exact (HKJ.out.block nb (by have := HBQ.out.size; omega) (by have := HIT.out; omega)).trans ((HBQ.out.block nb (by omega)).trans HN3.out)
                    · have := HKJ.out.size; have := HBQ.out.size; omega
          · obtain rfl : i0 = -1 := by omega
            have hn0 : decide ((0 : Int) ≤ -1) = false := by decide
            have HT := hid hT
            clear hT
            gi_wp2
            gi_quiet (fail)
            gi_wp2
            refine bodyPost_ret (results_none rfl _ _ _) rfl ?_
            refine ⟨⟨_, rfl⟩, .inl ⟨it, HIT.out, ?_⟩⟩
            have hnx := HC.out.at HX.out
            rw [next_none HXL.out hkn (by simpa using HT.out)] at hnx
            rw [← take_all_at HX.out hnx]
            exact HJ.out it _ W3 _ HIT.out HJ3.out (Keep.of_below (below_drewN HBI.out _))
      · gi_wp2
        refine bodyPost_ret (results_none rfl _ _ _) rfl ?_
        exact ⟨⟨_, rfl⟩, .inr ⟨_, List.take_prefix _ _, hJx⟩⟩
  · have HNIL := hid (HNL.out hkn)
    have hkb' : w1.cell? ⟨kb, 0, none⟩ = some (.int .i64 k) := (World.cell?_of_block (a := ⟨kb, 0, none⟩) hkb1).trans hg0
    have hnb' : w1.cell? ⟨nb, 0, none⟩ = some (.int .i64 n) := (World.cell?_of_block (a := ⟨nb, 0, none⟩) hnb1).trans hg1
    have hd : decide ((k : Int) ≤ (n : Int)) = false := by simp; omega
    have HJ1 := hid hJ1
    have HIT := hid hit
    clear hJ1 hit hr1
    gi_wp2
    gi_loopw [] (fun wr => ∃ q, wr = w1.drewN q) (fun _ => 0)
    case atStart => exact ⟨0, rfl⟩
    case round =>
      obtain ⟨q, rfl⟩ := hrel
      have hkb2 : (w1.drewN q).cell? ⟨kb, 0, none⟩ = some (.int .i64 k) := hkb'
      have hnb2 : (w1.drewN q).cell? ⟨nb, 0, none⟩ = some (.int .i64 n) := hnb'
      gi_wp2
      go_end0
      refine ⟨⟨_, rfl⟩, .inl ⟨it, HIT.out, ?_⟩⟩
      rw [HNIL.out]
      exact HJ.out it _ _ _ HIT.out HJ1.out ((Keep.refl _ _).drewN q)
end Go.Proofs.Ytkmjeegnijohmaa

namespace Go.Proofs.Ytkmjeegnijohmaa
open Go.RowKit
set_option linter.unusedVariables false

theorem sets_c (w : World) (n k : Int) :
    Calls Try.prog 97 #[.int .i64 n, .int .i64 k] w fun e w' => e = .returned (.func (.func 101) #[] #[.pointer (some ⟨w.heap.size + 1, 0, none⟩), .pointer (some ⟨w.heap.size, 0, none⟩)]) ∧
      w' = (w.alloc (.cells #[.int .i64 n] 3)).alloc (.cells #[.int .i64 k] 3) := by
  have hmf : ∀ (fn : Fn) (first cap : Array Value) (w : World), (Instr.makeFunc fn first cap).run Try.prog w = .ok (.func fn first cap) w := fun _ _ _ _ => rfl
  go_enter Try.func97, Try.ntmps97
  go_wp2
  go_ret
  exact ⟨by simp, rfl⟩
end Go.Proofs.Ytkmjeegnijohmaa

namespace Go.Proofs.Ytkmjeegnijohmaa
open Go.RowKit
set_option linter.unusedVariables false

def HeadV (W : World) (xs : List Value) (L : List (List Int)) : Prop :=
  xs.length = L.length ∧ ∀ j (hj : j < L.length), ∃ ra rn rc, xs[j]? = some (.slice ra rn rc) ∧ L[j].length = rn ∧ rn ≤ maxLen ∧ IntsAt W ra L[j]
theorem HeadV.nil (W : World) : HeadV W [] [] := ⟨rfl, fun j hj => by simp at hj⟩
theorem HeadV.below {W W' : World} {xs : List Value} {L : List (List Int)} (h : HeadV W xs L) (hb : Below W.heap.size W W') : HeadV W' xs L :=
  ⟨h.1, fun j hj => by obtain ⟨ra, rn, rc, h1, h2, h3, h4⟩ := h.2 j hj; exact ⟨ra, rn, rc, h1, h2, h3, h4.below hb⟩⟩
theorem HeadV.one {W : World} {ra : Option Addr} {rn rc : Nat} {l : List Int} (hn : l.length = rn) (hm : rn ≤ maxLen) (h : IntsAt W ra l) : HeadV W [.slice ra rn rc] [l] :=
  ⟨rfl, fun j hj => by
    obtain rfl : j = 0 := by simp at hj; omega
    exact ⟨ra, rn, rc, rfl, hn, hm, h⟩⟩
theorem HeadV.append {W : World} {xs ys : List Value} {L K : List (List Int)} (h : HeadV W xs L) (k : HeadV W ys K) : HeadV W (xs ++ ys) (L ++ K) := by
  refine ⟨by simp [h.1, k.1], fun j hj => ?_⟩
  by_cases e : j < L.length
  · obtain ⟨ra, rn, rc, h1, h2, h3, h4⟩ := h.2 j e
    refine ⟨ra, rn, rc, by rw [List.getElem?_append_left (by rw [h.1]; exact e)]; exact h1, ?_, h3, ?_⟩
    · rw [List.getElem_append_left e]; exact h2
    · rw [List.getElem_append_left e]; exact h4
  · have hj2 : j - L.length < K.length := by simp at hj; omega
    obtain ⟨ra, rn, rc, h1, h2, h3, h4⟩ := k.2 (j - L.length) hj2
    refine ⟨ra, rn, rc, by rw [List.getElem?_append_right (by rw [h.1]; omega), h.1]; exact h1, ?_, h3, ?_⟩
    · rw [List.getElem_append_right (by omega)]; exact h2
    · rw [List.getElem_append_right (by omega)]; exact h4
end Go.Proofs.Ytkmjeegnijohmaa

namespace Go.Proofs.Ytkmjeegnijohmaa
section
open Go.RowKit
set_option linter.unusedVariables false

def RowS (W : World) (v : Value) (l : List Int) : Prop :=
  (∃ g c, v = .slice (some ⟨g, 0, none⟩) l.length c ∧ SpRow W g l) ∨ (l = [] ∧ ∃ a c, v = .slice a 0 c)
theorem RowS.below {W W' : World} {v : Value} {l : List Int} (h : RowS W v l) (hb : Below W.heap.size W W') : RowS W' v l := by
  rcases h with ⟨g, c, rfl, hs⟩ | h
  · exact .inl ⟨g, c, rfl, hs.keep (hb.block g hs.lt)⟩
  · exact .inr h
def TabS (W : World) (base : Nat) (v : Value) (L : List (List Int)) : Prop :=
  ∃ vs, W.ownsRow base 25 1 v L.length vs ∧ ∀ j (hj : j < L.length), ∃ u, vs[j]? = some u ∧ RowS W u L[j]
theorem TabS.nil (W : World) (base : Nat) : TabS W base (.slice none 0 0) [] := ⟨[], World.ownsRow_nil _ _ _ _, fun j hj => by simp at hj⟩
theorem TabS.below {W W' : World} {base : Nat} {v : Value} {L : List (List Int)} (h : TabS W base v L) (hb : Below W.heap.size W W') : TabS W' base v L := by
  obtain ⟨vs, h1, h2⟩ := h
  refine ⟨vs, own_below h1 hb, fun j hj => ?_⟩
  obtain ⟨u, hu, hr⟩ := h2 j hj
  exact ⟨u, hu, hr.below hb⟩
theorem TabS.snoc {W w1 w3 : World} {base : Nat} {v v' u : Value} {L : List (List Int)} {r : List Int} {vs : List Value} (h1 : W.ownsRow base 25 1 v L.length vs)
    (h2 : ∀ j (hj : j < L.length), ∃ u, vs[j]? = some u ∧ RowS W u L[j]) (hb : Below W.heap.size W w1) (hr : RowS w1 u r) (hg : w1.grownBy w3 v.ownBlock)
    (ho' : w3.ownsRow base 25 1 v' (L.length + 1) (vs ++ [u])) : TabS w3 base v' (L ++ [r]) := by
  have hlen : vs.length = L.length := by have := h1.1; omega
  have hown : ∀ b, v.ownBlock = some b → ∃ c f, w1.heap[b]? = some (.cells c 25 f) := by
    intro b hb'
    rcases h1.2 with ⟨rfl, _⟩ | ⟨g, cap, cur, rfl, hbg, hgg, _⟩
    · simp [Value.ownBlock] at hb'
    · obtain rfl : g = b := by simpa [Value.ownBlock] using hb'
      exact ⟨cur, _, (hb.block g (Array.getElem?_eq_some_iff.1 hgg).1).trans hgg⟩
  have hold : ∀ b l, SpRow w1 b l → SpRow w3 b l := by
    intro b l hs
    refine hs.keep (hg.block b hs.lt ?_)
    intro e
    obtain ⟨c, f, hc⟩ := hown b e.symm
    obtain ⟨sp, hs⟩ := hs
    rw [hs] at hc
    simp at hc
  have hup : ∀ u l, RowS w1 u l → RowS w3 u l := by
    rintro u l (⟨g, c, rfl, hs⟩ | h)
    · exact .inl ⟨g, c, rfl, hold _ _ hs⟩
    · exact .inr h
  refine ⟨vs ++ [u], by simpa using ho', fun j hj => ?_⟩
  simp only [List.length_append, List.length_cons, List.length_nil, Nat.zero_add] at hj
  by_cases hjl : j < L.length
  · obtain ⟨u', hu', hr'⟩ := h2 j hjl
    rw [List.getElem_append_left hjl]
    exact ⟨u', by rw [List.getElem?_append_left (by omega)]; exact hu', hup _ _ (hr'.below hb)⟩
  · obtain rfl : j = L.length := by omega
    rw [List.getElem_append_right (Nat.le_refl _)]
    simp only [Nat.sub_self, List.getElem_cons_zero]
    exact ⟨u, by rw [List.getElem?_append_right (by omega), hlen]; simp, hup _ _ hr⟩
theorem TabS.at {W : World} {base n : Nat} {v : Value} {L : List (List Int)} (h : TabS W base v L) (hl : L.length = n) {i : Nat} (hi : i < n) :
    ∃ g0 cap u, v = .slice (some ⟨g0, 0, none⟩) n cap ∧ base ≤ g0 ∧ g0 < W.heap.size ∧ W.cell? ⟨g0, i, none⟩ = some u ∧ RowS W u (L[i]?.getD []) ∧ W.frozen? ⟨g0, i, none⟩ = false ∧
      ∀ u' r, RowS W u' r → TabS (W.setCell ⟨g0, i, none⟩ u') base v (L.set i r) ∧ ∀ k, k ≠ g0 → (W.setCell ⟨g0, i, none⟩ u').heap[k]? = W.heap[k]? := by
  subst hl
  obtain ⟨vs, h1, h2⟩ := h
  obtain ⟨u, hu, hr⟩ := h2 i hi
  rcases h1.2 with ⟨rfl, h0⟩ | ⟨g0, cap, cur, rfl, hbg, hgg, hnc, hcm, hsz, htk⟩
  · omega
  have hcell := World.ownsRow.cellAt (w := W) (base := base) (e := 25) (size := 1) (g := g0) (n := L.length) (cap := cap) (xs := vs) h1 i (by omega)
  have hvl : vs.length = L.length := by have := h1.1; omega
  refine ⟨g0, cap, u, rfl, hbg, (Array.getElem?_eq_some_iff.1 hgg).1, by rw [hcell]; exact hu, by rw [List.getElem?_eq_getElem hi]; exact hr, by simp [World.frozen?, hgg], ?_⟩
  intro u' r hr'
  have hkeep : ∀ k, k ≠ g0 → (W.setCell ⟨g0, i, none⟩ u').heap[k]? = W.heap[k]? := fun k hk => Below.heap_setCell _ _ _ _ hk
  have hup : ∀ u l, RowS W u l → RowS (W.setCell ⟨g0, i, none⟩ u') u l := by
    rintro u l (⟨g, c, rfl, hs⟩ | h)
    · refine .inl ⟨g, c, rfl, hs.keep (hkeep g ?_)⟩
      rintro rfl
      obtain ⟨sp, hs⟩ := hs
      rw [hgg] at hs
      cases hs
    · exact .inr h
  have hb2 : (W.setCell ⟨g0, i, none⟩ u').heap[g0]? = some (.cells (cur.setIfInBounds i u') 25 (0, 0)) := cells_set hgg i u'
  refine ⟨⟨vs.set i u', ⟨by simpa using h1.1, .inr ⟨g0, cap, cur.setIfInBounds i u', by simp, hbg, hb2, by simpa using hnc, hcm, by simpa using hsz, ?_⟩⟩, fun j hj => ?_⟩, hkeep⟩
  · rw [← htk]
    simp only [Array.toList_setIfInBounds, List.length_set, Nat.mul_one]
    rw [List.take_set]
  · have hj' : j < L.length := by simpa using hj
    by_cases e : i = j
    · subst e
      exact ⟨u', by simp [hvl, hj'], by simpa using hup _ _ hr'⟩
    · obtain ⟨u2, hu2, hr2⟩ := h2 j hj'
      exact ⟨u2, by rw [List.getElem?_set_ne e]; exact hu2, by rw [List.getElem_set_ne e]; exact hup _ _ hr2⟩
end

section
open Go.RowKit
set_option linter.unusedVariables false

theorem RowS.slice {W : World} {v : Value} {l : List Int} (h : RowS W v l) : ∃ a c, v = .slice a l.length c := by
  rcases h with ⟨g, c, rfl, _⟩ | ⟨rfl, a, c, rfl⟩
  · exact ⟨_, _, rfl⟩
  · exact ⟨_, _, rfl⟩
end

section
open Go.RowKit
set_option linter.unusedVariables false

def RowN (N : Option Nat) (W : World) (v : Value) (l : List Int) : Prop :=
  (∃ g c, v = .slice (some ⟨g, 0, none⟩) l.length c ∧ SpRow W g l ∧ N ≠ some g) ∨ (l = [] ∧ ∃ a c, v = .slice a 0 c)
theorem RowN.row {N : Option Nat} {W : World} {v : Value} {l : List Int} (h : RowN N W v l) : RowS W v l := by
  rcases h with ⟨g, c, e, hs, _⟩ | h
  · exact .inl ⟨g, c, e, hs⟩
  · exact .inr h
def KeepN (N : Option Nat) (W W' : World) : Prop := ∀ k c, W.heap[k]? = some (.cells c 3 (0, 0)) → N ≠ some k → W'.heap[k]? = W.heap[k]?
theorem RowN.keep {N : Option Nat} {W W' : World} {v : Value} {l : List Int} (h : RowN N W v l) (hk : KeepN N W W') : RowN N W' v l := by
  rcases h with ⟨g, c, e, hs, hne⟩ | h
  · refine .inl ⟨g, c, e, ?_, hne⟩
    obtain ⟨sp, hs'⟩ := id hs
    exact hs.keep (hk g _ hs' hne)
  · exact .inr h
theorem KeepN.below {N : Option Nat} {W W' : World} (hb : Below W.heap.size W W') : KeepN N W W' := fun k c h _ => hb.block k (Array.getElem?_eq_some_iff.1 h).1
def TabN (N : Option Nat) (W : World) (base : Nat) (v : Value) (L : List (List Int)) : Prop :=
  ∃ vs, W.ownsRow base 25 1 v L.length vs ∧ ∀ j (hj : j < L.length), ∃ u, vs[j]? = some u ∧ RowN N W u L[j]
theorem TabN.nil (N : Option Nat) (W : World) (base : Nat) : TabN N W base (.slice none 0 0) [] := ⟨[], World.ownsRow_nil _ _ _ _, fun j hj => by simp at hj⟩
theorem own_kept {W W' : World} {base size n : Nat} {T : TypeId} {v : Value} {xs : List Value} (h : W.ownsRow base T size v n xs) (hk : ∀ k, v.ownBlock = some k → k < W.heap.size → W'.heap[k]? = W.heap[k]?) : W'.ownsRow base T size v n xs := by
  refine ⟨h.1, ?_⟩
  rcases h.2 with hn | ⟨g, cap, cur, rfl, hbg, hgg, rest⟩
  · exact .inl hn
  · exact .inr ⟨g, cap, cur, rfl, hbg, (hk g rfl (Array.getElem?_eq_some_iff.1 hgg).1).trans hgg, rest⟩
theorem own_low {W : World} {base b0 size n : Nat} {T : TypeId} {v : Value} {xs : List Value} (h : W.ownsRow base T size v n xs) (hb : b0 ≤ base) : W.ownsRow b0 T size v n xs := by
  refine ⟨h.1, ?_⟩
  rcases h.2 with hn | ⟨g, cap, cur, rfl, hbg, rest⟩
  · exact .inl hn
  · exact .inr ⟨g, cap, cur, rfl, Nat.le_trans hb hbg, rest⟩
theorem own_type {W : World} {base size n k : Nat} {T : TypeId} {v : Value} {xs : List Value} (h : W.ownsRow base T size v n xs) (hk : v.ownBlock = some k) : base ≤ k ∧ ∃ c, W.heap[k]? = some (.cells c T (0, 0)) := by
  rcases h.2 with ⟨rfl, _⟩ | ⟨g, cap, cur, rfl, hbg, hgg, _⟩
  · simp [Value.ownBlock] at hk
  · obtain rfl : g = k := by simpa [Value.ownBlock] using hk
    exact ⟨hbg, cur, hgg⟩
theorem TabN.type {N : Option Nat} {W : World} {base k : Nat} {v : Value} {L : List (List Int)} (h : TabN N W base v L) (hk : v.ownBlock = some k) : base ≤ k ∧ k < W.heap.size ∧ ∃ c, W.heap[k]? = some (.cells c 25 (0, 0)) := by
  obtain ⟨vs, h1, _⟩ := h
  obtain ⟨h2, c, h3⟩ := own_type h1 hk
  exact ⟨h2, (Array.getElem?_eq_some_iff.1 h3).1, c, h3⟩
theorem TabN.low {N : Option Nat} {W : World} {base b0 : Nat} {v : Value} {L : List (List Int)} (h : TabN N W base v L) (hb : b0 ≤ base) : TabN N W b0 v L := by
  obtain ⟨vs, h1, h2⟩ := h
  exact ⟨vs, own_low h1 hb, h2⟩
theorem TabN.keep {N : Option Nat} {W W' : World} {base : Nat} {v : Value} {L : List (List Int)} (h : TabN N W base v L) (hk : KeepN N W W') (ho : ∀ k, v.ownBlock = some k → k < W.heap.size → W'.heap[k]? = W.heap[k]?) : TabN N W' base v L := by
  obtain ⟨vs, h1, h2⟩ := h
  refine ⟨vs, own_kept h1 ho, fun j hj => ?_⟩
  obtain ⟨u, hu, hr⟩ := h2 j hj
  exact ⟨u, hu, hr.keep hk⟩
theorem TabN.below {N : Option Nat} {W W' : World} {base : Nat} {v : Value} {L : List (List Int)} (h : TabN N W base v L) (hb : Below W.heap.size W W') : TabN N W' base v L :=
  h.keep (KeepN.below hb) fun k _ hk => hb.block k hk
theorem TabN.other {N N' : Option Nat} {W : World} {base : Nat} {v : Value} {L : List (List Int)} (h : TabN N W base v L) (hN : N' = N ∨ N' = some W.heap.size) : TabN N' W base v L := by
  obtain ⟨vs, h1, h2⟩ := h
  refine ⟨vs, h1, fun j hj => ?_⟩
  obtain ⟨u, hu, hr⟩ := h2 j hj
  refine ⟨u, hu, ?_⟩
  rcases hr with ⟨g, c, e, hs, hne⟩ | hr
  · refine .inl ⟨g, c, e, hs, ?_⟩
    rcases hN with rfl | rfl
    · exact hne
    · intro e
      have h1 : W.heap.size = g := by simpa using e
      have := hs.lt
      omega
  · exact .inr hr
theorem TabN.piv {W W' : World} {base b2 n : Nat} {v p p' : Value} {xs : List Value} {L : List (List Int)} (h : TabN p.ownBlock W base v L) (hg : W.grownBy W' p.ownBlock) (hat : p'.ownBlock = p.ownBlock ∨ p'.ownBlock = some W.heap.size)
    (hP : W.ownsRow b2 3 1 p n xs) : TabN p'.ownBlock W' base v L := by
  have h1 : TabN p.ownBlock W' base v L := by
    refine h.keep (fun k c hk hne => hg.block k (Array.getElem?_eq_some_iff.1 hk).1 (fun e => hne e.symm)) fun k hk hlt => hg.block k hlt fun e => ?_
    obtain ⟨_, _, c, hc⟩ := h.type hk
    obtain ⟨_, c2, hc2⟩ := own_type hP e.symm
    rw [hc] at hc2
    cases hc2
  have hlt : ∀ u l, RowN p.ownBlock W u l → RowN p'.ownBlock W' u l := by
    intro u l hr
    rcases hr with ⟨g, c, e, hs, hne⟩ | hr
    · refine .inl ⟨g, c, e, ?_, ?_⟩
      · obtain ⟨sp, hs'⟩ := id hs
        exact hs.keep (hg.block g hs.lt (fun e => hne e.symm))
      · rcases hat with hat | hat
        · rw [hat]; exact hne
        · rw [hat]; intro e
          have h1 : W.heap.size = g := by simpa using e
          have := hs.lt
          omega
    · exact .inr hr
  obtain ⟨vs, h2, h3⟩ := h
  obtain ⟨vs', h4, _⟩ := h1
  refine ⟨vs, own_kept h2 fun k hk hlt' => hg.block k hlt' fun e => ?_, fun j hj => ?_⟩
  · obtain ⟨_, c, hc⟩ := own_type h2 hk
    obtain ⟨_, c2, hc2⟩ := own_type hP e.symm
    rw [hc] at hc2
    cases hc2
  · obtain ⟨u, hu, hr⟩ := h3 j hj
    exact ⟨u, hu, hlt _ _ hr⟩
theorem TabN.beside {N : Option Nat} {W W' : World} {base : Nat} {v : Value} {L : List (List Int)} (h : TabN N W base v L) {g0 : Option Nat} (hk : ∀ k, k < W.heap.size → g0 ≠ some k → W'.heap[k]? = W.heap[k]?)
    (hg : ∀ k, g0 = some k → ∃ c, W.heap[k]? = some (.cells c 25 (0, 0))) (hne : ∀ k, g0 = some k → v.ownBlock ≠ some k) : TabN N W' base v L := by
  refine h.keep (fun k c hc hn => hk k (Array.getElem?_eq_some_iff.1 hc).1 fun e => ?_) fun k hv hlt => hk k hlt fun e => hne k e hv
  obtain ⟨c2, h2⟩ := hg k e
  rw [h2] at hc
  cases hc
theorem TabN.snoc {N : Option Nat} {w1 w3 : World} {base : Nat} {v v' u : Value} {L : List (List Int)} {r : List Int} {vs : List Value} (h1 : w1.ownsRow base 25 1 v L.length vs)
    (h2 : ∀ j (hj : j < L.length), ∃ u, vs[j]? = some u ∧ RowN N w1 u L[j]) (hr : RowN N w1 u r) (hg : w1.grownBy w3 v.ownBlock)
    (ho' : w3.ownsRow base 25 1 v' (L.length + 1) (vs ++ [u])) : TabN N w3 base v' (L ++ [r]) := by
  have hlen : vs.length = L.length := by have := h1.1; omega
  have hK : KeepN N w1 w3 := fun k c hc hn => hg.block k (Array.getElem?_eq_some_iff.1 hc).1 fun e => by
    obtain ⟨_, c2, h2⟩ := own_type h1 e.symm
    rw [h2] at hc
    cases hc
  refine ⟨vs ++ [u], by simpa using ho', fun j hj => ?_⟩
  simp only [List.length_append, List.length_cons, List.length_nil, Nat.zero_add] at hj
  by_cases hjl : j < L.length
  · obtain ⟨u', hu', hr'⟩ := h2 j hjl
    rw [List.getElem_append_left hjl]
    exact ⟨u', by rw [List.getElem?_append_left (by omega)]; exact hu', hr'.keep hK⟩
  · obtain rfl : j = L.length := by omega
    rw [List.getElem_append_right (Nat.le_refl _)]
    simp only [Nat.sub_self, List.getElem_cons_zero]
    exact ⟨u, by rw [List.getElem?_append_right (by omega), hlen]; simp, hr.keep hK⟩
theorem TabN.at {N : Option Nat} {W : World} {base n : Nat} {v : Value} {L : List (List Int)} (h : TabN N W base v L) (hl : L.length = n) {i : Nat} (hi : i < n) :
    ∃ g0 cap u, v = .slice (some ⟨g0, 0, none⟩) n cap ∧ base ≤ g0 ∧ g0 < W.heap.size ∧ (∃ c, W.heap[g0]? = some (.cells c 25 (0, 0))) ∧ W.cell? ⟨g0, i, none⟩ = some u ∧ RowN N W u (L[i]?.getD []) ∧ W.frozen? ⟨g0, i, none⟩ = false ∧
      ∀ u' r, RowN N W u' r → TabN N (W.setCell ⟨g0, i, none⟩ u') base v (L.set i r) ∧ ∀ k, k ≠ g0 → (W.setCell ⟨g0, i, none⟩ u').heap[k]? = W.heap[k]? := by
  subst hl
  obtain ⟨vs, h1, h2⟩ := h
  obtain ⟨u, hu, hr⟩ := h2 i hi
  rcases h1.2 with ⟨rfl, h0⟩ | ⟨g0, cap, cur, rfl, hbg, hgg, hnc, hcm, hsz, htk⟩
  · omega
  have hcell := World.ownsRow.cellAt (w := W) (base := base) (e := 25) (size := 1) (g := g0) (n := L.length) (cap := cap) (xs := vs) h1 i (by omega)
  have hvl : vs.length = L.length := by have := h1.1; omega
  refine ⟨g0, cap, u, rfl, hbg, (Array.getElem?_eq_some_iff.1 hgg).1, ⟨cur, hgg⟩, by rw [hcell]; exact hu, by rw [List.getElem?_eq_getElem hi]; exact hr, by simp [World.frozen?, hgg], ?_⟩
  intro u' r hr'
  have hkeep : ∀ k, k ≠ g0 → (W.setCell ⟨g0, i, none⟩ u').heap[k]? = W.heap[k]? := fun k hk => Below.heap_setCell _ _ _ _ hk
  have hK : KeepN N W (W.setCell ⟨g0, i, none⟩ u') := fun k c hc hn => hkeep k fun e => by
    subst e
    rw [hgg] at hc
    cases hc
  have hb2 : (W.setCell ⟨g0, i, none⟩ u').heap[g0]? = some (.cells (cur.setIfInBounds i u') 25 (0, 0)) := cells_set hgg i u'
  refine ⟨⟨vs.set i u', ⟨by simpa using h1.1, .inr ⟨g0, cap, cur.setIfInBounds i u', by simp, hbg, hb2, by simpa using hnc, hcm, by simpa using hsz, ?_⟩⟩, fun j hj => ?_⟩, hkeep⟩
  · rw [← htk]
    simp only [Array.toList_setIfInBounds, List.length_set, Nat.mul_one]
    rw [List.take_set]
  · have hj' : j < L.length := by simpa using hj
    by_cases e : i = j
    · subst e
      exact ⟨u', by simp [hvl, hj'], by simpa using hr'.keep hK⟩
    · obtain ⟨u2, hu2, hr2⟩ := h2 j hj'
      exact ⟨u2, by rw [List.getElem?_set_ne e]; exact hu2, by rw [List.getElem_set_ne e]; exact hr2.keep hK⟩
end

section
open Go.RowKit
set_option linter.unusedVariables false

def castL (l : List Nat) : List Int := l.map (fun j : Nat => (j : Int))
def RedI (w wr : World) (L : List (List Int)) (j : Nat) (l d p : Value) : Prop :=
  TabN p.ownBlock wr w.heap.size l (rRed L j).left ∧ TabN p.ownBlock wr w.heap.size d (rRed L j).done ∧ wr.ownsRow w.heap.size 3 1 p (rRed L j).piv.length ((castL (rRed L j).piv).map (Value.int .i64)) ∧ Below w.heap.size w wr
structure RedS (w : World) (R0 : Nat) (wr : World) (l d r q p : Value) (left done rest : List (List Int)) (P : List Int) (J : List Nat) : Prop where
  hl : TabN p.ownBlock wr w.heap.size l left
  hd : TabN p.ownBlock wr w.heap.size d done
  hr : TabN p.ownBlock wr R0 r rest
  hq : RowN p.ownBlock wr q P
  hp : wr.ownsRow w.heap.size 3 1 p J.length ((castL J).map (Value.int .i64))
  hb : Below w.heap.size w wr
  hR : R0 ≤ wr.heap.size
  hw : w.heap.size ≤ R0
  lR : ∀ k, l.ownBlock = some k → k < R0
  dR : ∀ k, d.ownBlock = some k → k < R0
  pR : ∀ k, p.ownBlock = some k → k < R0
theorem RedS.below {w : World} {R0 : Nat} {A B : World} {l d r q p : Value} {left done rest : List (List Int)} {P : List Int} {J : List Nat} (h : RedS w R0 A l d r q p left done rest P J) (hb : Below A.heap.size A B) : RedS w R0 B l d r q p left done rest P J :=
  ⟨h.hl.below hb, h.hd.below hb, h.hr.below hb, h.hq.keep (KeepN.below hb), own_below h.hp hb, chain h.hb hb, Nat.le_trans h.hR hb.size, h.hw, h.lR, h.dR, h.pR⟩
theorem TabN.lt {N : Option Nat} {W : World} {base : Nat} {v : Value} {L : List (List Int)} (h : TabN N W base v L) {k : Nat} (hk : v.ownBlock = some k) : k < W.heap.size := (h.type hk).2.1
theorem RedS.start {w wr : World} {L : List (List Int)} {j : Nat} {l d p q : Value} {P : List Int} (h : RedI w wr L j l d p) (hq : RowN p.ownBlock wr q P) : RedS w wr.heap.size wr l d (.slice none 0 0) q p (rRed L j).left (rRed L j).done [] P (rRed L j).piv :=
  ⟨h.1, h.2.1, TabN.nil _ _ _, hq, h.2.2.1, h.2.2.2, Nat.le_refl _, h.2.2.2.size, fun k hk => h.1.lt hk, fun k hk => h.2.1.lt hk, fun k hk => by
    obtain ⟨_, c, hc⟩ := own_type h.2.2.1 hk
    exact (Array.getElem?_eq_some_iff.1 hc).1⟩
theorem RedS.push {w : World} {R0 : Nat} {A B : World} {l d r q p u r' : Value} {left done rest : List (List Int)} {P x : List Int} {J : List Nat} {vs : List Value} (h : RedS w R0 A l d r q p left done rest P J)
    (h1 : A.ownsRow R0 25 1 r rest.length vs) (h2 : ∀ j (hj : j < rest.length), ∃ u, vs[j]? = some u ∧ RowN p.ownBlock A u rest[j]) (hu : RowN p.ownBlock A u x) (hg : A.grownBy B r.ownBlock)
    (ho : B.ownsRow R0 25 1 r' (rest.length + 1) (vs ++ [u])) : RedS w R0 B l d r' q p left done (rest ++ [x]) P J := by
  have hge : ∀ k, r.ownBlock = some k → R0 ≤ k := fun k hk => (own_type h1 hk).1
  have hgt : ∀ k, r.ownBlock = some k → ∃ c, A.heap[k]? = some (.cells c 25 (0, 0)) := fun k hk => (own_type h1 hk).2
  have hk : ∀ k, k < A.heap.size → r.ownBlock ≠ some k → B.heap[k]? = A.heap[k]? := fun k hlt hne => hg.block k hlt fun e => hne e.symm
  have hK : KeepN p.ownBlock A B := fun k c hc _ => hk k (Array.getElem?_eq_some_iff.1 hc).1 fun e => by
    obtain ⟨c2, h2⟩ := hgt k e
    rw [h2] at hc; cases hc
  refine ⟨h.hl.beside hk hgt fun k e e2 => ?_, h.hd.beside hk hgt fun k e e2 => ?_, TabN.snoc h1 h2 hu hg ho, h.hq.keep hK, own_kept h.hp fun k e hlt => hk k hlt fun e2 => ?_, ?_, Nat.le_trans h.hR hg.size, h.hw, h.lR, h.dR, h.pR⟩
  · have := h.lR k e2; have := hge k e; omega
  · have := h.dR k e2; have := hge k e; omega
  · have := h.pR k e; have := hge k e2; omega
  · exact h.hb.grown hg (Nat.le_trans h.hw h.hR) fun k e => Nat.le_trans h.hw (hge k e)
end
end Go.Proofs.Ytkmjeegnijohmaa

namespace Go.Proofs.Ytkmjeegnijohmaa
open Go.RowKit
set_option linter.unusedVariables false

theorem RowN.sp {N : Option Nat} {X : World} {g n c : Nat} {P : List Int} (h : RowN N X (.slice (some ⟨g, 0, none⟩) n c) P) (h0 : 0 < P.length) : SpRow X g P := by
  rcases h with ⟨g', c', e, hs, _⟩ | ⟨rfl, _⟩
  · cases e; exact hs
  · simp at h0
theorem RedS.drop {w : World} {R0 : Nat} {A : World} {l d r q p : Value} {left done rest : List (List Int)} {P : List Int} {J : List Nat} (h : RedS w R0 A l d r q p left done rest P J) : RedS w R0 A (.slice none 0 0) d r q p [] done rest P J :=
  ⟨TabN.nil _ _ _, h.hd, h.hr, h.hq, h.hp, h.hb, h.hR, h.hw, fun k hk => by simp [Value.ownBlock] at hk, h.dR, h.pR⟩

end Go.Proofs.Ytkmjeegnijohmaa

namespace Go.Proofs.Ytkmjeegnijohmaa
open Go.RowKit
set_option linter.unusedVariables false

theorem pwithin_c (n lo hi : Int) (w : World) : Calls Try.prog 92 #[.int .i64 n, .int .i64 lo, .int .i64 hi] w fun e w' => e = .returned (.bool (inB n lo hi)) ∧ w = w' := by
  by_cases h1 : lo ≤ n <;> by_cases h2 : n ≤ hi
  all_goals
    go_enter Try.func92, Try.ntmps92
    go_wp2
    go_ret
    exact ⟨ret_bool (by simp [inB, h1, h2]), rfl⟩

theorem beyond1 (w : World) (b : Nat) (m : Int) (hm : 0 ≤ m ∧ m ≤ 1000000000) (hc : w.cell? ⟨b, 0, none⟩ = some (.int .i64 m)) (hb : b < w.heap.size) :
    PredI Try.prog 106 #[.pointer (some ⟨b, 0, none⟩)] w (fun n => !(inB n (-m) m)) := by
  intro x W hW
  have hc' : W.cell? ⟨b, 0, none⟩ = some (.int .i64 m) := (hW.cell (p := ⟨b, 0, none⟩) hb).trans hc
  obtain ⟨z, hz⟩ : ∃ z, z = -m := ⟨_, rfl⟩
  have hw : IntKind.i64.wrap (-m) = z := by rw [hz]; exact IntWalk.i64_in _ (by omega)
  rw [← hz]
  obtain ⟨B, hB⟩ : ∃ B, B = inB x z m := ⟨_, rfl⟩
  have HP := hid (pwithin_c x z m W)
  rw [← hB] at HP
  simp only [← hB]
  clear hB hc hz
  show Calls Try.prog 106 #[.int .i64 x, .pointer (some ⟨b, 0, none⟩)] W _
  go_enter Try.func106, Try.ntmps106
  go_wp2_with (go_at_call 92; refine HP.out.mono ?_; rintro e w1 ⟨rfl, rfl⟩)
  go_ret
  exact ⟨rfl, Below.refl _ _⟩

def milB (l : List Int) : Bool := l.all (fun n => inB n (-1000000) 1000000)

def dotV (r h : List Int) : Int := sm (fun c => vec r c * vec h c) r.length
theorem dot_le {r h : List Int} (hr : BndL 67108864 r) (hh : BndL 67108864 h) : ∀ k : Nat, (sm (fun c => vec r c * vec h c) k).natAbs ≤ k * 4503599627370496
  | 0 => by simp [sm]
  | k + 1 => by
    have h1 := dot_le hr hh k
    have h2 : (vec r k).natAbs ≤ 67108864 := by have := vec_mem (P := fun x => -((67108864 : Nat) : Int) ≤ x ∧ x ≤ ((67108864 : Nat) : Int)) (by decide) hr k; omega
    have h3 : (vec h k).natAbs ≤ 67108864 := by have := vec_mem (P := fun x => -((67108864 : Nat) : Int) ≤ x ∧ x ≤ ((67108864 : Nat) : Int)) (by decide) hh k; omega
    have h4 : (vec r k * vec h k).natAbs ≤ 67108864 * 67108864 := by rw [Int.natAbs_mul]; exact Nat.mul_le_mul h2 h3
    show (sm (fun c => vec r c * vec h c) k + vec r k * vec h k).natAbs ≤ _
    omega

end Go.Proofs.Ytkmjeegnijohmaa

namespace Go.Proofs.Ytkmjeegnijohmaa
open Go.RowKit
set_option linter.unusedVariables false

theorem any_mil (h : List Int) : h.any (fun n => !(inB n (-1000000) 1000000)) = !milB h := by unfold milB; rw [List.not_all_eq_any_not]
theorem beyond_c (w : World) (m : Int) : Calls Try.prog 99 #[.int .i64 m] w fun e w' => ∃ b, e = .returned (.func (.func 106) #[] #[.pointer (some ⟨b, 0, none⟩)]) ∧ w'.cell? ⟨b, 0, none⟩ = some (.int .i64 m) ∧ b < w'.heap.size ∧ Below w.heap.size w w' := by
  go_enter Try.func99, Try.ntmps99
  go_wp2
  go_ret
  exact ⟨w.heap.size, rfl, by rw [World.cell?_alloc_at _ _ _ _ rfl]; rfl, by simp, (Below.refl _ _).alloc (Nat.le_refl _) _⟩

end Go.Proofs.Ytkmjeegnijohmaa

namespace Go.Proofs.Ytkmjeegnijohmaa
open Go.RowKit
set_option linter.unusedVariables false

def Marks (b : Nat) : Nat → List Deferred → World → Prop
  | _, [], _ => True
  | top, d :: ds, w => ∃ h, b ≤ h ∧ h < top ∧ d = { target := .collected h, args := #[] } ∧ w.heap[h]? = some (.deferred (some [])) ∧ Marks b h ds w

theorem Marks.keep {b : Nat} {S : Nat → Prop} {A B : World} (hk : Keep S A B) : ∀ {top : Nat} {D : List Deferred}, (∀ k, k < A.heap.size → b ≤ k → k < top → A.heap[k]? = some (.deferred (some [])) → S k) → Marks b top D A → Marks b top D B
  | _, [], _, _ => trivial
  | top, d :: ds, hS, h => by
    obtain ⟨k, h1, h2, h3, h4, h5⟩ := h
    have hlt := (Array.getElem?_eq_some_iff.1 h4).1
    exact ⟨k, h1, h2, h3, (hk.block k hlt (hS k hlt h1 h2 h4)).trans h4, Marks.keep hk (fun q hq hb hqk => hS q hq hb (by omega)) h5⟩
theorem Marks.lt {b : Nat} {A : World} : ∀ {top : Nat} {D : List Deferred}, Marks b top D A → Marks b A.heap.size D A
  | _, [], _ => trivial
  | top, d :: ds, ⟨k, h1, h2, h3, h4, h5⟩ => ⟨k, h1, (Array.getElem?_eq_some_iff.1 h4).1, h3, h4, h5⟩
theorem Marks.up {b top t2 : Nat} {D : List Deferred} {A : World} (h : Marks b top D A) (ht : top ≤ t2) : Marks b t2 D A := by
  cases D with
  | nil => trivial
  | cons d ds =>
    obtain ⟨k, h1, h2, h3⟩ := h
    exact ⟨k, h1, by omega, h3⟩
theorem Marks.below {b k top : Nat} {D : List Deferred} {A : World} (hk : top ≤ k) : ∀ (o : Obj), Marks b top D A → Marks b top D (A.putObj k o) := fun o h => by
  induction D generalizing top with
  | nil => trivial
  | cons d ds ih =>
    obtain ⟨q, h1, h2, h3, h4, h5⟩ := h
    exact ⟨q, h1, h2, h3, (World.putObj_heap_other (by omega)).trans h4, ih (by omega) h5⟩

end Go.Proofs.Ytkmjeegnijohmaa

namespace Go.Proofs.Ytkmjeegnijohmaa
open Go.RowKit
set_option linter.unusedVariables false
attribute [local go_sem] Oper.semAt_some

theorem RowsO.lt {E T : TypeId} {W : World} {base : Nat} {S : Nat → Prop} {v : Value} {ls : List (List Int)} (h : RowsO E T W base S v ls) : RowsO E T W base (fun b => S b ∧ b < W.heap.size) v ls := by
  obtain ⟨vs, ho, hg, he⟩ := h
  refine ⟨vs, ho, fun k hk => ⟨hg k hk, (ho.lt k hk).2⟩, fun j hj => ?_⟩
  obtain ⟨u, hu, a, n, cap, e, hn, hm, hel⟩ := he j hj
  refine ⟨u, hu, a, n, cap, e, hn, hm, fun i hi => ?_⟩
  obtain ⟨b, off, e, hS, hlt, rest⟩ := hel i hi
  exact ⟨b, off, e, ⟨hS, hlt⟩, hlt, rest⟩
theorem RowsO.mono {E T : TypeId} {W : World} {base : Nat} {S S' : Nat → Prop} {v : Value} {ls : List (List Int)} (h : RowsO E T W base S v ls) (hs : ∀ b, S b → S' b) : RowsO E T W base S' v ls := by
  obtain ⟨vs, ho, hg, he⟩ := h
  refine ⟨vs, ho, fun k hk => hs _ (hg k hk), fun j hj => ?_⟩
  obtain ⟨u, hu, a, n, cap, e, hn, hm, hel⟩ := he j hj
  refine ⟨u, hu, a, n, cap, e, hn, hm, fun i hi => ?_⟩
  obtain ⟨b, off, e, hS, hlt, rest⟩ := hel i hi
  exact ⟨b, off, e, hs _ hS, hlt, rest⟩
theorem comb_count : ∀ (m k : Nat) (a : Int), (comb m k a).length ≤ 2 ^ m
  | 0, 0, a => Nat.le_refl _
  | m + 1, 0, a => Nat.one_le_two_pow
  | 0, k + 1, a => by simp [comb]
  | m + 1, k + 1, a => by
    simp only [comb, List.length_append, List.length_map]
    have h1 := comb_count m k (a + 1)
    have h2 := comb_count m (k + 1) (a + 1)
    rw [Nat.pow_succ]; omega
theorem ints_row {W : World} {it : Nat} {x : List Int} {sp : List Value} {E : TypeId} (h : W.heap[it]? = some (.cells (x.map (Value.int .i64) ++ sp).toArray E (0, 0))) : IntsAt W (some ⟨it, 0, none⟩) x := by
  intro j hj
  refine ⟨it, 0, rfl, (Array.getElem?_eq_some_iff.1 h).1, ?_⟩
  rw [Nat.zero_add]
  simp [World.cell?, h, List.getElem?_append_left, hj]
theorem ElemI.sp {W : World} {base g cap : Nat} {S : Nat → Prop} {l : List Int} (h : SpRow W g l) (hm : l.length ≤ maxLen) (hS : S g) : ElemI 3 W base S (.slice (some ⟨g, 0, none⟩) l.length cap) l := by
  refine ⟨_, _, cap, rfl, rfl, hm, fun j hj => ⟨g, 0, rfl, hS, h.lt, ?_, ?_⟩⟩
  · obtain ⟨sp, h⟩ := h
    exact .inr ⟨_, _, h⟩
  · rw [Nat.zero_add]; exact h.cell hj
def SIt (o Z it b : Nat) : Prop := b ≠ o ∧ b ≠ Z ∧ b ≠ Z + 1 ∧ b ≠ Z + 2 ∧ b ≠ Z + 3 ∧ b ≠ it

def CircI (w : World) (q1 q6 q7 base Z it : Nat) (mv : Value) (W : Nat) (D : List Deferred) (L : List (List Int)) (Y : World) : Prop :=
  ∃ v, Boxed Y q1 23 mv ∧ Boxed Y q6 3 (.int .i64 W) ∧ Boxed Y q7 22 v ∧ Below w.heap.size w Y ∧ Z + 2 ≤ Y.heap.size ∧ RowsO 3 25 Y base (SIt q7 Z it) v L ∧ Marks base Z D Y ∧ (∃ u, Boxed Y Z 3 u) ∧ ∃ u, Boxed Y (Z + 1) 3 u
theorem CircI.keep {w : World} {q1 q6 q7 base Z it it2 : Nat} {mv : Value} {W : Nat} {D : List Deferred} {L : List (List Int)} {A B : World} (h : CircI w q1 q6 q7 base Z it mv W D L A) (hk : Keep (fun k => k ≠ Z + 2 ∧ k ≠ Z + 2 + 1 ∧ k ≠ it2) A B)
    (h1 : q1 < Z) (h6 : q6 < Z) (h7 : q7 < Z) (hw : w.heap.size ≤ Z) (hi : Z + 4 ≤ it2) (e : it = it2) : CircI w q1 q6 q7 base Z it mv W D L B := by
  subst e
  obtain ⟨v, y1, y6, y7, yB, yS, yR, yD, ⟨u0, z0⟩, u1, z1⟩ := h
  refine ⟨v, (hk.block _ y1.lt (by omega)).trans y1, (hk.block _ y6.lt (by omega)).trans y6, (hk.block _ y7.lt (by omega)).trans y7, hk.below yB (by omega) (fun k _ => by omega), Nat.le_trans yS hk.size,
              yR.keep (hk.mono fun k hk => ⟨hk.2.2.2.1, hk.2.2.2.2.1, hk.2.2.2.2.2⟩), yD.keep hk (fun k _ _ hk _ => by omega), ⟨u0, (hk.block _ z0.lt (by omega)).trans z0⟩, u1, (hk.block _ z1.lt (by omega)).trans z1⟩
theorem CircI.below {w : World} {q1 q6 q7 base Z it : Nat} {mv : Value} {W : Nat} {D : List Deferred} {L : List (List Int)} {A B : World} (h : CircI w q1 q6 q7 base Z it mv W D L A) (hb : Below A.heap.size A B) : CircI w q1 q6 q7 base Z it mv W D L B := by
  obtain ⟨v, y1, y6, y7, yB, yS, yR, yD, ⟨u0, z0⟩, u1, z1⟩ := h
  exact ⟨v, (hb.block _ y1.lt).trans y1, (hb.block _ y6.lt).trans y6, (hb.block _ y7.lt).trans y7, chain yB hb, Nat.le_trans yS hb.size, yR.keep (Keep.of_below hb), Marks.keep (Keep.of_below hb : Keep (fun _ => True) A B) (fun _ _ _ _ _ => trivial) yD, ⟨u0, (hb.block _ z0.lt).trans z0⟩, u1, (hb.block _ z1.lt).trans z1⟩
theorem CircI.start {w X wL : World} {q1 q6 q7 base : Nat} {mv v : Value} {W : Nat} {D : List Deferred} {L : List (List Int)} (y1 : Boxed X q1 23 mv) (y6 : Boxed X q6 3 (.int .i64 W)) (y7 : Boxed X q7 22 v) (yB : Below w.heap.size w X)
    (yR : RowsO 3 25 X base (fun b => b ≠ q7) v L) (yD : Marks base X.heap.size D X) (hb : Below X.heap.size X wL) (hs : wL.heap.size = X.heap.size + 2) (z0 : ∃ u, Boxed wL X.heap.size 3 u) (z1 : ∃ u, Boxed wL (X.heap.size + 1) 3 u) (it : Nat) (hi : X.heap.size + 4 ≤ it) : CircI w q1 q6 q7 base X.heap.size it mv W D L wL := by
  refine ⟨v, (hb.block _ y1.lt).trans y1, (hb.block _ y6.lt).trans y6, (hb.block _ y7.lt).trans y7, chain yB hb, by omega, ?_, Marks.keep (Keep.of_below hb : Keep (fun _ => True) X wL) (fun _ _ _ _ _ => trivial) yD, z0, z1⟩
  exact (yR.lt.mono fun q hq => ⟨hq.1, by have := hq.2; omega, by have := hq.2; omega, by have := hq.2; omega, by have := hq.2; omega, by have := hq.2; omega⟩ : RowsO 3 25 X base (SIt q7 X.heap.size it) v L).keep (Keep.of_below hb)
theorem meas2 {n k : Nat} (h : k < n) : n - (intOf (.int .i64 ((k + 1 : Nat) : Int))).toNat < n - (intOf (.int .i64 (k : Int))).toNat := by simp [intOf]; omega

end Go.Proofs.Ytkmjeegnijohmaa

namespace Go.Proofs.Ytkmjeegnijohmaa
open Go.RowKit
set_option linter.unusedVariables false

def CircRes (p : List Int × Int) (e : Ending) (w : World) : Prop := ∃ b k c, e = .returned (.tuple #[.slice b k c, .int .i64 p.2]) ∧ p.1.length = k ∧ k ≤ maxLen ∧ IntsAt w b p.1
theorem CircRes.nil (z : Int) (w : World) : CircRes ([], z) (.returned (.tuple #[.slice none 0 0, .int .i64 z])) w := ⟨none, 0, 0, rfl, rfl, Nat.zero_le _, fun j hj => by simp at hj⟩

end Go.Proofs.Ytkmjeegnijohmaa

namespace Go.Proofs.Ytkmjeegnijohmaa
section
open Go.RowKit
set_option linter.unusedVariables false

end

section
open Go.RowKit
set_option linter.unusedVariables false

def ascB (l : List Int) : Bool := decide (∀ i, i < l.length - 1 → l[i]?.getD 0 < l[i + 1]?.getD 0)
def namedE (W : Nat) (l : List Int) : Int := if ascB l = true then (if l.all (fun p => inB p 0 ((W : Int) - 1)) = true then 0 else 5) else 7
def pixE (M : Mask) (l : List Int) : Int := if okM M = true then namedE (colsM M) l else 1
theorem asc_pair {l : List Int} (h : ascB l = true) : l.Pairwise (· < ·) := by
  have h1 : ∀ i, i < l.length - 1 → l[i]?.getD 0 < l[i + 1]?.getD 0 := of_decide_eq_true h
  have h2 : ∀ d i, i + d + 1 < l.length → l[i]?.getD 0 < l[i + d + 1]?.getD 0 := by
    intro d
    induction d with
    | zero => intro i hi; exact h1 i (by omega)
    | succ d ih => intro i hi; exact Int.lt_trans (ih i (by omega)) (h1 (i + d + 1) (by omega))
  rw [List.pairwise_iff_getElem]
  intro i j hi hj hij
  have := h2 (j - i - 1) i (by omega)
  rw [show i + (j - i - 1) + 1 = j by omega, List.getElem?_eq_getElem hi, List.getElem?_eq_getElem hj] at this
  exact this
theorem asc_no {l : List Int} {k : Nat} (hk : k + 1 < l.length) (h : ¬ l[k]?.getD 0 < l[k + 1]?.getD 0) : ascB l = false := decide_eq_false fun h1 => h (h1 k (by omega))
theorem asc_yes {l : List Int} (h : ∀ i, i + 1 < l.length → l[i]?.getD 0 < l[i + 1]?.getD 0) : ascB l = true := decide_eq_true fun i hi => h i (by omega)
theorem named_ok {W : Nat} {l : List Int} (h : namedE W l = 0) : SetOk W l := by
  unfold namedE at h
  split at h
  · rename_i h1
    split at h
    · rename_i h2
      refine ⟨asc_pair h1, fun y hy => ?_⟩
      have := List.all_eq_true.1 h2 y hy
      unfold inB at this
      simp only [Bool.and_eq_true, decide_eq_true_eq] at this
      omega
    · omega
  · omega

theorem named1 (w : World) (b : Nat) (m : Int) (hm : 0 ≤ m ∧ m ≤ 1000000000) (hc : w.cell? ⟨b, 0, none⟩ = some (.int .i64 m)) (hb : b < w.heap.size) :
    PredI Try.prog 113 #[.pointer (some ⟨b, 0, none⟩)] w (fun n => !(inB n 0 (m - 1))) := by
  intro x W hW
  have hc' : W.cell? ⟨b, 0, none⟩ = some (.int .i64 m) := (hW.cell (p := ⟨b, 0, none⟩) hb).trans hc
  obtain ⟨z, hz⟩ : ∃ z, z = m - 1 := ⟨_, rfl⟩
  have hw : IntKind.i64.wrap (m - 1) = z := by rw [hz]; exact IntWalk.i64_in _ (by omega)
  rw [← hz]
  obtain ⟨B, hB⟩ : ∃ B, B = inB x 0 z := ⟨_, rfl⟩
  have HP := hid (pwithin_c x 0 z W)
  rw [← hB] at HP
  simp only [← hB]
  clear hB hc hz
  show Calls Try.prog 113 #[.int .i64 x, .pointer (some ⟨b, 0, none⟩)] W _
  go_enter Try.func113, Try.ntmps113
  go_wp2_with (go_at_call 92; refine HP.out.mono ?_; rintro e w1 ⟨rfl, rfl⟩)
  go_ret
  exact ⟨rfl, Below.refl _ _⟩

set_option maxHeartbeats 1000000 in
theorem named_c (w : World) (W : Nat) (hW : W ≤ 1000) (a : Option Addr) (n cap : Nat) (l : List Int) (hn : l.length = n) (hm : n ≤ maxLen) (H : IntsAt w a l) :
    Calls Try.prog 107 #[.int .i64 W, .slice a n cap] w fun e w' => e = .returned (.int .i64 (namedE W l)) ∧ Below w.heap.size w w' := by
  have HN := hid hn
  have HH := hid (fun (X : World) (hX : Below w.heap.size w X) => H.below hX)
  obtain ⟨E, hE⟩ : ∃ E, E = namedE W l := ⟨_, rfl⟩
  rw [← hE]
  have HE := hid hE
  clear hn H hE
  have hm' : n ≤ 9223372036854775807 := by unfold maxLen at hm; omega
  go_enter Try.func107, Try.ntmps107
  obtain ⟨w1, hw1⟩ : ∃ w1, w1 = w.alloc (.cells #[.int .i64 W] 3) := ⟨_, rfl⟩
  have hb1 : Below w.heap.size w w1 := by rw [hw1]; exact (Below.refl _ _).alloc (Nat.le_refl _) _
  have hc1 : w1.cell? ⟨w.heap.size, 0, none⟩ = some (.int .i64 W) := by rw [hw1, World.cell?_alloc_at _ _ _ _ rfl]; rfl
  have hs1 : w.heap.size < w1.heap.size := by rw [hw1]; simp
  have HB1 := hid hb1
  have HC1 := hid hc1
  have HW1 := hid hw1
  clear hb1 hc1 hw1
  go_wp2
  try rw [← HW1.out]
  go_loopw [9] (fun i wr => ∃ k : Nat, k ≤ n ∧ i = .int .i64 k ∧ wr = w1 ∧ Hid (∀ i, i + 1 < k → l[i]?.getD 0 < l[i + 1]?.getD 0)) (fun i _ => n - (intOf i).toNat)
  case atStart => exact ⟨0, Nat.zero_le _, rfl, by first | exact HW1.out.symm | rfl, hid (fun i h => by omega)⟩
  case round =>
    obtain ⟨k, hk, rfl, rfl, HNO⟩ := hrel
    by_cases hlt : k < n
    · have hkl : k < l.length := by rw [HN.out]; exact hlt
      obtain ⟨b, off, rfl, hbs, hc⟩ := (HH.out wr HB1.out) k hkl
      rcases Nat.eq_zero_or_pos k with h0 | h0
      · subst h0
        obtain ⟨x, hx⟩ : ∃ x, x = l[0]?.getD 0 := ⟨_, rfl⟩
        rw [← hx, Nat.add_zero] at hc
        clear hx hkl
        go_wp2
        exact ⟨⟨1, by omega, by go_num, by first | trivial | rfl, hid (fun i h => by omega)⟩, by simp [intOf]; omega⟩
      · obtain ⟨p, rfl⟩ : ∃ p, k = p + 1 := ⟨k - 1, by omega⟩
        obtain ⟨b', off', e', _, hc2⟩ := (HH.out wr HB1.out) p (by omega)
        cases e'
        have hpi : ((p + 1 : Nat) : Int) - 1 = (p : Int) := by omega
        have hpn : (p : Int) < (n : Int) := by omega
        have hpp : (0 : Int) < ((p + 1 : Nat) : Int) := by omega
        have HNO2 := hid (fun (h : ¬ l[p]?.getD 0 < l[p + 1]?.getD 0) => asc_no (by rw [HN.out]; exact hlt) h)
        have HNX := hid (fun (h : l[p]?.getD 0 < l[p + 1]?.getD 0) => (show ∀ i, i + 1 < p + 1 + 1 → l[i]?.getD 0 < l[i + 1]?.getD 0 from fun i hi => by
          rcases Nat.lt_or_ge i p with h1 | h1
          · exact HNO.out i (by omega)
          · have : i = p := by omega
            subst this; exact h))
        obtain ⟨x, hx⟩ : ∃ x, x = l[p + 1]?.getD 0 := ⟨_, rfl⟩
        obtain ⟨y, hy⟩ : ∃ x, x = l[p]?.getD 0 := ⟨_, rfl⟩
        rw [← hx] at hc HNO2 HNX
        rw [← hy] at hc2 HNO2 HNX
        clear hx hy hkl
        by_cases hle : x ≤ y
        · have HA := hid (HNO2.out (by omega))
          obtain rfl : E = 7 := by rw [HE.out]; unfold namedE; rw [HA.out]; rfl
          go_wp2
          go_ret
          exact ⟨rfl, HB1.out⟩
        · have HX := hid (HNX.out (by omega))
          go_wp2
          exact ⟨⟨p + 1 + 1, by omega, by go_num, by first | trivial | rfl, HX⟩, by simp [intOf]; omega⟩
    · obtain rfl : n = k := by omega
      have HA := hid (asc_yes (l := l) (fun i hi => HNO.out i (by rw [← HN.out]; exact hi)))
      have HCF := hid (containsI wr a n cap l HN.out hm (HH.out wr HB1.out) 113 #[.pointer (some ⟨w.heap.size, 0, none⟩)] (fun p => !(inB p 0 ((W : Int) - 1))) (enters_of Try.func113 (by kernel_rfl) rfl) (named1 wr w.heap.size W (by omega) HC1.out hs1))
      have hany : l.any (fun p => !(inB p 0 ((W : Int) - 1))) = !(l.all (fun p => inB p 0 ((W : Int) - 1))) := by rw [List.not_all_eq_any_not]
      rw [hany] at HCF
      have hee := HE.out
      unfold namedE at hee
      rw [if_pos HA.out] at hee
      clear hany HNO
      cases hall : l.all (fun p => inB p 0 ((W : Int) - 1))
      · rw [hall] at HCF hee
        obtain rfl : E = 5 := hee
        clear hall
        go_wp2_with (go_at_call 62; refine HCF.out.mono ?_; rintro e w3 ⟨rfl, hb3⟩)
        go_ret
        exact ⟨rfl, chain HB1.out hb3⟩
      · rw [hall] at HCF hee
        obtain rfl : E = 0 := hee
        clear hall
        go_wp2_with (go_at_call 62; refine HCF.out.mono ?_; rintro e w3 ⟨rfl, hb3⟩)
        go_ret
        exact ⟨rfl, chain HB1.out hb3⟩

theorem pixels_c (w : World) (a a2 : Option Addr) (n cap n2 cap2 : Nat) (M : Mask) (l : List Int) (hn : M.length = n) (hn2 : l.length = n2) (hm : n ≤ maxLen) (hm2 : n2 ≤ maxLen) (H : RowsAt w a M) (H2 : IntsAt w a2 l) :
    Calls Try.prog 100 #[.slice a n cap, .slice a2 n2 cap2] w fun e w' => e = .returned (.int .i64 (pixE M l)) ∧ Below w.heap.size w w' := by
  have HV := hid (maskValid_c w a n cap M hn hm H)
  cases hok : okM M
  · rw [hok] at HV
    have he : pixE M l = 1 := by unfold pixE; rw [hok]; rfl
    rw [he]
    clear hn hn2 H H2 hok he
    go_enter Try.func100, Try.ntmps100
    go_wp2_with (go_at_call 37; refine HV.out.mono ?_; rintro e w1 ⟨rfl, hb1⟩)
    go_ret
    exact ⟨rfl, hb1⟩
  · rw [hok] at HV
    have he : pixE M l = namedE (colsM M) l := by unfold pixE; rw [if_pos hok]
    rw [he]
    obtain ⟨hM, h1, h6, hc1, hc10⟩ := okM_ok hok
    obtain ⟨b, off, ra, rc, rfl, hb, hc⟩ := rows_head H (by omega)
    have hz : (0 : Int) < (n : Int) := by omega
    obtain ⟨W, hW⟩ : ∃ W, W = colsM M := ⟨_, rfl⟩
    rw [← hW] at hc hc1 hc10 ⊢
    have HS := hid (fun (X : World) (hX : Below w.heap.size w X) => (hX.cell (p := ⟨b, off, none⟩) hb).trans hc)
    have HNM := hid (fun (X : World) (hX : Below w.heap.size w X) => named_c X W (by omega) a2 n2 cap2 l hn2 hm2 (H2.below hX))
    obtain ⟨E, hE⟩ : ∃ E, E = namedE W l := ⟨_, rfl⟩
    rw [← hE] at HNM ⊢
    clear hn hn2 H H2 hok he hM hW hE hc hb
    go_enter Try.func100, Try.ntmps100
    go_wp2_with (go_at_call 37; refine HV.out.mono ?_; rintro e w1 ⟨rfl, hb1⟩; refine Stop.of ?_)
    refine Stop.go ?_
    have hc1' := HS.out w1 hb1
    have HB1 := hid hb1
    clear hb1
    go_wp2_with (go_at_call 107; refine (HNM.out w1 HB1.out).mono ?_; rintro e w2 ⟨rfl, hb2⟩)
    go_ret
    exact ⟨rfl, chain HB1.out hb2⟩

theorem pix_ok {M : Mask} {l : List Int} (h : pixE M l = 0) : okM M = true ∧ SetOk (colsM M) l := by
  unfold pixE at h
  split at h
  · rename_i h1; exact ⟨h1, named_ok h⟩
  · omega
theorem set_le {W : Nat} {l : List Int} (h : SetOk W l) : l.length ≤ W := by
  have h1 : (l.map Int.toNat).Pairwise (· < ·) := by
    rw [List.pairwise_map]
    refine h.1.imp_of_mem fun {a b} ha hb hab => ?_
    have := h.2 a ha
    have := h.2 b hb
    omega
  have := asc_le (a := 0) (b := W) h1 (fun x hx => by
    obtain ⟨y, hy, rfl⟩ := List.mem_map.1 hx
    have := h.2 y hy
    omega)
  rw [List.length_map] at this
  omega

end

section
open Go.RowKit
set_option linter.unusedVariables false

end
end Go.Proofs.Ytkmjeegnijohmaa

namespace Go.Proofs.Ytkmjeegnijohmaa
section
open Go.RowKit
set_option linter.unusedVariables false

def readV (M : Mask) (x : List Int) : List Int := M.map (fun r => dotV r x)
end

section
open Go.RowKit
set_option linter.unusedVariables false

end

section
open Go.RowKit
set_option linter.unusedVariables false

end

section
open Go.RowKit
set_option linter.unusedVariables false

end

section
open Go.RowKit
set_option linter.unusedVariables false

end
end Go.Proofs.Ytkmjeegnijohmaa
