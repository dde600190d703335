/- Plain algebra: determinants by expansion along a first column; no program in sight. · Plain algebra: rational spans, reduced rows, the stages of a reduction; no program in sight. · Plain algebra: rows without a common divisor, their bounds, and that a reduced system is told by its span. · Plain algebra: lists of numbers as vectors, common divisors, a step of a reduction on lists. -/
namespace Go.Proofs.Ytfipebkhomppmaa
section
set_option linter.unusedVariables false

/-- expansion along a first column -/
def ex {α : Type} (c : α → Int) (f : List α → Int) : List α → Int
  | [] => 0
  | r :: rs => c r * f rs - ex c (fun l => f (r :: l)) rs

theorem ex_zero {α : Type} (c : α → Int) : ∀ l : List α, ex c (fun _ => 0) l = 0
  | [] => rfl
  | r :: rs => by unfold ex; rw [ex_zero c rs]; simp
theorem ex_sub {α : Type} (c : α → Int) : ∀ (l : List α) (f g : List α → Int), ex c (fun m => f m - g m) l = ex c f l - ex c g l
  | [], _, _ => by simp [ex]
  | r :: rs, f, g => by
    unfold ex
    rw [ex_sub c rs (fun l => f (r :: l)) (fun l => g (r :: l))]
    grind
theorem ex_mul {α : Type} (c : α → Int) (k : Int) : ∀ (l : List α) (f : List α → Int), ex c (fun m => k * f m) l = k * ex c f l
  | [], _ => by simp [ex]
  | r :: rs, f => by
    unfold ex
    rw [ex_mul c k rs (fun l => f (r :: l))]
    grind
theorem ex_anti {α : Type} (c d : α → Int) : ∀ (l : List α) (f : List α → Int), ex c (ex d f) l = - ex d (ex c f) l
  | [], _ => by simp [ex]
  | r :: rs, f => by
    have h1 : ex c (fun l => ex d f (r :: l)) rs = d r * ex c f rs - ex c (ex d (fun m => f (r :: m))) rs := by
      have : (fun l => ex d f (r :: l)) = fun l => d r * f l - ex d (fun m => f (r :: m)) l := by funext l; rfl
      rw [this, ex_sub c rs (fun l => d r * f l) (fun l => ex d (fun m => f (r :: m)) l), ex_mul]
    have h2 : ex d (fun l => ex c f (r :: l)) rs = c r * ex d f rs - ex d (ex c (fun m => f (r :: m))) rs := by
      have : (fun l => ex c f (r :: l)) = fun l => c r * f l - ex c (fun m => f (r :: m)) l := by funext l; rfl
      rw [this, ex_sub d rs (fun l => c r * f l) (fun l => ex c (fun m => f (r :: m)) l), ex_mul]
    have ih := ex_anti c d rs (fun m => f (r :: m))
    show c r * ex d f rs - ex c (fun l => ex d f (r :: l)) rs = -(d r * ex c f rs - ex d (fun l => ex c f (r :: l)) rs)
    rw [h1, h2, ih]
    omega
theorem ex_same {α : Type} (c : α → Int) (f : List α → Int) (l : List α) : ex c (ex c f) l = 0 := by
  have := ex_anti c c l f; omega

/-- the determinant of some columns at some rows -/
def det {α : Type} : List (α → Int) → List α → Int
  | [], _ => 1
  | c :: cs, l => ex c (det cs) l

theorem det_rep {α : Type} {c : α → Int} : ∀ {cs : List (α → Int)}, c ∈ cs → ∀ l : List α, det (c :: cs) l = 0
  | d :: ds, h, l => by
    rcases List.mem_cons.1 h with rfl | h
    · exact ex_same _ _ _
    · show ex c (ex d (det ds)) l = 0
      rw [ex_anti]
      have : ex c (det ds) = fun _ => 0 := by funext m; exact det_rep h m
      rw [this, ex_zero]; rfl

/-- a column in the midst, taken to the front -/
theorem det_front {α : Type} (c : α → Int) : ∀ (cs ds : List (α → Int)), ∃ s : Int, (s = 1 ∨ s = -1) ∧ ∀ l : List α, det (cs ++ c :: ds) l = s * det (c :: (cs ++ ds)) l
  | [], ds => ⟨1, .inl rfl, fun l => by simp⟩
  | d :: cs, ds => by
    obtain ⟨s, hs, h⟩ := det_front c cs ds
    refine ⟨-s, by omega, fun l => ?_⟩
    show ex d (det (cs ++ c :: ds)) l = -s * ex c (ex d (det (cs ++ ds))) l
    have : det (cs ++ c :: ds) = fun m => s * det (c :: (cs ++ ds)) m := by funext m; exact h m
    rw [this, ex_mul, ex_anti c d]
    show s * ex d (ex c (det (cs ++ ds))) l = _
    grind

/-- the sum of some products -/
def dot {α : Type} (u c : α → Int) : List α → Int
  | [] => 0
  | r :: rs => u r * c r + dot u c rs

/-- the sum of the products of a list and a column -/
def dotL {α : Type} : List Int → (α → Int) → List α → Int
  | k :: ks, c, r :: rs => k * c r + dotL ks c rs
  | _, _, _ => 0
theorem dotL_neg {α : Type} (c : α → Int) : ∀ (ks : List Int) (l : List α), dotL (ks.map (- ·)) c l = - dotL ks c l
  | [], l => by cases l <;> simp [dotL]
  | k :: ks, [] => by simp [dotL]
  | k :: ks, r :: rs => by simp only [List.map_cons, dotL]; rw [dotL_neg c ks rs]; grind

/-- an expansion is a sum of the column's numbers, the first one's factor told -/
theorem ex_sum {α : Type} : ∀ (l : List α) (f : List α → Int), ∃ ks : List Int, ks.length = l.length ∧ (∀ r rs, l = r :: rs → ks.head? = some (f rs)) ∧ ∀ c, ex c f l = dotL ks c l
  | [], f => ⟨[], rfl, (fun _ _ h => by cases h), fun c => rfl⟩
  | r :: rs, f => by
    obtain ⟨ks, h1, _, h3⟩ := ex_sum rs (fun l => f (r :: l))
    refine ⟨f rs :: ks.map (- ·), by simp [h1], (fun r' rs' e => by cases e; rfl), fun c => ?_⟩
    unfold ex dotL
    rw [h3 c, dotL_neg]
    grind

def fact : Nat → Nat
  | 0 => 1
  | n + 1 => (n + 1) * fact n

theorem abs_mul_le {a b A B : Int} (h1 : -A ≤ a ∧ a ≤ A) (h2 : -B ≤ b ∧ b ≤ B) : -(A * B) ≤ a * b ∧ a * b ≤ A * B := by
  have ha : a.natAbs ≤ A.toNat := by omega
  have hb : b.natAbs ≤ B.toNat := by omega
  have h := Nat.mul_le_mul ha hb
  rw [← Int.natAbs_mul] at h
  have e : ((A.toNat * B.toNat : Nat) : Int) = A * B := by
    rw [Int.natCast_mul, Int.toNat_of_nonneg (by omega), Int.toNat_of_nonneg (by omega)]
  omega

theorem ex_le {α : Type} {c : α → Int} {C : Int} (hc : ∀ r, -C ≤ c r ∧ c r ≤ C) : ∀ (n : Nat) (F : Int) (f : List α → Int) (l : List α), l.length = n + 1 → (∀ m : List α, m.length = n → -F ≤ f m ∧ f m ≤ F) →
    -((n + 1 : Nat) * (C * F)) ≤ ex c f l ∧ ex c f l ≤ (n + 1 : Nat) * (C * F)
  | 0, F, f, [r], _, hf => by
    have := abs_mul_le (hc r) (hf [] rfl)
    simp [ex]; omega
  | n + 1, F, f, r :: rs, hl, hf => by
    have hl' : rs.length = n + 1 := by simpa using hl
    have h1 := abs_mul_le (hc r) (hf rs hl')
    have h2 := ex_le hc n F (fun l => f (r :: l)) rs hl' (fun m hm => hf (r :: m) (by simp [hm]))
    unfold ex
    have e : ((n + 1 + 1 : Nat) : Int) * (C * F) = (n + 1 : Nat) * (C * F) + C * F := by
      generalize C * F = K
      push_cast
      grind
    rw [e]
    omega

theorem det_le {α : Type} : ∀ (cs : List (α → Int)), (∀ c ∈ cs, ∀ r, -1 ≤ c r ∧ c r ≤ 1) → ∀ l : List α, l.length = cs.length → -(fact cs.length : Int) ≤ det cs l ∧ det cs l ≤ fact cs.length
  | [], _, l, _ => by simp [det, fact]
  | c :: cs, hc, l, hl => by
    have h := ex_le (hc c (by simp)) cs.length (fact cs.length) (det cs) l (by simpa using hl) (fun m hm => det_le cs (fun d hd => hc d (by simp [hd])) m hm)
    show _ ≤ ex c (det cs) l ∧ ex c (det cs) l ≤ _
    simp only [List.length_cons, fact]
    rw [Int.natCast_mul]
    simpa using h

theorem det_le2 {α : Type} {c : α → Int} {Y : Int} (hY : ∀ r, -Y ≤ c r ∧ c r ≤ Y) (cs : List (α → Int)) (hc : ∀ c ∈ cs, ∀ r, -1 ≤ c r ∧ c r ≤ 1) (l : List α) (hl : l.length = cs.length + 1) :
    -((cs.length + 1 : Nat) * (Y * fact cs.length)) ≤ det (c :: cs) l ∧ det (c :: cs) l ≤ (cs.length + 1 : Nat) * (Y * fact cs.length) :=
  ex_le hY cs.length (fact cs.length) (det cs) l hl (fun m hm => det_le cs hc m hm)
end

section
set_option linter.unusedVariables false

/-- a vector: a number for each column -/
abbrev Vec := Nat → Int

/-- the rational span -/
inductive Sp (B : Vec → Prop) : Vec → Prop
  | of {v : Vec} : B v → Sp B v
  | zero : Sp B (fun _ => 0)
  | add {u v : Vec} : Sp B u → Sp B v → Sp B (fun c => u c + v c)
  | mul (k : Int) {u : Vec} : Sp B u → Sp B (fun c => k * u c)
  | div {k : Int} {u : Vec} : k ≠ 0 → Sp B (fun c => k * u c) → Sp B u

theorem Sp.congr {B : Vec → Prop} {u v : Vec} (h : Sp B u) (e : ∀ c, v c = u c) : Sp B v := by
  have : v = u := funext e
  rw [this]; exact h
theorem Sp.trans {B B' : Vec → Prop} (hB : ∀ v, B v → Sp B' v) {v : Vec} (h : Sp B v) : Sp B' v := by
  induction h with
  | of h => exact hB _ h
  | zero => exact .zero
  | add _ _ h1 h2 => exact .add h1 h2
  | mul k _ h => exact .mul k h
  | div hk _ h => exact .div hk h
theorem Sp.lin {B : Vec → Prop} {u v : Vec} (x y : Int) (hu : Sp B u) (hv : Sp B v) : Sp B (fun c => x * u c + y * v c) := .add (.mul x hu) (.mul y hv)
/-- n v = x u + y w, n not 0 -/
theorem Sp.of_eq {B : Vec → Prop} {u v w : Vec} {n x y : Int} (hn : n ≠ 0) (hu : Sp B u) (hw : Sp B w) (e : ∀ c, n * v c = x * u c + y * w c) : Sp B v :=
  .div hn ((Sp.lin x y hu hw).congr e)

/-- the sum of f below n -/
def sm (f : Nat → Int) : Nat → Int
  | 0 => 0
  | n + 1 => sm f n + f n
theorem sm_congr {f g : Nat → Int} : ∀ {n : Nat}, (∀ k, k < n → f k = g k) → sm f n = sm g n
  | 0, _ => rfl
  | n + 1, h => by unfold sm; rw [sm_congr (fun k hk => h k (by omega)), h n (by omega)]
theorem sm_zero : ∀ n, sm (fun _ => 0) n = 0
  | 0 => rfl
  | n + 1 => by unfold sm; rw [sm_zero n]; rfl
theorem sm_add (f g : Nat → Int) : ∀ n, sm (fun k => f k + g k) n = sm f n + sm g n
  | 0 => rfl
  | n + 1 => by unfold sm; rw [sm_add f g n]; omega
theorem sm_mul (x : Int) (f : Nat → Int) : ∀ n, sm (fun k => x * f k) n = x * sm f n
  | 0 => by simp [sm]
  | n + 1 => by unfold sm; rw [sm_mul x f n]; grind
theorem sm_single {f : Nat → Int} {q : Nat} : ∀ {n : Nat}, q < n → (∀ k, k < n → k ≠ q → f k = 0) → sm f n = f q
  | n + 1, hq, h => by
    unfold sm
    by_cases e : q = n
    · subst e
      rw [sm_congr (g := fun _ => 0) (fun k hk => h k (by omega) (by omega)), sm_zero]; omega
    · rw [sm_single (show q < n by omega) (fun k hk hne => h k (by omega) hne), h n (by omega) (by omega)]; omega

theorem exists_den : ∀ (K : Nat) (x : Nat → Int), (∀ k, k < K → x k ≠ 0) → ∃ D : Int, D ≠ 0 ∧ ∃ e : Nat → Int, ∀ k, k < K → e k * x k = D
  | 0, _, _ => ⟨1, by decide, fun _ => 0, fun k hk => by omega⟩
  | K + 1, x, h => by
    obtain ⟨D, hD, e, he⟩ := exists_den K x (fun k hk => h k (by omega))
    refine ⟨D * x K, Int.mul_ne_zero hD (h K (by omega)), fun k => if k = K then D else e k * x K, fun k hk => ?_⟩
    by_cases c : k = K
    · subst c; simp
    · simp only [if_neg c]; rw [← he k (by omega)]; grind

/-- the first K rows as a basis -/
def RB (K : Nat) (R : Nat → Vec) (v : Vec) : Prop := ∃ k, k < K ∧ v = R k

/-- each of the first K rows has a pivot where the others have 0 -/
structure Red (K : Nat) (J : Nat → Nat) (R : Nat → Vec) : Prop where
  piv : ∀ k, k < K → R k (J k) ≠ 0
  off : ∀ k, k < K → ∀ q, q < K → k ≠ q → R k (J q) = 0

theorem Red.repr {K : Nat} {J : Nat → Nat} {R : Nat → Vec} (h : Red K J R) : ∃ D : Int, D ≠ 0 ∧ ∃ e : Nat → Int, ∀ v, Sp (RB K R) v → ∀ c, D * v c = sm (fun k => v (J k) * e k * R k c) K := by
  obtain ⟨D, hD, e, he⟩ := exists_den K (fun k => R k (J k)) h.piv
  refine ⟨D, hD, e, fun v hv => ?_⟩
  induction hv with
  | of hb =>
    obtain ⟨q, hq, rfl⟩ := hb
    intro c
    rw [sm_single hq (fun k hk hne => by rw [h.off q hq k hk (Ne.symm hne)]; simp), ← he q hq]
    grind
  | zero => intro c; rw [sm_congr (g := fun _ => 0) (fun k _ => by simp), sm_zero]; simp
  | add _ _ h1 h2 => intro c; rw [Int.mul_add, h1, h2, ← sm_add]; exact sm_congr fun k _ => by grind
  | mul x _ h1 =>
    intro c
    rw [Int.mul_left_comm, h1, ← sm_mul]
    exact sm_congr fun k _ => by grind
  | @div x u hx _ h1 =>
    intro c
    refine Int.eq_of_mul_eq_mul_left hx ?_
    rw [← sm_mul]
    have := h1 c
    rw [show x * (D * u c) = D * (x * u c) by grind, this]
    exact sm_congr fun k _ => by grind

theorem Red.zero {K : Nat} {J : Nat → Nat} {R : Nat → Vec} (h : Red K J R) {v : Vec} (hv : Sp (RB K R) v) (h0 : ∀ k, k < K → v (J k) = 0) (c : Nat) : v c = 0 := by
  obtain ⟨D, hD, e, hr⟩ := h.repr
  have := hr v hv c
  rw [sm_congr (g := fun _ => 0) (fun k hk => by rw [h0 k hk]; simp), sm_zero] at this
  rcases Int.mul_eq_zero.1 this with h | h
  · exact absurd h hD
  · exact h

theorem RB.sp {K : Nat} {R : Nat → Vec} {k : Nat} (hk : k < K) : Sp (RB K R) (R k) := .of ⟨k, hk, rfl⟩

theorem Red.ratio {K : Nat} {J : Nat → Nat} {R : Nat → Vec} (h : Red K J R) {v : Vec} (hv : Sp (RB K R) v) {p : Nat} (hp : p < K) (h0 : ∀ q, q < K → q ≠ p → v (J q) = 0) (c : Nat) : R p (J p) * v c = v (J p) * R p c := by
  have hd : Sp (RB K R) (fun c => R p (J p) * v c + -(v (J p)) * R p c) := Sp.lin _ _ hv (RB.sp hp)
  have := h.zero hd (fun k hk => by
    by_cases e : k = p
    · subst e; grind
    · rw [h0 k hk e, h.off p hp k hk (Ne.symm e)]; simp) c
  grind

/-- K - 1, .., 0 -/
def downs : Nat → List Nat
  | 0 => []
  | k + 1 => k :: downs k
theorem downs_len : ∀ K, (downs K).length = K
  | 0 => rfl
  | K + 1 => by simp [downs, downs_len K]
theorem mem_downs : ∀ {K k : Nat}, k ∈ downs K ↔ k < K
  | 0, k => by simp [downs]
  | K + 1, k => by simp only [downs, List.mem_cons, mem_downs]; omega

/-- the columns of the first K pivots -/
def pcols (J : Nat → Nat) (A : Nat → Vec) : Nat → List (Nat → Int)
  | 0 => []
  | k + 1 => (fun r => A r (J k)) :: pcols J A k
theorem pcols_len (J : Nat → Nat) (A : Nat → Vec) : ∀ K, (pcols J A K).length = K
  | 0 => rfl
  | K + 1 => by simp [pcols, pcols_len J A K]
theorem mem_pcols {J : Nat → Nat} {A : Nat → Vec} : ∀ {K : Nat} {x : Nat → Int}, x ∈ pcols J A K ↔ ∃ k, k < K ∧ x = fun r => A r (J k)
  | 0, x => by simp [pcols]
  | K + 1, x => by
    simp only [pcols, List.mem_cons, mem_pcols]
    constructor
    · rintro (rfl | ⟨k, hk, rfl⟩)
      · exact ⟨K, by omega, rfl⟩
      · exact ⟨k, by omega, rfl⟩
    · rintro ⟨k, hk, rfl⟩
      by_cases e : k = K
      · subst e; exact .inl rfl
      · exact .inr ⟨k, by omega, rfl⟩

theorem det_map {α β : Type} (f : α → β) : ∀ (cs : List (β → Int)) (l : List α), det (cs.map (fun c a => c (f a))) l = det cs (l.map f)
  | [], l => rfl
  | c :: cs, l => by
    have key : ∀ (l : List α) (F : List α → Int) (G : List β → Int), (∀ m, F m = G (m.map f)) → ex (fun a => c (f a)) F l = ex c G (l.map f) := by
      intro l
      induction l with
      | nil => intro F G h; rfl
      | cons r rs ih =>
        intro F G h
        show c (f r) * F rs - ex (fun a => c (f a)) (fun l => F (r :: l)) rs = c (f r) * G (rs.map f) - ex c (fun l => G (f r :: l)) (rs.map f)
        rw [h rs, ih (fun l => F (r :: l)) (fun l => G (f r :: l)) (fun m => h (r :: m))]
    exact key l _ _ (fun m => det_map f cs m)

/-- the sum of multiples of rows lies in their span -/
theorem dotL_sp {B : Vec → Prop} {A : Nat → Vec} : ∀ (l : List Nat) (ks : List Int), (∀ r ∈ l, Sp B (A r)) → Sp B (fun c => dotL ks (fun r => A r c) l)
  | [], ks, _ => by cases ks <;> exact .zero
  | r :: rs, [], _ => .zero
  | r :: rs, k :: ks, h => by
    refine Sp.congr (.add (.mul k (h r (by simp))) (dotL_sp rs ks (fun x hx => h x (by simp [hx])))) fun c => ?_
    rfl

/-- a stage of a reduction: K pivots J, the rows R now, the rows A of the beginning in the same order -/
structure Stage (K N : Nat) (J : Nat → Nat) (R A : Nat → Vec) : Prop where
  le : K ≤ N
  d0 : det (pcols J A K) (downs K) ≠ 0
  low : ∀ i, K ≤ i → i < N → (∀ k, k < K → R i (J k) = 0) ∧ ∃ t s : Int, t ≠ 0 ∧ s ≠ 0 ∧ Sp (RB K A) (fun c => t * R i c + s * A i c)
  up : ∀ p, p < K → Sp (RB K A) (R p)
  red : Red K J R
  org : ∀ p, p < K → Sp (RB K R) (A p)

theorem Stage.start (N : Nat) (J : Nat → Nat) (A : Nat → Vec) : Stage 0 N J A A :=
  ⟨Nat.zero_le _, by simp [pcols, det], fun i _ _ => ⟨fun k hk => by omega, 1, -1, by decide, by decide, Sp.zero.congr fun c => by grind⟩, fun p hp => by omega, ⟨fun k hk => by omega, fun k hk => by omega⟩, fun p hp => by omega⟩

/-- the minors of a row below the pivots -/
def minorL (K : Nat) (J : Nat → Nat) (A : Nat → Vec) (i : Nat) (c : Nat) : Int := det ((fun r => A r c) :: pcols J A K) (i :: downs K)

theorem Stage.minor {K N : Nat} {J : Nat → Nat} {R A : Nat → Vec} (h : Stage K N J R A) {i : Nat} (h1 : K ≤ i) (h2 : i < N) :
    ∃ x y : Int, x ≠ 0 ∧ y ≠ 0 ∧ ∀ c, x * R i c = y * minorL K J A i c := by
  obtain ⟨hz, t, s, ht, hs, hsp⟩ := h.low i h1 h2
  obtain ⟨ks, hl, hh, hk⟩ := ex_sum (i :: downs K) (det (pcols J A K))
  have hh0 := hh i (downs K) rfl
  match ks, hl, hh0, hk with
  | k0 :: ks, hl, hh0, hk =>
    have hk0 : k0 = det (pcols J A K) (downs K) := by simpa using hh0
    have hd : k0 ≠ 0 := by rw [hk0]; exact h.d0
    have hm : ∀ c, minorL K J A i c = k0 * A i c + dotL ks (fun r => A r c) (downs K) := fun c => hk (fun r => A r c)
    -- k0 t R i + s D i
    have hv : Sp (RB K A) (fun c => k0 * (t * R i c + s * A i c) + s * dotL ks (fun r => A r c) (downs K)) :=
      Sp.lin k0 s hsp (dotL_sp (downs K) ks fun r hr => RB.sp (mem_downs.1 hr))
    have hv' := hv.trans (B' := RB K R) (fun v ⟨p, hp, e⟩ => e ▸ h.org p hp)
    have h0 := h.red.zero hv' (fun k hk' => by
      have e1 := hz k hk'
      have e2 : minorL K J A i (J k) = 0 := det_rep (mem_pcols.2 ⟨k, hk', rfl⟩) _
      have e3 := hm (J k)
      rw [e2] at e3
      rw [e1]
      grind)
    refine ⟨k0 * t, -s, Int.mul_ne_zero hd ht, by omega, fun c => ?_⟩
    have := h0 c
    rw [hm c]
    grind
  | [], hl, _, _ => simp at hl

/-- the columns of the pivots but one -/
def pcolsBut (J : Nat → Nat) (A : Nat → Vec) (p : Nat) : Nat → List (Nat → Int)
  | 0 => []
  | k + 1 => if k = p then pcolsBut J A p k else (fun r => A r (J k)) :: pcolsBut J A p k
theorem mem_pcolsBut {J : Nat → Nat} {A : Nat → Vec} {p : Nat} : ∀ {K k : Nat}, k < K → k ≠ p → (fun r => A r (J k)) ∈ pcolsBut J A p K
  | K + 1, k, hk, hne => by
    unfold pcolsBut
    by_cases e : K = p
    · rw [if_pos e]; exact mem_pcolsBut (by omega) hne
    · rw [if_neg e]
      by_cases e2 : k = K
      · subst e2; simp
      · exact List.mem_cons_of_mem _ (mem_pcolsBut (by omega) hne)
theorem of_mem_pcolsBut {J : Nat → Nat} {A : Nat → Vec} {p : Nat} : ∀ {K : Nat} {x : Nat → Int}, x ∈ pcolsBut J A p K → ∃ k, k < K ∧ x = fun r => A r (J k)
  | 0, x, h => by simp [pcolsBut] at h
  | K + 1, x, h => by
    unfold pcolsBut at h
    by_cases e : K = p
    · rw [if_pos e] at h
      obtain ⟨k, hk, rfl⟩ := of_mem_pcolsBut h; exact ⟨k, by omega, rfl⟩
    · rw [if_neg e] at h
      rcases List.mem_cons.1 h with rfl | h
      · exact ⟨K, by omega, rfl⟩
      · obtain ⟨k, hk, rfl⟩ := of_mem_pcolsBut h; exact ⟨k, by omega, rfl⟩
theorem pcolsBut_eq {J : Nat → Nat} {A : Nat → Vec} {p : Nat} : ∀ {K : Nat}, K ≤ p → pcolsBut J A p K = pcols J A K
  | 0, _ => rfl
  | K + 1, h => by unfold pcolsBut pcols; rw [if_neg (by omega), pcolsBut_eq (by omega)]
/-- taken to the front -/
theorem pcols_front {J : Nat → Nat} {A : Nat → Vec} {p : Nat} : ∀ {K : Nat}, p < K → (∃ s : Int, (s = 1 ∨ s = -1) ∧ ∀ l, det (pcols J A K) l = s * det ((fun r => A r (J p)) :: pcolsBut J A p K) l) ∧ (pcolsBut J A p K).length + 1 = K
  | K + 1, h => by
    by_cases e : p = K
    · subst e
      unfold pcolsBut
      rw [if_pos rfl, pcolsBut_eq (Nat.le_refl _)]
      exact ⟨⟨1, .inl rfl, fun l => by rw [Int.one_mul]; rfl⟩, by rw [pcols_len]⟩
    · obtain ⟨⟨s, hs, hl⟩, hn⟩ := pcols_front (K := K) (A := A) (J := J) (show p < K by omega)
      unfold pcolsBut
      rw [if_neg (by omega)]
      refine ⟨⟨-s, by omega, fun l => ?_⟩, by simp; omega⟩
      show ex (fun r => A r (J K)) (det (pcols J A K)) l = -s * ex (fun r => A r (J p)) (ex (fun r => A r (J K)) (det (pcolsBut J A p K))) l
      have : det (pcols J A K) = fun m => s * det ((fun r => A r (J p)) :: pcolsBut J A p K) m := funext hl
      rw [this, ex_mul, ex_anti (fun r => A r (J p))]
      show s * ex (fun r => A r (J K)) (ex (fun r => A r (J p)) (det (pcolsBut J A p K))) l = _
      grind

/-- the minors of a row with a pivot -/
def minorU (K : Nat) (J : Nat → Nat) (A : Nat → Vec) (p : Nat) (c : Nat) : Int := det ((fun r => A r c) :: pcolsBut J A p K) (downs K)

theorem Stage.minorU {K N : Nat} {J : Nat → Nat} {R A : Nat → Vec} (h : Stage K N J R A) {p : Nat} (hp : p < K) :
    (∃ s : Int, (s = 1 ∨ s = -1) ∧ minorU K J A p (J p) = s * det (pcols J A K) (downs K)) ∧ ∀ c, R p (J p) * Go.Proofs.Ytfipebkhomppmaa.minorU K J A p c = Go.Proofs.Ytfipebkhomppmaa.minorU K J A p (J p) * R p c := by
  obtain ⟨⟨s, hs, hl⟩, hn⟩ := pcols_front (J := J) (A := A) hp
  refine ⟨⟨s, hs, ?_⟩, ?_⟩
  · have := hl (downs K)
    show det ((fun r => A r (J p)) :: pcolsBut J A p K) (downs K) = _
    rw [this]
    rcases hs with rfl | rfl <;> grind
  · obtain ⟨ks, _, _, hk⟩ := ex_sum (downs K) (det (pcolsBut J A p K))
    have hv : Sp (RB K A) (Go.Proofs.Ytfipebkhomppmaa.minorU K J A p) := (dotL_sp (downs K) ks fun r hr => RB.sp (mem_downs.1 hr)).congr fun c => hk _
    have hv' := hv.trans (B' := RB K R) (fun v ⟨q, hq, e⟩ => e ▸ h.org q hq)
    exact h.red.ratio hv' hp (fun q hq hne => det_rep (mem_pcolsBut hq hne) _)

/-- a step of a reduction -/
structure Step (K N i j : Nat) (pi : Nat → Nat) (R R' A A' : Nat → Vec) : Prop where
  lo : K ≤ i
  hi : i < N
  ne : R i j ≠ 0
  orgs : ∀ q, A' q = A (pi q)
  fix : ∀ q, q < K → pi q = q
  at' : pi K = i
  rest : ∀ q, K < q → q < N → K ≤ pi q ∧ pi q < N
  surj : ∀ m, m < N → ∃ q, q < N ∧ pi q = m
  pivot : ∃ z : Int, z ≠ 0 ∧ ∀ c, R' K c = z * R i c
  other : ∀ q, q < N → q ≠ K → R' q j = 0 ∧ ∃ x y g : Int, x ≠ 0 ∧ g ≠ 0 ∧ ∀ c, g * R' q c = x * R (pi q) c + y * R i c

theorem eq_zero_of_mul {g x : Int} (hg : g ≠ 0) (h : g * x = 0) : x = 0 := (Int.mul_eq_zero.1 h).resolve_left hg

theorem Stage.step {K N i j : Nat} {J : Nat → Nat} {pi : Nat → Nat} {R R' A A' : Nat → Vec} (h : Stage K N J R A) (s : Step K N i j pi R R' A A') (J' : Nat → Nat) (hJ : ∀ k, k < K → J' k = J k) (hJK : J' K = j) : Stage (K + 1) N J' R' A' := by
  obtain ⟨hzi, ti, si, hti, hsi, hspi⟩ := h.low i s.lo s.hi
  obtain ⟨z, hz, hzR⟩ := s.pivot
  have hiK : K < N := Nat.lt_of_le_of_lt s.lo s.hi
  have hpiv : ∀ q, q < N → q ≠ K → ∀ k, k < K → R (pi q) (J k) = 0 → R' q (J k) = 0 := by
    intro q hq hne k hk h0
    obtain ⟨_, x, y, g, hx, hg, e⟩ := s.other q hq hne
    refine eq_zero_of_mul hg ?_
    rw [e, h0, hzi k hk]; simp
  have subA : ∀ v, RB K A v → Sp (RB (K + 1) A') v := by
    rintro v ⟨p, hp, rfl⟩
    have : A p = A' p := by rw [s.orgs, s.fix p hp]
    rw [this]; exact RB.sp (by omega)
  have hAi : Sp (RB (K + 1) A') (A i) := by
    have : A i = A' K := by rw [s.orgs, s.at']
    rw [this]; exact RB.sp (by omega)
  -- R i lies in the span of the new first rows
  have hRi : Sp (RB (K + 1) A') (R i) := by
    refine Sp.of_eq (n := ti) (x := 1) (y := -si) hti (hspi.trans subA) hAi fun c => ?_
    grind
  have hRi' : Sp (RB (K + 1) R') (R i) := Sp.div hz ((RB.sp (by omega : K < K + 1)).congr fun c => (hzR c).symm)
  have hRk' : ∀ v, RB K R v → Sp (RB (K + 1) R') v := by
    rintro v ⟨k, hk, rfl⟩
    obtain ⟨_, x, y, g, hx, hg, e⟩ := s.other k (by omega) (by omega)
    rw [s.fix k hk] at e
    refine Sp.of_eq (n := x) (x := g) (y := -y) hx (RB.sp (by omega : k < K + 1)) hRi' fun c => ?_
    have := e c
    grind
  refine ⟨by omega, ?_, ?_, ?_, ⟨?_, ?_⟩, ?_⟩
  · -- the determinant
    obtain ⟨x, y, hx, hy, hm⟩ := h.minor s.lo s.hi
    have hmj := hm j
    have hpc : ∀ k, k ≤ K → pcols J' A' k = (pcols J A k).map (fun c a => c (pi a)) := by
      intro k
      induction k with
      | zero => intro _; rfl
      | succ k ih =>
        intro hk
        show (fun r => A' r (J' k)) :: pcols J' A' k = (fun a => A (pi a) (J k)) :: (pcols J A k).map (fun c a => c (pi a))
        rw [ih (by omega), hJ k (by omega)]
        congr 1
        funext r
        rw [s.orgs]
    have e : det (pcols J' A' (K + 1)) (downs (K + 1)) = minorL K J A i j := by
      show det ((fun r => A' r (J' K)) :: pcols J' A' K) (K :: downs K) = det ((fun r => A r j) :: pcols J A K) (i :: downs K)
      have e1 : (fun r => A' r (J' K)) :: pcols J' A' K = ((fun r => A r j) :: pcols J A K).map (fun c a => c (pi a)) := by
        rw [hpc K (Nat.le_refl _), hJK]
        show _ = (fun a => A (pi a) j) :: _
        congr 1
        funext r
        rw [s.orgs]
      have e2 : i :: downs K = (K :: downs K).map pi := by
        have : (downs K).map pi = downs K := by
          conv => rhs; rw [← List.map_id (downs K)]
          exact List.map_congr_left fun q hq => s.fix q (mem_downs.1 hq)
        rw [List.map_cons, s.at', this]
      rw [e1, e2, det_map]
    rw [e]
    intro h0
    rw [h0] at hmj
    exact s.ne (eq_zero_of_mul hx (by rw [hmj]; simp))
  · intro q h1 h2
    obtain ⟨hj0, x, y, g, hx, hg, e⟩ := s.other q h2 (by omega)
    obtain ⟨r1, r2⟩ := s.rest q (by omega) h2
    obtain ⟨hzq, t, sq, ht, hsq, hspq⟩ := h.low (pi q) r1 r2
    refine ⟨fun k hk => ?_, g * t * ti, ti * x * sq, Int.mul_ne_zero (Int.mul_ne_zero hg ht) hti, Int.mul_ne_zero (Int.mul_ne_zero hti hx) hsq, ?_⟩
    · by_cases c : k = K
      · subst c; rw [hJK]; exact hj0
      · rw [hJ k (by omega)]; exact hpiv q h2 (by omega) k (by omega) (hzq k (by omega))
    · have h3 := Sp.add (Sp.mul (ti * x) (hspq.trans subA)) (Sp.mul (t * ti * y) hRi)
      refine h3.congr fun c => ?_
      have := e c
      rw [s.orgs q]
      grind
  · intro p hp
    by_cases c : p = K
    · subst c
      exact (Sp.mul z hRi).congr hzR
    · obtain ⟨_, x, y, g, hx, hg, e⟩ := s.other p (by omega) c
      rw [s.fix p (by omega)] at e
      exact Sp.of_eq (n := g) (x := x) (y := y) hg ((h.up p (by omega)).trans subA) hRi e
  · intro k hk
    by_cases c : k = K
    · subst c
      rw [hJK, hzR]
      exact Int.mul_ne_zero hz s.ne
    · obtain ⟨_, x, y, g, hx, hg, e⟩ := s.other k (by omega) c
      rw [s.fix k (by omega)] at e
      rw [hJ k (by omega)]
      intro h0
      have := e (J k)
      rw [h0, hzi k (by omega)] at this
      have h1 := h.red.piv k (by omega)
      have : x * R k (J k) = 0 := by grind
      exact h1 (eq_zero_of_mul hx this)
  · intro k hk q hq hne
    by_cases c : k = K
    · subst c
      rw [hzR, hJ q (by omega), hzi q (by omega)]; simp
    · by_cases c2 : q = K
      · subst c2
        rw [hJK]; exact (s.other k (by omega) c).1
      · rw [hJ q (by omega)]
        exact hpiv k (by omega) c q (by omega) (by rw [s.fix k (by omega)]; exact h.red.off k (by omega) q (by omega) hne)
  · intro p hp
    by_cases c : p = K
    · subst c
      rw [s.orgs, s.at']
      have h1 : Sp (RB (p + 1) R') (fun c => ti * R i c + si * A i c) := (hspi.trans (B' := RB p R) (fun v ⟨q, hq, e⟩ => e ▸ h.org q hq)).trans hRk'
      refine Sp.of_eq (n := si) (x := 1) (y := -ti) hsi h1 hRi' fun c => ?_
      grind
    · rw [s.orgs, s.fix p (by omega)]
      exact (h.org p (by omega)).trans hRk'
end

section
set_option linter.unusedVariables false

/-- no common divisor but 1 and -1 -/
def Prim (V : Vec) : Prop := ∀ g : Int, (∀ c, g ∣ V c) → g ∣ 1

theorem ratio_le {V W : Vec} {x y : Int} (hx : x ≠ 0) (h : ∀ c, x * V c = y * W c) (hp : Prim V) (c : Nat) : (V c).natAbs ≤ (W c).natAbs := by
  have hg : 0 < Nat.gcd x.natAbs y.natAbs := Nat.gcd_pos_of_pos_left _ (by omega)
  obtain ⟨g, hge⟩ : ∃ g, g = Nat.gcd x.natAbs y.natAbs := ⟨_, rfl⟩
  have e1 : x.natAbs / g * g = x.natAbs := by rw [hge]; exact Nat.div_mul_cancel (Nat.gcd_dvd_left _ _)
  have e2 : y.natAbs / g * g = y.natAbs := by rw [hge]; exact Nat.div_mul_cancel (Nat.gcd_dvd_right _ _)
  have hco : Nat.Coprime (x.natAbs / g) (y.natAbs / g) := by rw [hge] at *; exact Nat.coprime_div_gcd_div_gcd hg
  rw [← hge] at hg
  have hn : ∀ c, x.natAbs / g * (V c).natAbs = y.natAbs / g * (W c).natAbs := by
    intro c
    have h1 : x.natAbs * (V c).natAbs = y.natAbs * (W c).natAbs := by rw [← Int.natAbs_mul, ← Int.natAbs_mul, h c]
    rw [← e1, ← e2] at h1
    refine Nat.eq_of_mul_eq_mul_left hg ?_
    rw [← Nat.mul_assoc, ← Nat.mul_assoc, Nat.mul_comm g, Nat.mul_comm g]
    exact h1
  have hd : ∀ c, ((y.natAbs / g : Nat) : Int) ∣ V c := by
    intro c
    refine Int.ofNat_dvd_left.2 ?_
    refine Nat.Coprime.dvd_of_dvd_mul_left hco.symm (m := x.natAbs / g) ?_
    rw [hn c]; exact Nat.dvd_mul_right _ _
  have h1 : y.natAbs / g = 1 := by
    have := hp _ hd
    have := Int.ofNat_dvd_left.1 this
    exact Nat.dvd_one.1 this
  have h2 := hn c
  rw [h1, Nat.one_mul] at h2
  have h3 : 0 < x.natAbs / g := by
    rcases Nat.eq_zero_or_pos (x.natAbs / g) with h | h
    · rw [h] at e1; omega
    · exact h
  rw [← h2]
  exact Nat.le_mul_of_pos_left _ h3

theorem natAbs_le_of {a B : Int} (h : -B ≤ a ∧ a ≤ B) : a.natAbs ≤ B.toNat := by omega

/-- how great a row below the pivots can be -/
theorem Stage.low_le {K N : Nat} {J : Nat → Nat} {R A : Nat → Vec} (h : Stage K N J R A) (h1 : ∀ k, k < K → ∀ r, -1 ≤ A r (J k) ∧ A r (J k) ≤ 1) {i : Nat} (hi1 : K ≤ i) (hi2 : i < N) (hp : Prim (R i))
    {c : Nat} {Y : Int} (hY : ∀ r, -Y ≤ A r c ∧ A r c ≤ Y) : (R i c).natAbs ≤ ((K + 1 : Nat) * (Y * fact K)).toNat := by
  obtain ⟨x, y, hx, _, e⟩ := h.minor hi1 hi2
  refine Nat.le_trans (ratio_le hx e hp c) (natAbs_le_of ?_)
  have := det_le2 (c := fun r => A r c) hY (pcols J A K) (fun d hd r => by obtain ⟨k, hk, rfl⟩ := mem_pcols.1 hd; exact h1 k hk r) (i :: downs K) (by simp [pcols_len, downs_len])
  rw [pcols_len] at this
  exact this

theorem Stage.up_le {K N : Nat} {J : Nat → Nat} {R A : Nat → Vec} (h : Stage K N J R A) (h1 : ∀ k, k < K → ∀ r, -1 ≤ A r (J k) ∧ A r (J k) ≤ 1) {p : Nat} (hp : p < K) (hpr : Prim (R p))
    {c : Nat} {Y : Int} (hY : ∀ r, -Y ≤ A r c ∧ A r c ≤ Y) : (R p c).natAbs ≤ ((K : Nat) * (Y * fact (K - 1))).toNat := by
  obtain ⟨⟨s, hs, e0⟩, e⟩ := h.minorU hp
  have hx : Go.Proofs.Ytfipebkhomppmaa.minorU K J A p (J p) ≠ 0 := by
    rw [e0]; have := h.d0
    rcases hs with rfl | rfl <;> omega
  refine Nat.le_trans (ratio_le hx (fun c => (e c).symm) hpr c) (natAbs_le_of ?_)
  have hl := (pcols_front (J := J) (A := A) hp).2
  have := det_le2 (c := fun r => A r c) hY (pcolsBut J A p K) (fun d hd r => by obtain ⟨k, hk, rfl⟩ := of_mem_pcolsBut hd; exact h1 k hk r) (downs K) (by rw [downs_len]; exact hl.symm)
  rw [hl, show (pcolsBut J A p K).length = K - 1 by omega] at this
  exact this

/-- a pivot divides the pivots' determinant -/
theorem Stage.piv_dvd {K N : Nat} {J : Nat → Nat} {R A : Nat → Vec} (h : Stage K N J R A) {p : Nat} (hp : p < K) (hpr : Prim (R p)) : R p (J p) ∣ det (pcols J A K) (downs K) := by
  obtain ⟨⟨s, hs, e0⟩, e⟩ := h.minorU hp
  obtain ⟨d, hd⟩ : ∃ d, d = det (pcols J A K) (downs K) := ⟨_, rfl⟩
  rw [← hd] at e0 ⊢
  -- R p (J p) * E c = (s d) * R p c; the row has no common divisor
  rw [e0] at e
  obtain ⟨x, hx⟩ : ∃ x, x = R p (J p) := ⟨_, rfl⟩
  rw [← hx] at e ⊢
  have hx0 : x ≠ 0 := by rw [hx]; exact h.red.piv p hp
  have hg : 0 < Nat.gcd x.natAbs d.natAbs := Nat.gcd_pos_of_pos_left _ (by omega)
  obtain ⟨g, hge⟩ : ∃ g, g = Nat.gcd x.natAbs d.natAbs := ⟨_, rfl⟩
  have e1 : x.natAbs / g * g = x.natAbs := by rw [hge]; exact Nat.div_mul_cancel (Nat.gcd_dvd_left _ _)
  have e2 : d.natAbs / g * g = d.natAbs := by rw [hge]; exact Nat.div_mul_cancel (Nat.gcd_dvd_right _ _)
  have hco : Nat.Coprime (x.natAbs / g) (d.natAbs / g) := by rw [hge] at *; exact Nat.coprime_div_gcd_div_gcd hg
  rw [← hge] at hg
  have hsd : (s * d).natAbs = d.natAbs := by rcases hs with rfl | rfl <;> simp
  have hdv : ∀ c, ((x.natAbs / g : Nat) : Int) ∣ R p c := by
    intro c
    refine Int.ofNat_dvd_left.2 ?_
    refine Nat.Coprime.dvd_of_dvd_mul_left hco (m := d.natAbs / g) ?_
    have h1 : x.natAbs * (Go.Proofs.Ytfipebkhomppmaa.minorU K J A p c).natAbs = d.natAbs * (R p c).natAbs := by rw [← Int.natAbs_mul, e c, Int.natAbs_mul, hsd]
    rw [← e1, ← e2] at h1
    have h2 : x.natAbs / g * (Go.Proofs.Ytfipebkhomppmaa.minorU K J A p c).natAbs = d.natAbs / g * (R p c).natAbs := by
      refine Nat.eq_of_mul_eq_mul_left hg ?_
      rw [← Nat.mul_assoc, ← Nat.mul_assoc, Nat.mul_comm g, Nat.mul_comm g]
      exact h1
    rw [← h2]; exact Nat.dvd_mul_right _ _
  have h1 : x.natAbs / g = 1 := Nat.dvd_one.1 (Int.ofNat_dvd_left.1 (hpr _ hdv))
  rw [h1, Nat.one_mul] at e1
  rw [← Int.natAbs_dvd_natAbs, ← e1, ← e2]
  exact Nat.dvd_mul_left _ _

/-- a reduced system in echelon form -/
structure Ech (K : Nat) (J : Nat → Nat) (R : Nat → Vec) : Prop where
  red : Red K J R
  lead : ∀ k, k < K → ∀ c, c < J k → R k c = 0
  asc : ∀ k q, k < q → q < K → J k < J q

theorem Ech.pivot_iff {K : Nat} {J : Nat → Nat} {R : Nat → Vec} (h : Ech K J R) (j : Nat) : (∃ k, k < K ∧ J k = j) ↔ ∃ v, Sp (RB K R) v ∧ v j ≠ 0 ∧ ∀ c, c < j → v c = 0 := by
  constructor
  · rintro ⟨k, hk, rfl⟩
    exact ⟨R k, RB.sp hk, h.red.piv k hk, h.lead k hk⟩
  · rintro ⟨v, hv, hj, h0⟩
    rcases Classical.em (∃ k, k < K ∧ J k = j) with c | c
    · exact c
    · exfalso
      obtain ⟨D, hD, e, hr⟩ := h.red.repr
      have := hr v hv j
      rw [sm_congr (g := fun _ => 0) (fun k hk => ?_), sm_zero] at this
      · rcases Int.mul_eq_zero.1 this with h | h
        · exact hD h
        · exact hj h
      · rcases Nat.lt_trichotomy (J k) j with h1 | h1 | h1
        · simp [h0 _ h1]
        · exact absurd ⟨k, hk, h1⟩ c
        · rw [h.lead k hk j h1]; simp

/-- strictly ascending lists with the same members are one -/
theorem asc_eq : ∀ {l m : List Nat}, l.Pairwise (· < ·) → m.Pairwise (· < ·) → (∀ x, x ∈ l ↔ x ∈ m) → l = m
  | [], [], _, _, _ => rfl
  | [], b :: m, _, _, h => by have := (h b).2 (by simp); simp at this
  | a :: l, [], _, _, h => by have := (h a).1 (by simp); simp at this
  | a :: l, b :: m, hl, hm, h => by
    rw [List.pairwise_cons] at hl hm
    have e : a = b := by
      rcases List.mem_cons.1 ((h a).1 (by simp)) with e | e
      · exact e
      · have h1 := hm.1 a e
        rcases List.mem_cons.1 ((h b).2 (by simp)) with e' | e'
        · omega
        · have := hl.1 b e'; omega
    subst e
    rw [asc_eq hl.2 hm.2 fun x => ?_]
    constructor
    · intro hx
      have h1 := hl.1 x hx
      rcases List.mem_cons.1 ((h x).1 (by simp [hx])) with e | e
      · omega
      · exact e
    · intro hx
      have h1 := hm.1 x hx
      rcases List.mem_cons.1 ((h x).2 (by simp [hx])) with e | e
      · omega
      · exact e

theorem Ech.asc_list {K : Nat} {J : Nat → Nat} {R : Nat → Vec} (h : Ech K J R) : ((List.range K).map J).Pairwise (· < ·) := by
  rw [List.pairwise_map]
  refine (List.pairwise_lt_range (n := K)).imp_of_mem fun {a b} ha hb hab => ?_
  exact h.asc a b hab (by simpa using hb)

theorem Ech.unique {K K' : Nat} {J J' : Nat → Nat} {R R' : Nat → Vec} (h : Ech K J R) (h' : Ech K' J' R') (h1 : ∀ k, k < K → Sp (RB K' R') (R k)) (h2 : ∀ k, k < K' → Sp (RB K R) (R' k)) :
    K = K' ∧ (∀ k, k < K → J k = J' k) ∧ ∀ k, k < K → ∀ c, R' k (J k) * R k c = R k (J k) * R' k c := by
  have hs : ∀ v, Sp (RB K R) v ↔ Sp (RB K' R') v := fun v => ⟨fun hv => hv.trans fun u ⟨k, hk, e⟩ => e ▸ h1 k hk, fun hv => hv.trans fun u ⟨k, hk, e⟩ => e ▸ h2 k hk⟩
  have hl : (List.range K).map J = (List.range K').map J' := by
    refine asc_eq h.asc_list h'.asc_list fun x => ?_
    simp only [List.mem_map, List.mem_range]
    rw [h.pivot_iff, h'.pivot_iff]
    constructor
    · rintro ⟨v, hv, r⟩; exact ⟨v, (hs v).1 hv, r⟩
    · rintro ⟨v, hv, r⟩; exact ⟨v, (hs v).2 hv, r⟩
  have hK : K = K' := by have := congrArg List.length hl; simpa using this
  subst hK
  have hJ : ∀ k, k < K → J k = J' k := by
    intro k hk
    have := congrArg (fun l => l[k]?) hl
    simpa [hk] using this
  refine ⟨rfl, hJ, fun k hk c => ?_⟩
  have hv := h1 k hk
  have := h'.red.ratio hv hk (fun q hq hne => by rw [← hJ q hq]; exact h.red.off k hk q hq (Ne.symm hne)) c
  rw [← hJ k hk] at this
  exact this

theorem prim_eq {V W : Vec} {x y : Int} (hx : 0 < x) (hy : 0 < y) (h : ∀ c, x * V c = y * W c) (hV : Prim V) (hW : Prim W) (c : Nat) : V c = W c := by
  have h1 := ratio_le (by omega) h hV c
  have h2 := ratio_le (by omega) (fun c => (h c).symm) hW c
  have h3 := h c
  rcases Int.lt_trichotomy (V c) 0 with a | a | a
  · have : x * V c < 0 := Int.mul_neg_of_pos_of_neg hx a
    rcases Classical.em (W c < 0) with b | b
    · omega
    · have := Int.mul_nonneg (Int.le_of_lt hy) (show 0 ≤ W c by omega); omega
  · omega
  · have : 0 < x * V c := Int.mul_pos hx a
    rcases Classical.em (0 < W c) with b | b
    · omega
    · have := Int.mul_nonneg (Int.le_of_lt hy) (show 0 ≤ - W c by omega)
      rw [Int.mul_neg] at this; omega
end

section
set_option linter.unusedVariables false

/-- a list as a vector, 0 behind it -/
def vec (l : List Int) : Vec := fun c => l[c]?.getD 0
theorem vec_lt {l : List Int} {c : Nat} (h : c < l.length) : vec l c = l[c] := by simp [vec, h]
theorem vec_ge {l : List Int} {c : Nat} (h : l.length ≤ c) : vec l c = 0 := by simp [vec, h]
theorem vec_mem {l : List Int} {P : Int → Prop} (h0 : P 0) (h : ∀ x ∈ l, P x) (c : Nat) : P (vec l c) := by
  rcases Nat.lt_or_ge c l.length with hc | hc
  · rw [vec_lt hc]; exact h _ (List.getElem_mem hc)
  · rw [vec_ge hc]; exact h0
theorem mem_vec {l : List Int} {P : Int → Prop} (h : ∀ c, P (vec l c)) : ∀ x ∈ l, P x := by
  intro x hx
  obtain ⟨c, hc, rfl⟩ := List.mem_iff_getElem.1 hx
  rw [← vec_lt hc]; exact h c
theorem vec_map {f : Int → Int} (h0 : f 0 = 0) (l : List Int) (c : Nat) : vec (l.map f) c = f (vec l c) := by
  rcases Nat.lt_or_ge c l.length with hc | hc
  · rw [vec_lt (by simpa using hc), vec_lt hc]; simp
  · rw [vec_ge (by simpa using hc), vec_ge hc, h0]
theorem vec_zip {f : Int → Int → Int} (h0 : f 0 0 = 0) {l m : List Int} (hl : l.length = m.length) (c : Nat) : vec (List.zipWith f l m) c = f (vec l c) (vec m c) := by
  rcases Nat.lt_or_ge c l.length with hc | hc
  · rw [vec_lt (by simp; omega), vec_lt hc, vec_lt (by omega)]; simp
  · rw [vec_ge (by simp; omega), vec_ge hc, vec_ge (by omega), h0]

/-- the greatest common divisor of a list -/
def gcdL (l : List Int) : Int := l.foldl (fun g n => ((Int.gcd g n : Nat) : Int)) 0

theorem gcdL_fold (l : List Int) : ∀ g : Int, 0 ≤ g → 0 ≤ l.foldl (fun g n => ((Int.gcd g n : Nat) : Int)) g ∧ (l.foldl (fun g n => ((Int.gcd g n : Nat) : Int)) g ∣ g) ∧ (∀ x ∈ l, l.foldl (fun g n => ((Int.gcd g n : Nat) : Int)) g ∣ x) ∧ ∀ d, d ∣ g → (∀ x ∈ l, d ∣ x) → d ∣ l.foldl (fun g n => ((Int.gcd g n : Nat) : Int)) g := by
  induction l with
  | nil => intro g hg; exact ⟨hg, Int.dvd_refl _, by simp, fun d h _ => h⟩
  | cons n l ih =>
    intro g hg
    obtain ⟨h1, h2, h3, h4⟩ := ih ((Int.gcd g n : Nat) : Int) (Int.natCast_nonneg _)
    refine ⟨h1, Int.dvd_trans h2 (Int.gcd_dvd_left ..), fun x hx => ?_, fun d hd hl => ?_⟩
    · rcases List.mem_cons.1 hx with rfl | hx
      · exact Int.dvd_trans h2 (Int.gcd_dvd_right ..)
      · exact h3 x hx
    · exact h4 d (Int.dvd_coe_gcd hd (hl n (by simp))) (fun x hx => hl x (by simp [hx]))
theorem gcdL_nonneg (l : List Int) : 0 ≤ gcdL l := (gcdL_fold l 0 (Int.le_refl _)).1
theorem gcdL_dvd {l : List Int} {x : Int} (h : x ∈ l) : gcdL l ∣ x := (gcdL_fold l 0 (Int.le_refl _)).2.2.1 x h
theorem dvd_gcdL {l : List Int} {d : Int} (h : ∀ x ∈ l, d ∣ x) : d ∣ gcdL l := (gcdL_fold l 0 (Int.le_refl _)).2.2.2 d (Int.dvd_zero _) h
theorem gcdL_zero {l : List Int} (h : gcdL l = 0) : ∀ x ∈ l, x = 0 := fun x hx => by have := gcdL_dvd hx; rw [h] at this; exact Int.zero_dvd.1 this

/-- a row divided by its common divisor -/
def shortF (l : List Int) : List Int := if 1 < gcdL l then l.map (fun x => x.tdiv (gcdL l)) else l
theorem shortF_len (l : List Int) : (shortF l).length = l.length := by unfold shortF; split <;> simp

theorem shortF_mul (l : List Int) : ∃ g : Int, 0 < g ∧ ∀ c, g * vec (shortF l) c = vec l c := by
  unfold shortF
  by_cases h : 1 < gcdL l
  · rw [if_pos h]
    refine ⟨gcdL l, by omega, fun c => ?_⟩
    rw [vec_map (by simp)]
    exact Int.mul_tdiv_cancel' (vec_mem (P := fun x => gcdL l ∣ x) (Int.dvd_zero _) (fun x hx => gcdL_dvd hx) c)
  · rw [if_neg h]; exact ⟨1, by decide, fun c => by simp⟩

theorem shortF_prim (l : List Int) : Prim (vec (shortF l)) ∨ ∀ c, vec (shortF l) c = 0 := by
  by_cases h0 : gcdL l = 0
  · right
    have hz := gcdL_zero h0
    unfold shortF
    rw [if_neg (by omega)]
    exact fun c => vec_mem (P := fun x => x = 0) rfl hz c
  · left
    have hn := gcdL_nonneg l
    intro d hd
    unfold shortF at hd
    by_cases h : 1 < gcdL l
    · rw [if_pos h] at hd
      have : gcdL l * d ∣ gcdL l := by
        refine dvd_gcdL fun x hx => ?_
        obtain ⟨c, hc, rfl⟩ := List.mem_iff_getElem.1 hx
        have h1 := hd c
        rw [vec_map (by simp), vec_lt hc] at h1
        obtain ⟨k, hk⟩ := h1
        have h2 := Int.mul_tdiv_cancel' (gcdL_dvd hx)
        refine ⟨k, ?_⟩
        rw [hk] at h2
        rw [← h2]; grind
      obtain ⟨k, hk⟩ := this
      have h3 : d * k = 1 := by
        refine Int.eq_of_mul_eq_mul_left (show gcdL l ≠ 0 by omega) ?_
        rw [Int.mul_one, ← Int.mul_assoc]; exact hk.symm
      exact ⟨k, h3.symm⟩
    · rw [if_neg h] at hd
      have h1 : gcdL l = 1 := by omega
      rw [← h1]
      exact dvd_gcdL (mem_vec hd)

/-- a row less so much of another one that it has 0 at j -/
def clearF (row by' : List Int) (j : Nat) : List Int :=
  let a := vec row j
  let b := vec by' j
  let g : Int := (Int.gcd a b : Nat)
  shortF (List.zipWith (fun x y => x * (b.tdiv g) - y * (a.tdiv g)) row by')

theorem clearF_len {row by' : List Int} (h : row.length = by'.length) (j : Nat) : (clearF row by' j).length = row.length := by
  unfold clearF; rw [shortF_len]; simp; omega

theorem clearF_prim (row by' : List Int) (j : Nat) : Prim (vec (clearF row by' j)) ∨ ∀ c, vec (clearF row by' j) c = 0 := shortF_prim _

theorem clearF_mul {row by' : List Int} (h : row.length = by'.length) {j : Nat} (hb : 0 < vec by' j) :
    vec (clearF row by' j) j = 0 ∧ ∃ x y g : Int, x ≠ 0 ∧ 0 < x ∧ 0 < g ∧ ∀ c, g * vec (clearF row by' j) c = x * vec row c + y * vec by' c := by
  obtain ⟨g, hg, e⟩ := shortF_mul (List.zipWith (fun x y => x * ((vec by' j).tdiv (Int.gcd (vec row j) (vec by' j) : Nat)) - y * ((vec row j).tdiv (Int.gcd (vec row j) (vec by' j) : Nat))) row by')
  have e' : ∀ c, g * vec (clearF row by' j) c = vec row c * ((vec by' j).tdiv (Int.gcd (vec row j) (vec by' j) : Nat)) - vec by' c * ((vec row j).tdiv (Int.gcd (vec row j) (vec by' j) : Nat)) := by
    intro c
    have := e c
    rw [vec_zip (by simp) h] at this
    exact this
  obtain ⟨a, ha⟩ : ∃ a, a = vec row j := ⟨_, rfl⟩
  obtain ⟨b, hbb⟩ : ∃ b, b = vec by' j := ⟨_, rfl⟩
  rw [← ha, ← hbb] at e'
  rw [← hbb] at hb
  obtain ⟨d, hd⟩ : ∃ d : Int, d = (Int.gcd a b : Nat) := ⟨_, rfl⟩
  rw [← hd] at e'
  have hd0 : 0 < d := by
    rw [hd]
    have : 0 < Int.gcd a b := Int.gcd_pos_of_ne_zero_right _ (by omega)
    omega
  have d1 : d * a.tdiv d = a := Int.mul_tdiv_cancel' (by rw [hd]; exact Int.gcd_dvd_left ..)
  have d2 : d * b.tdiv d = b := Int.mul_tdiv_cancel' (by rw [hd]; exact Int.gcd_dvd_right ..)
  obtain ⟨a1, ha1⟩ : ∃ x, x = a.tdiv d := ⟨_, rfl⟩
  obtain ⟨b1, hb1⟩ : ∃ x, x = b.tdiv d := ⟨_, rfl⟩
  rw [← ha1] at d1 e'
  rw [← hb1] at d2 e'
  have hb1p : 0 < b1 := by
    rcases Int.lt_trichotomy b1 0 with h | h | h
    · have := Int.mul_neg_of_pos_of_neg hd0 h; omega
    · subst h; simp at d2; omega
    · exact h
  refine ⟨?_, b1, -a1, g, by omega, hb1p, hg, fun c => by rw [e' c]; grind⟩
  have := e' j
  rw [← ha, ← hbb, ← d1, ← d2] at this
  exact eq_zero_of_mul (g := g) (by omega) (by rw [this]; grind)

def negF (l : List Int) : List Int := l.map (fun x => -x)
theorem negF_vec (l : List Int) (c : Nat) : vec (negF l) c = - vec l c := vec_map (by simp) l c
/-- a row with its number at j not below 0 -/
def posF (l : List Int) (j : Nat) : List Int := if vec l j < 0 then negF l else l
theorem posF_len (l : List Int) (j : Nat) : (posF l j).length = l.length := by unfold posF negF; split <;> simp
theorem posF_mul (l : List Int) (j : Nat) : ∃ z : Int, (z = 1 ∨ z = -1) ∧ ∀ c, vec (posF l j) c = z * vec l c := by
  unfold posF
  split
  · exact ⟨-1, .inr rfl, fun c => by rw [negF_vec]; omega⟩
  · exact ⟨1, .inl rfl, fun c => by omega⟩
theorem posF_pos {l : List Int} {j : Nat} (h : vec l j ≠ 0) : 0 < vec (posF l j) j := by
  unfold posF
  split
  · rw [negF_vec]; omega
  · omega
theorem prim_neg {V W : Vec} {z : Int} (hz : z = 1 ∨ z = -1) (h : ∀ c, W c = z * V c) (hp : Prim V) : Prim W := by
  intro g hg
  refine hp g fun c => ?_
  have := hg c
  rw [h] at this
  rcases hz with rfl | rfl
  · simpa using this
  · obtain ⟨k, hk⟩ := this
    exact ⟨-k, by grind⟩
end
end Go.Proofs.Ytfipebkhomppmaa
