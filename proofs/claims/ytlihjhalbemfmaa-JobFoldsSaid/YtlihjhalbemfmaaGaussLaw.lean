/- Plain law: the greatest common divisor of points with whole coordinates, by Euclid's way and turned into the first quarter, is the one such divisor; so it hangs on its points' divisors alone. -/
namespace Go.Proofs.Ytlihjhalbemfmaa.Gs

/-- A point. -/
structure Pt where
  x : Int
  y : Int
deriving DecidableEq

def zero : Pt := ⟨0, 0⟩
def mul (a b : Pt) : Pt := ⟨a.x * b.x - a.y * b.y, a.x * b.y + a.y * b.x⟩
def sub (a b : Pt) : Pt := ⟨a.x - b.x, a.y - b.y⟩
def norm (a : Pt) : Int := a.x * a.x + a.y * a.y
def turn (a : Pt) : Pt := ⟨-a.y, a.x⟩
/-- A quotient rounded to the nearest, a half up. -/
def nearest (n b : Int) : Int := (2 * n + b) / (2 * b)
def quo (a b : Pt) : Pt := ⟨nearest (a.x * b.x + a.y * b.y) (norm b), nearest (a.y * b.x - a.x * b.y) (norm b)⟩
def rest (a b : Pt) : Pt := sub a (mul (quo a b) b)

theorem sq_nonneg (n : Int) : 0 ≤ n * n := by
  rcases Int.le_total 0 n with h | h
  · exact Int.mul_nonneg h h
  · have := Int.mul_nonneg (Int.neg_nonneg_of_nonpos h) (Int.neg_nonneg_of_nonpos h)
    rwa [Int.neg_mul_neg] at this

theorem sq_pos {n : Int} (h : n ≠ 0) : 0 < n * n := by
  have h1 := sq_nonneg n
  have h2 : n * n ≠ 0 := Int.mul_ne_zero h h
  omega

theorem norm_nonneg (a : Pt) : 0 ≤ norm a := by
  have := sq_nonneg a.x; have := sq_nonneg a.y; unfold norm; omega

theorem norm_pos {a : Pt} (h : a ≠ zero) : 0 < norm a := by
  have h1 := sq_nonneg a.x; have h2 := sq_nonneg a.y
  by_cases hx : a.x = 0
  · by_cases hy : a.y = 0
    · exact absurd (by cases a; simp_all [zero]) h
    · have := sq_pos hy; unfold norm; omega
  · have := sq_pos hx; unfold norm; omega

theorem norm_zero {a : Pt} (h : norm a = 0) : a = zero := by
  by_cases e : a = zero
  · exact e
  · have := norm_pos e; omega

theorem norm_mul (a b : Pt) : norm (mul a b) = norm a * norm b := by
  unfold norm mul; simp only; grind

theorem nearest_bd (n b : Int) (hb : 0 < b) : -b ≤ 2 * (n - nearest n b * b) ∧ 2 * (n - nearest n b * b) ≤ b := by
  have h1 := Int.mul_ediv_self_le (x := 2 * n + b) (k := 2 * b) (by omega)
  have h2 := Int.lt_mul_ediv_self_add (x := 2 * n + b) (k := 2 * b) (by omega)
  have e : 2 * b * ((2 * n + b) / (2 * b)) = 2 * (nearest n b * b) := by unfold nearest; grind
  rw [e] at h1 h2
  omega

theorem sq_le {u c : Int} (h1 : -c ≤ u) (h2 : u ≤ c) : u * u ≤ c * c := by
  have h := Int.mul_nonneg (show 0 ≤ c - u by omega) (show 0 ≤ c + u by omega)
  have e : (c - u) * (c + u) = c * c - u * u := by grind
  omega

/-- The rest is at most half as great. -/
theorem rest_norm (a b : Pt) (hb : b ≠ zero) : 2 * norm (rest a b) ≤ norm b := by
  have hp := norm_pos hb
  obtain ⟨p1, p2⟩ := nearest_bd (a.x * b.x + a.y * b.y) (norm b) hp
  obtain ⟨q1, q2⟩ := nearest_bd (a.y * b.x - a.x * b.y) (norm b) hp
  have s1 := sq_le p1 p2
  have s2 := sq_le q1 q2
  generalize hX : nearest (a.x * b.x + a.y * b.y) (norm b) = qx at *
  generalize hY : nearest (a.y * b.x - a.x * b.y) (norm b) = qy at *
  have e : 4 * (norm (rest a b) * norm b) = 2 * (a.x * b.x + a.y * b.y - qx * norm b) * (2 * (a.x * b.x + a.y * b.y - qx * norm b)) + 2 * (a.y * b.x - a.x * b.y - qy * norm b) * (2 * (a.y * b.x - a.x * b.y - qy * norm b)) := by
    unfold rest quo
    rw [hX, hY]
    unfold sub mul norm
    simp only
    grind
  have h4 : 4 * (norm (rest a b) * norm b) ≤ 2 * (norm b * norm b) := by omega
  by_cases hc : 2 * norm (rest a b) ≤ norm b
  · exact hc
  · have h5 : norm b + 1 ≤ 2 * norm (rest a b) := by omega
    have h6 := Int.mul_le_mul_of_nonneg_right h5 (Int.le_of_lt hp)
    have e2 : (norm b + 1) * norm b = norm b * norm b + norm b := by grind
    have e3 : 2 * norm (rest a b) * norm b = 2 * (norm (rest a b) * norm b) := by grind
    omega

/-- Divides. -/
def Dv (d a : Pt) : Prop := ∃ c, a = mul d c

theorem dv_refl (a : Pt) : Dv a a := ⟨⟨1, 0⟩, by cases a; simp [mul]⟩
theorem dv_zero (d : Pt) : Dv d zero := ⟨zero, by simp [mul, zero]⟩
theorem dv_trans {a b c : Pt} (h : Dv a b) (k : Dv b c) : Dv a c := by
  obtain ⟨u, rfl⟩ := h; obtain ⟨v, rfl⟩ := k
  exact ⟨mul u v, by simp only [mul, Pt.mk.injEq]; constructor <;> grind⟩
theorem dv_mul {d b : Pt} (h : Dv d b) (q : Pt) : Dv d (mul q b) := by
  obtain ⟨u, rfl⟩ := h
  exact ⟨mul u q, by simp only [mul, Pt.mk.injEq]; constructor <;> grind⟩
theorem dv_sub {d a b : Pt} (h : Dv d a) (k : Dv d b) : Dv d (sub a b) := by
  obtain ⟨u, rfl⟩ := h; obtain ⟨v, rfl⟩ := k
  exact ⟨sub u v, by simp only [mul, sub, Pt.mk.injEq]; constructor <;> grind⟩
theorem dv_rest {d a b : Pt} : (Dv d b ∧ Dv d (rest a b)) ↔ (Dv d a ∧ Dv d b) := by
  constructor
  · rintro ⟨hb, hr⟩
    refine ⟨?_, hb⟩
    obtain ⟨u, hu⟩ := hr
    obtain ⟨v, hv⟩ := dv_mul hb (quo a b)
    refine ⟨⟨u.x + v.x, u.y + v.y⟩, ?_⟩
    have h1 : a = ⟨(rest a b).x + (mul (quo a b) b).x, (rest a b).y + (mul (quo a b) b).y⟩ := by
      cases a; simp [rest, sub]
    rw [h1, hu, hv]
    simp only [mul, Pt.mk.injEq]
    constructor <;> grind
  · rintro ⟨ha, hb⟩
    exact ⟨hb, dv_sub ha (dv_mul hb _)⟩

/-- Euclid's way: k bounds the rounds. -/
def euclid : Nat → Pt → Pt → Pt
  | 0, a, _ => a
  | k + 1, a, b => if b = zero then a else euclid k b (rest a b)

/-- In the first quarter. -/
def First (a : Pt) : Prop := a = zero ∨ (0 < a.x ∧ 0 ≤ a.y)
instance (a : Pt) : Decidable (First a) := by unfold First; exact inferInstance

/-- Turned till it is in the first quarter, at most so many times. -/
def turned : Nat → Pt → Pt
  | 0, a => a
  | k + 1, a => if First a then a else turned k (turn a)

theorem turn_dv (a : Pt) : Dv a (turn a) ∧ Dv (turn a) a :=
  ⟨⟨⟨0, 1⟩, by simp [mul, turn]⟩, ⟨⟨0, -1⟩, by cases a; simp [mul, turn]⟩⟩

theorem turned_dv (k : Nat) (a : Pt) : Dv a (turned k a) ∧ Dv (turned k a) a := by
  induction k generalizing a with
  | zero => exact ⟨dv_refl a, dv_refl a⟩
  | succ k ih =>
    simp only [turned]
    split
    · exact ⟨dv_refl a, dv_refl a⟩
    · exact ⟨dv_trans (turn_dv a).1 (ih _).1, dv_trans (ih _).2 (turn_dv a).2⟩

theorem turned_first (a : Pt) : First (turned 3 a) := by
  simp only [turned]
  by_cases h1 : First a
  · rw [if_pos h1]; exact h1
  rw [if_neg h1]
  by_cases h2 : First (turn a)
  · rw [if_pos h2]; exact h2
  rw [if_neg h2]
  by_cases h3 : First (turn (turn a))
  · rw [if_pos h3]; exact h3
  rw [if_neg h3]
  obtain ⟨x, y⟩ := a
  simp only [turn, First, zero, Pt.mk.injEq, not_or, not_and] at h1 h2 h3 ⊢
  omega

theorem euclid_dv (k : Nat) : ∀ a b : Pt, norm b < k → ∀ d, Dv d (euclid k a b) ↔ (Dv d a ∧ Dv d b) := by
  induction k with
  | zero => intro a b h; have := norm_nonneg b; omega
  | succ k ih =>
    intro a b h d
    simp only [euclid]
    by_cases hb : b = zero
    · rw [if_pos hb, hb]
      exact ⟨fun h => ⟨h, dv_zero d⟩, fun h => h.1⟩
    · rw [if_neg hb]
      have h1 := rest_norm a b hb
      have h2 := norm_pos hb
      rw [ih b (rest a b) (by have := norm_nonneg (rest a b); omega) d]
      exact dv_rest

/-- The rounds that suffice. -/
def rounds (b : Pt) : Nat := (norm b).toNat + 1
def common (a b : Pt) : Pt := turned 3 (euclid (rounds b) a b)

theorem common_dv (a b d : Pt) : Dv d (common a b) ↔ (Dv d a ∧ Dv d b) := by
  have h := euclid_dv (rounds b) a b (by have := norm_nonneg b; unfold rounds; omega) d
  rw [← h]
  obtain ⟨h1, h2⟩ := turned_dv 3 (euclid (rounds b) a b)
  exact ⟨fun h => dv_trans h h2, fun h => dv_trans h h1⟩

theorem common_first (a b : Pt) : First (common a b) := turned_first _

theorem mul_zero_left (c : Pt) : mul zero c = zero := by simp [mul, zero]

theorem first_unique {g h : Pt} (hg : First g) (hh : First h) (h1 : Dv g h) (h2 : Dv h g) : g = h := by
  obtain ⟨u, rfl⟩ := h1
  obtain ⟨v, hv⟩ := h2
  by_cases e : g = zero
  · rw [e, mul_zero_left]
  · have hn := norm_pos e
    have hN : norm g = norm g * norm u * norm v := by
      have : norm g = norm (mul (mul g u) v) := by rw [← hv]
      rw [norm_mul, norm_mul] at this; exact this
    have hu0 := norm_nonneg u
    have hv0 := norm_nonneg v
    have huv : norm u * norm v = 1 := by
      have : norm g * (norm u * norm v - 1) = 0 := by
        have e2 : norm g * (norm u * norm v - 1) = norm g * norm u * norm v - norm g := by grind
        omega
      rcases Int.mul_eq_zero.1 this with h | h
      · omega
      · omega
    have hu1 : norm u = 1 := by
      have hup : 0 < norm u := by
        rcases Int.lt_or_eq_of_le hu0 with h | h
        · exact h
        · rw [← h] at huv; simp at huv
      have hvp : 0 < norm v := by
        rcases Int.lt_or_eq_of_le hv0 with h | h
        · exact h
        · rw [← h] at huv; simp at huv
      have := Int.mul_le_mul_of_nonneg_left (show 1 ≤ norm v by omega) hu0
      omega
    have hsx := sq_nonneg u.x
    have hsy := sq_nonneg u.y
    have hu2 : u.x * u.x + u.y * u.y = 1 := hu1
    have bx : -1 ≤ u.x ∧ u.x ≤ 1 := by
      have hle : u.x * u.x ≤ 1 := by omega
      constructor
      · by_cases c : -1 ≤ u.x
        · exact c
        · have := Int.mul_le_mul_of_nonneg_left (show (2:Int) ≤ -u.x by omega) (show (0:Int) ≤ -u.x by omega)
          have e5 : -u.x * -u.x = u.x * u.x := by grind
          omega
      · by_cases c : u.x ≤ 1
        · exact c
        · have := Int.mul_le_mul_of_nonneg_left (show (2:Int) ≤ u.x by omega) (show (0:Int) ≤ u.x by omega)
          omega
    have by' : -1 ≤ u.y ∧ u.y ≤ 1 := by
      have hle : u.y * u.y ≤ 1 := by omega
      constructor
      · by_cases c : -1 ≤ u.y
        · exact c
        · have := Int.mul_le_mul_of_nonneg_left (show (2:Int) ≤ -u.y by omega) (show (0:Int) ≤ -u.y by omega)
          have e5 : -u.y * -u.y = u.y * u.y := by grind
          omega
      · by_cases c : u.y ≤ 1
        · exact c
        · have := Int.mul_le_mul_of_nonneg_left (show (2:Int) ≤ u.y by omega) (show (0:Int) ≤ u.y by omega)
          omega
    obtain ⟨ux, uy⟩ := u
    obtain ⟨gx, gy⟩ := g
    simp only at hu2 bx by' hsx hsy
    have cx : ux = -1 ∨ ux = 0 ∨ ux = 1 := by omega
    have cy : uy = -1 ∨ uy = 0 ∨ uy = 1 := by omega
    have e' : ¬ (gx = 0 ∧ gy = 0) := fun h => e (by simp [zero, h.1, h.2])
    rcases cx with rfl | rfl | rfl <;> rcases cy with rfl | rfl | rfl <;> simp at hu2 <;>
      (simp only [First, zero, mul, Pt.mk.injEq] at hg hh ⊢; omega)

theorem common_unique {a b c d : Pt} (h : ∀ e, (Dv e a ∧ Dv e b) ↔ (Dv e c ∧ Dv e d)) : common a b = common c d := by
  refine first_unique (common_first _ _) (common_first _ _) ?_ ?_
  · rw [common_dv, ← h, ← common_dv]; exact dv_refl _
  · rw [common_dv, h, ← common_dv]; exact dv_refl _

theorem common_comm (a b : Pt) : common a b = common b a := common_unique fun _ => And.comm
theorem common_assoc (a b c : Pt) : common (common a b) c = common a (common b c) :=
  common_unique fun e => by rw [common_dv, common_dv]; exact and_assoc

/-- Small: the norm is at most 2 ^ 49. -/
theorem part_small {a : Pt} (h : norm a ≤ 281474976710656) : -16777216 ≤ a.x ∧ a.x ≤ 16777216 ∧ -16777216 ≤ a.y ∧ a.y ≤ 16777216 := by
  have hx := sq_nonneg a.x; have hy := sq_nonneg a.y
  have h0 : a.x * a.x + a.y * a.y ≤ 281474976710656 := h
  have key : ∀ n : Int, n * n ≤ 281474976710656 → -16777216 ≤ n ∧ n ≤ 16777216 := by
    intro n hn
    constructor
    · by_cases c : -16777216 ≤ n
      · exact c
      · have := Int.mul_le_mul (show (16777217:Int) ≤ -n by omega) (show (16777217:Int) ≤ -n by omega) (by omega) (by omega)
        have e5 : -n * -n = n * n := by grind
        omega
    · by_cases c : n ≤ 16777216
      · exact c
      · have := Int.mul_le_mul (show (16777217:Int) ≤ n by omega) (show (16777217:Int) ≤ n by omega) (by omega) (by omega)
        omega
  obtain ⟨k1, k2⟩ := key a.x (by omega)
  obtain ⟨k3, k4⟩ := key a.y (by omega)
  exact ⟨k1, k2, k3, k4⟩

/-- Small enough: each part is at most 2^24, either way. -/
def Sm (a : Pt) : Prop := -16777216 ≤ a.x ∧ a.x ≤ 16777216 ∧ -16777216 ≤ a.y ∧ a.y ≤ 16777216

theorem norm_le_of_small {a : Pt} (h : Sm a) : norm a ≤ 562949953421312 := by
  obtain ⟨h1, h2, h3, h4⟩ := h
  have := sq_le h1 h2
  have := sq_le h3 h4
  unfold norm; omega

theorem rest_small (a b : Pt) (hb : Sm b) (h0 : b ≠ zero) : Sm (rest a b) := by
  have h1 := rest_norm a b h0
  have h2 := norm_le_of_small hb
  exact part_small (by omega)

theorem turn_small {a : Pt} (h : Sm a) : Sm (turn a) := by
  unfold Sm turn at *; simp only; omega

theorem euclid_small (k : Nat) : ∀ a b : Pt, Sm a → Sm b → Sm (euclid k a b) := by
  induction k with
  | zero => intro a b ha _; exact ha
  | succ k ih =>
    intro a b ha hb
    simp only [euclid]
    by_cases h : b = zero
    · rw [if_pos h]; exact ha
    · rw [if_neg h]; exact ih _ _ hb (rest_small a b hb h)

theorem turned_small (k : Nat) : ∀ a : Pt, Sm a → Sm (turned k a) := by
  induction k with
  | zero => intro a ha; exact ha
  | succ k ih =>
    intro a ha
    simp only [turned]
    split
    · exact ha
    · exact ih _ (turn_small ha)

theorem common_small {a b : Pt} (ha : Sm a) (hb : Sm b) : Sm (common a b) := turned_small _ _ (euclid_small _ _ _ ha hb)

theorem euclid_more (k : Nat) : ∀ (j : Nat) (a b : Pt), norm b < k → k ≤ j → euclid j a b = euclid k a b := by
  induction k with
  | zero => intro j a b h; have := norm_nonneg b; omega
  | succ k ih =>
    intro j a b h hj
    obtain ⟨j, rfl⟩ : ∃ i, j = i + 1 := ⟨j - 1, by omega⟩
    simp only [euclid]
    by_cases hb : b = zero
    · rw [if_pos hb, if_pos hb]
    · rw [if_neg hb, if_neg hb]
      have h1 := rest_norm a b hb
      have h2 := norm_pos hb
      exact ih j b (rest a b) (by have := norm_nonneg (rest a b); omega) (by omega)

theorem euclid_step (a b : Pt) (hb : b ≠ zero) : euclid (rounds b) a b = euclid (rounds (rest a b)) b (rest a b) := by
  have h1 := rest_norm a b hb
  have h2 := norm_pos hb
  have h3 := norm_nonneg (rest a b)
  unfold rounds
  rw [show (norm b).toNat + 1 = ((norm b).toNat) + 1 from rfl]
  conv => lhs; rw [euclid, if_neg hb]
  exact euclid_more _ _ _ _ (by omega) (by omega)

theorem euclid_end (a : Pt) (k : Nat) : euclid k a zero = a := by
  cases k with
  | zero => rfl
  | succ k => simp [euclid]

theorem turned_step {k : Nat} {a : Pt} (h : ¬ First a) (hf : First (turned k a)) : ∃ j, k = j + 1 ∧ turned k a = turned j (turn a) := by
  cases k with
  | zero => exact absurd hf h
  | succ j => exact ⟨j, rfl, by simp [turned, h]⟩

theorem turned_of_first {k : Nat} {a : Pt} (h : First a) : turned k a = a := by
  cases k with
  | zero => rfl
  | succ j => simp [turned, h]

end Go.Proofs.Ytlihjhalbemfmaa.Gs
