/- Plain law: sums, differences and products of whole numbers below 2^53, done as floats of 64 bits, are exact. -/
import Derived.Laws.ComplexArith
namespace Go.Proofs.Ytlihjhalbemfmaa.Fl
open Ieee

/-- The word b stands for the whole number n (a zero of whatever sign). -/
def IsF (b : Nat) (n : Int) : Prop :=
  (n = 0 ∧ ∃ s, double.read b = .number s 0 (-1074)) ∨
  (n ≠ 0 ∧ n.natAbs < 9007199254740992 ∧ double.read b = .number (decide (n < 0)) (n.natAbs * 2 ^ (52 - n.natAbs.log2)) ((n.natAbs.log2 : Int) - 52))

theorem log2_scale (N k : Nat) (h : 0 < N) : (N * 2 ^ k).log2 = N.log2 + k := by
  have hN : N ≠ 0 := by omega
  have h1 := Nat.log2_self_le hN
  have h2 := @Nat.lt_log2_self N
  refine (Nat.log2_eq_iff (Nat.mul_ne_zero hN (Nat.pos_iff_ne_zero.1 (Nat.two_pow_pos k)))).2 ⟨?_, ?_⟩
  · rw [Nat.pow_add]; exact Nat.mul_le_mul_right _ h1
  · rw [show N.log2 + k + 1 = (N.log2 + 1) + k by omega, Nat.pow_add]
    exact Nat.mul_lt_mul_of_pos_right h2 (Nat.two_pow_pos k)

theorem log2_lt {N : Nat} (h0 : 0 < N) (h : N < 9007199254740992) : N.log2 ≤ 52 := by
  have h1 := Nat.log2_self_le (show N ≠ 0 by omega)
  by_cases c : N.log2 ≤ 52
  · exact c
  · have : 2 ^ 53 ≤ 2 ^ N.log2 := Nat.pow_le_pow_right (by omega) (by omega)
    omega

theorem kept_bd {N : Nat} (h0 : 0 < N) (h : N < 9007199254740992) : 4503599627370496 ≤ N * 2 ^ (52 - N.log2) ∧ N * 2 ^ (52 - N.log2) < 9007199254740992 := by
  have h1 := Nat.log2_self_le (show N ≠ 0 by omega)
  have h2 := @Nat.lt_log2_self N
  have hl := log2_lt h0 h
  constructor
  · have := Nat.mul_le_mul_right (2 ^ (52 - N.log2)) h1
    rw [← Nat.pow_add, show N.log2 + (52 - N.log2) = 52 by omega] at this
    omega
  · have := Nat.mul_lt_mul_of_pos_right h2 (Nat.two_pow_pos (52 - N.log2))
    rw [← Nat.pow_add, show N.log2 + 1 + (52 - N.log2) = 53 by omega] at this
    omega

theorem read_word (s : Bool) (L kept : Nat) (hL : L ≤ 52) (h1 : 4503599627370496 ≤ kept) (h2 : kept < 9007199254740992) :
    double.read (double.word s (min ((L + 1022) * double.binade + kept) double.infRung)) = .number s kept ((L : Int) - 52) := by
  have hb : double.binade = 4503599627370496 := by decide
  have hi : double.infRung = 9218868437227405312 := by decide
  have hs : double.signWeight = 9223372036854775808 := by decide
  have hl : double.leastPlace = -1074 := by decide
  have hr : min ((L + 1022) * double.binade + kept) double.infRung = (L + 1022) * 4503599627370496 + kept := by rw [hb, hi]; omega
  rw [hr]
  have hq : ((L + 1022) * 4503599627370496 + kept) / 4503599627370496 = L + 1023 := by omega
  have hm : ((L + 1022) * 4503599627370496 + kept) % 4503599627370496 = kept - 4503599627370496 := by omega
  unfold Format.read Format.word
  rw [hb, hi, hs, hl]
  cases s
  · simp only [Bool.false_eq_true, if_false]
    have e1 : ((L + 1022) * 4503599627370496 + kept) % 9223372036854775808 = (L + 1022) * 4503599627370496 + kept := by omega
    have e2 : ((L + 1022) * 4503599627370496 + kept) / 9223372036854775808 = 0 := by omega
    rw [e1, e2, if_neg (by omega), if_pos (by omega), hq, hm]
    simp only [Datum.number.injEq]
    refine ⟨by decide, by omega, by omega⟩
  · simp only [if_true]
    have hlt : (L + 1022) * 4503599627370496 + kept < 9223372036854775808 := by omega
    have e1 : (9223372036854775808 + ((L + 1022) * 4503599627370496 + kept)) % 9223372036854775808 = (L + 1022) * 4503599627370496 + kept := by rw [Nat.add_mod_left, Nat.mod_eq_of_lt hlt]
    have e2 : (9223372036854775808 + ((L + 1022) * 4503599627370496 + kept)) / 9223372036854775808 = 1 := by rw [Nat.add_div_left _ (by decide), Nat.div_eq_of_lt hlt]
    rw [e1, e2, if_neg (by omega), if_pos (by omega), hq, hm]
    simp only [Datum.number.injEq]
    refine ⟨by decide, by omega, by omega⟩

theorem cut_exact (way : Toward) (s : Bool) (n d : Nat) (hd : d ≤ n.log2 + 2) (hn : n % 2 ^ d = 0) : way.cut s n d = n / 2 ^ d := by
  unfold Toward.cut
  rw [Nat.min_eq_left hd]
  have e : 1 <<< d = 2 ^ d := by rw [Nat.shiftLeft_eq, Nat.one_mul]
  rw [e]
  simp only [hn, Nat.mul_zero]
  have hp := Nat.two_pow_pos d
  have hne : (2 ^ d == 0) = false := by simp
  cases way <;> simp

theorem nearest_nat (s : Bool) (N k : Nat) (h0 : 0 < N) (h : N < 9007199254740992) :
    double.read (double.nearest s (N * 2 ^ k) (-(k : Int))) = .number s (N * 2 ^ (52 - N.log2)) ((N.log2 : Int) - 52) := by
  have hl := log2_lt h0 h
  obtain ⟨kb1, kb2⟩ := kept_bd h0 h
  have hpk := Nat.two_pow_pos k
  have hne : N * 2 ^ k ≠ 0 := Nat.mul_ne_zero (by omega) (by omega)
  have hlast : max (-(k : Int) + ((N * 2 ^ k).log2 : Nat) - (double.fractionBits : Nat)) double.leastPlace = (N.log2 : Int) - 52 := by
    have e1 : double.leastPlace = -1074 := by decide
    have e2 : (double.fractionBits : Int) = 52 := by decide
    rw [log2_scale N k h0, e1, e2]; omega
  unfold Format.nearest
  rw [if_neg hne]
  simp only [hlast]
  have hkept : Toward.even.cut s ((N * 2 ^ k) <<< (-(k : Int) - ((N.log2 : Int) - 52)).toNat) (((N.log2 : Int) - 52) - -(k : Int)).toNat = N * 2 ^ (52 - N.log2) := by
    by_cases c : k ≤ 52 - N.log2
    · have e1 : (-(k : Int) - ((N.log2 : Int) - 52)).toNat = 52 - N.log2 - k := by omega
      have e2 : (((N.log2 : Int) - 52) - -(k : Int)).toNat = 0 := by omega
      rw [e1, e2, cut_exact _ _ _ _ (by omega) (by simp [Nat.mod_one]), Nat.shiftLeft_eq, Nat.mul_assoc, ← Nat.pow_add]
      rw [show k + (52 - N.log2 - k) = 52 - N.log2 by omega]
      simp
    · have e1 : (-(k : Int) - ((N.log2 : Int) - 52)).toNat = 0 := by omega
      have e2 : (((N.log2 : Int) - 52) - -(k : Int)).toNat = k - (52 - N.log2) := by omega
      have e3 : N * 2 ^ k = N * 2 ^ (52 - N.log2) * 2 ^ (k - (52 - N.log2)) := by
        rw [Nat.mul_assoc, ← Nat.pow_add, show 52 - N.log2 + (k - (52 - N.log2)) = k by omega]
      rw [e1, e2, Nat.shiftLeft_zero, cut_exact _ _ _ _ (by rw [log2_scale N k h0]; omega) (by rw [e3]; exact Nat.mul_mod_left _ _), e3]
      exact Nat.mul_div_cancel _ (Nat.two_pow_pos _)
  rw [hkept]
  have hp : ((N.log2 : Int) - 52 - double.leastPlace).toNat = N.log2 + 1022 := by
    have e1 : double.leastPlace = -1074 := by decide
    rw [e1]; omega
  rw [hp]
  exact read_word s N.log2 _ hl kb1 kb2

theorem nearest_zero (s : Bool) (p : Int) : double.read (double.nearest s 0 p) = .number s 0 (-1074) := by
  unfold Format.nearest
  rw [if_pos rfl]
  cases s <;> decide

/-- What is written of a scaled whole number is read as it. -/
theorem isF_write (s : Bool) (n : Int) (k : Nat) (hn : n.natAbs < 9007199254740992) (hs : n ≠ 0 → s = decide (n < 0)) : IsF (double.write (.number s (n.natAbs * 2 ^ k) (-(k : Int)))) n := by
  show IsF (double.nearest s (n.natAbs * 2 ^ k) (-(k : Int))) n
  by_cases h : n = 0
  · refine .inl ⟨h, s, ?_⟩
    rw [h]
    simpa using nearest_zero s (-(k : Int))
  · refine .inr ⟨h, hn, ?_⟩
    rw [nearest_nat s n.natAbs k (by omega) hn, hs h]

theorem isF_ofInt (n : Int) (hn : n.natAbs < 9007199254740992) : IsF (floatOfInt .f64 n) n := by
  have := isF_write (decide (n < 0)) n 0 hn (fun _ => rfl)
  simpa [floatOfInt, FloatKind.nearest, FloatKind.encode, FloatKind.format] using this

theorem shl (m k : Nat) : m <<< k = m * 2 ^ k := Nat.shiftLeft_eq m k

/-- What a word that stands for n is: scaled to any place below its own. -/
theorem IsF.parts {b : Nat} {n : Int} (h : IsF b n) : ∃ s m, ∃ e : Int, double.read b = .number s m e ∧ -1074 ≤ e ∧ e ≤ 0 ∧ m = n.natAbs * 2 ^ (-e).toNat ∧ (n ≠ 0 → s = decide (n < 0)) := by
  rcases h with ⟨rfl, s, h⟩ | ⟨h0, hb, h⟩
  · exact ⟨s, 0, -1074, h, by omega, by omega, by rw [Int.natAbs_zero, Nat.zero_mul], fun h => absurd rfl h⟩
  · have hl := log2_lt (by omega) hb
    refine ⟨_, _, _, h, by omega, by omega, ?_, fun _ => rfl⟩
    rw [show (-((n.natAbs.log2 : Int) - 52)).toNat = 52 - n.natAbs.log2 by omega]

theorem signed_eq (s : Bool) (n : Int) (e base : Int) (hb : base ≤ e) (he : e ≤ 0) (hs : n ≠ 0 → s = decide (n < 0)) :
    signed s (n.natAbs * 2 ^ (-e).toNat) (e - base).toNat = n * (2 ^ (-base).toNat : Nat) := by
  unfold signed
  rw [shl, Nat.mul_assoc, ← Nat.pow_add, show (-e).toNat + (e - base).toNat = (-base).toNat by omega]
  by_cases h : n = 0
  · subst h; simp
  · rw [hs h]
    by_cases c : n < 0
    · simp only [c, decide_true, if_true]
      rw [Int.natCast_mul, show ((n.natAbs : Nat) : Int) = -n by omega, Int.neg_mul, Int.neg_neg]
    · simp only [c, decide_false, Bool.false_eq_true, if_false]
      rw [Int.natCast_mul, show ((n.natAbs : Nat) : Int) = n by omega]

theorem isF_mul {a b : Nat} {m n : Int} (ha : IsF a m) (hb : IsF b n) (h : (m * n).natAbs < 9007199254740992) : ∃ r, floatBits .mul .f64 a b = some r ∧ IsF r (m * n) := by
  obtain ⟨s, M, i, h1, _, hi, rfl, hs⟩ := ha.parts
  obtain ⟨t, N, j, h2, _, hj, rfl, ht⟩ := hb.parts
  refine ⟨double.write (.number (s ^^ t) (m.natAbs * 2 ^ (-i).toNat * (n.natAbs * 2 ^ (-j).toNat)) (i + j)), ?_, ?_⟩
  · simp only [floatBits, Format.mul, FloatKind.format, h1, h2, Datum.product, Option.map_some]
  · have e1 : m.natAbs * 2 ^ (-i).toNat * (n.natAbs * 2 ^ (-j).toNat) = (m * n).natAbs * 2 ^ (-(i + j)).toNat := by
      rw [show (-(i + j)).toNat = (-i).toNat + (-j).toNat by omega, Nat.pow_add, Int.natAbs_mul]
      simp only [Nat.mul_assoc, Nat.mul_left_comm]
    have e2 : i + j = -(((-(i + j)).toNat : Nat) : Int) := by omega
    have hw := isF_write (s ^^ t) (m * n) (-(i + j)).toNat h (by
      intro hmn
      have hm : m ≠ 0 := fun e => hmn (by rw [e]; simp)
      have hn : n ≠ 0 := fun e => hmn (by rw [e]; simp)
      rw [hs hm, ht hn]
      by_cases c : m < 0 <;> by_cases d : n < 0
      · have := Int.mul_pos_of_neg_of_neg c d; simp [c, d]; omega
      · have := Int.mul_neg_of_neg_of_pos c (show 0 < n by omega); simp [c, d, this]
      · have := Int.mul_neg_of_pos_of_neg (show 0 < m by omega) d; simp [c, d, this]
      · have := Int.mul_pos (show 0 < m by omega) (show 0 < n by omega); simp [c, d]; omega)
    rw [← e2] at hw
    rw [e1]
    exact hw

theorem isF_sum {m n : Int} {d1 d2 : Datum} (h1 : ∃ s, ∃ i : Int, d1 = .number s (m.natAbs * 2 ^ (-i).toNat) i ∧ i ≤ 0 ∧ (m ≠ 0 → s = decide (m < 0)))
    (h2 : ∃ s, ∃ i : Int, d2 = .number s (n.natAbs * 2 ^ (-i).toNat) i ∧ i ≤ 0 ∧ (n ≠ 0 → s = decide (n < 0)))
    (h : (m + n).natAbs < 9007199254740992) : ∃ r, (d1.sum d2).map double.write = some r ∧ IsF r (m + n) := by
  obtain ⟨s, i, rfl, hi, hs⟩ := h1
  obtain ⟨t, j, rfl, hj, ht⟩ := h2
  refine ⟨_, by simp only [Datum.sum, Option.map_some]; rfl, ?_⟩
  have hb1 : min i j ≤ i := Int.min_le_left _ _
  have hb2 : min i j ≤ j := Int.min_le_right _ _
  generalize hbase : min i j = base at *
  rw [signed_eq s m i base hb1 hi hs, signed_eq t n j base hb2 hj ht, ← Int.add_mul]
  have hp : (0 : Int) < ((2 ^ (-base).toNat : Nat) : Int) := by exact_mod_cast Nat.two_pow_pos _
  have e1 : ((m + n) * ((2 ^ (-base).toNat : Nat) : Int)).natAbs = (m + n).natAbs * 2 ^ (-base).toNat := by rw [Int.natAbs_mul, Int.natAbs_natCast]
  have e2 : base = -(((-base).toNat : Nat) : Int) := by omega
  rw [e1]
  have hw := isF_write (if (m + n) * ((2 ^ (-base).toNat : Nat) : Int) = 0 then s && t else decide ((m + n) * ((2 ^ (-base).toNat : Nat) : Int) < 0)) (m + n) (-base).toNat h (by
    intro hmn
    rw [if_neg (Int.mul_ne_zero hmn (by omega))]
    by_cases c : m + n < 0
    · have := Int.mul_neg_of_neg_of_pos c hp
      rw [decide_eq_true c, decide_eq_true this]
    · have := Int.mul_nonneg (show 0 ≤ m + n by omega) (Int.le_of_lt hp)
      rw [decide_eq_false c, decide_eq_false (by omega)])
  rw [← e2] at hw
  exact hw

theorem isF_add {a b : Nat} {m n : Int} (ha : IsF a m) (hb : IsF b n) (h : (m + n).natAbs < 9007199254740992) : ∃ r, floatBits .add .f64 a b = some r ∧ IsF r (m + n) := by
  obtain ⟨s, M, i, h1, _, hi, rfl, hs⟩ := ha.parts
  obtain ⟨t, N, j, h2, _, hj, rfl, ht⟩ := hb.parts
  exact isF_sum (d1 := double.read a) (d2 := double.read b) ⟨s, i, h1, hi, hs⟩ ⟨t, j, h2, hj, ht⟩ h

theorem isF_sub {a b : Nat} {m n : Int} (ha : IsF a m) (hb : IsF b n) (h : (m - n).natAbs < 9007199254740992) : ∃ r, floatBits .sub .f64 a b = some r ∧ IsF r (m - n) := by
  obtain ⟨s, M, i, h1, _, hi, rfl, hs⟩ := ha.parts
  obtain ⟨t, N, j, h2, _, hj, rfl, ht⟩ := hb.parts
  rw [Int.sub_eq_add_neg] at h ⊢
  refine isF_sum (d1 := double.read a) (d2 := (double.read b).opposite) ⟨s, i, h1, hi, hs⟩ ⟨!t, j, ?_, hj, ?_⟩ h
  · rw [h2, Int.natAbs_neg]; rfl
  · intro hn
    rw [ht (by omega)]
    by_cases c : n < 0
    · simp [c]; omega
    · simp [c]; omega

theorem isF_int {b : Nat} {n : Int} (h : IsF b n) (hn : n.natAbs < 9007199254740992) : floatToIntVal .f64 b .i64 = some n := by
  obtain ⟨s, M, e, h1, hlo, he, hM, hs⟩ := h.parts
  have key : (FloatKind.f64.decode b).toInt .zero = some n := by
    have h1' : FloatKind.f64.decode b = .number s M e := h1
    rw [h1']
    have hc : Toward.zero.cut s (M <<< e.toNat) (-e).toNat = n.natAbs := by
      rw [show e.toNat = 0 by omega, Nat.shiftLeft_zero, hM]
      by_cases h0 : n = 0
      · subst h0
        unfold Toward.cut; simp
      · rw [cut_exact _ _ _ _ (by rw [log2_scale _ _ (by omega)]; omega) (Nat.mul_mod_left _ _)]
        exact Nat.mul_div_cancel _ (Nat.two_pow_pos _)
    simp only [Datum.toInt, Datum.integral, hc]
    by_cases h0 : n = 0
    · subst h0; simp [signed]
    · rw [hs h0]
      unfold signed
      simp only [Nat.shiftLeft_zero, Option.some.injEq]
      by_cases c : n < 0
      · simp only [c, decide_true, if_true]; omega
      · simp only [c, decide_false, Bool.false_eq_true, if_false]; omega
  unfold floatToIntVal
  rw [key]
  have hmin : IntKind.i64.min = -9223372036854775808 := by decide
  have hmax : IntKind.i64.max = 9223372036854775807 := by decide
  simp only
  rw [if_pos (by rw [hmin, hmax]; omega)]

end Go.Proofs.Ytlihjhalbemfmaa.Fl
