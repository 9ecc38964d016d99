/- Contracts of the functions of points: division by floats, the greatest common divisor. -/
import Derived.Test.YtlihjhalbemfmaaFold
import Derived.Test.YtlihjhalbemfmaaFloat
namespace Go.Proofs.Ytlihjhalbemfmaa
open Go.RowKit

theorem floor_of_trunc (q d : Int) (hd : 0 < d) : (if q.tmod d < 0 then q.tdiv d - 1 else q.tdiv d) = q / d := by
  have h1 := Int.tmod_add_mul_tdiv q d
  have h2 := Int.tmod_lt_of_pos q hd
  have h3 := Int.lt_tmod_of_pos q hd
  by_cases h : q.tmod d < 0
  · rw [if_pos h]
    have := (Int.ediv_emod_unique (a := q) (b := d) (r := q.tmod d + d) (q := q.tdiv d - 1) hd).2 ⟨by rw [Int.mul_sub]; omega, by omega, by omega⟩
    exact this.1.symm
  · rw [if_neg h]
    have := (Int.ediv_emod_unique (a := q) (b := d) (r := q.tmod d) (q := q.tdiv d) hd).2 ⟨by omega, by omega, by omega⟩
    exact this.1.symm

theorem tdiv_bd (q d B : Int) (h1 : -B ≤ q) (h2 : q ≤ B) : -B ≤ q.tdiv d ∧ q.tdiv d ≤ B := by
  have h := Int.natAbs_tdiv_le_natAbs q d
  omega

set_option maxHeartbeats 400000 in
theorem nearest_any (n b : Int) (w : World) (h1 : -2251799813685248 ≤ n) (h2 : n ≤ 2251799813685248) (h3 : 1 ≤ b) (h4 : b ≤ 2251799813685248) :
    Calls Try.prog 93 #[.int .i64 n, .int .i64 b] w fun e w' => e = .returned (.int .i64 (Gs.nearest n b)) ∧ w = w' := by
  obtain ⟨b1, b2⟩ := tdiv_bd (2 * n + b) (2 * b) 9007199254740992 (by omega) (by omega)
  have hfl := floor_of_trunc (2 * n + b) (2 * b) (by omega)
  have HF := Lib.hid hfl; clear hfl
  have hz : (2 * b == 0) = false := by rw [beq_eq_false_iff_ne]; omega
  go_enter Try.func93, Try.ntmps93
  by_cases hq : 0 ≤ 2 * n + b
  · have hm := Int.tmod_eq_emod_of_nonneg (b := 2 * b) hq
    have HM : Hid ((if (2 * n + b) % (2 * b) < 0 then (2 * n + b).tdiv (2 * b) - 1 else (2 * n + b).tdiv (2 * b)) = (2 * n + b) / (2 * b)) := by have := HF.out; rwa [hm] at this
    clear hm
    go_wp2
    all_goals
      go_ret
      exact ⟨by unfold Gs.nearest; rw [← HM.out]; first | (rw [if_pos (by assumption)]; rfl) | (rw [if_neg (Int.not_lt.2 (by assumption))]; rfl), rfl⟩
  · go_wp2
    all_goals
      go_ret
      exact ⟨by unfold Gs.nearest; rw [← HF.out]; first | (rw [if_pos (by assumption)]; rfl) | (rw [if_neg (Int.not_lt.2 (by assumption))]; rfl), rfl⟩

open Gs (Sm)

def ptV (a : Gs.Pt) : Value := .agg #[.int .i64 a.x, .int .i64 a.y]

theorem number_any (x y : Int) (w : World) :
    Calls Try.prog 91 #[.agg #[.int .i64 x, .int .i64 y]] w fun e w' => e = .returned (.complex .f64 (floatOfInt .f64 x) (floatOfInt .f64 y)) ∧ Ext w w' := by
  go_enter Try.func91, Try.ntmps91
  go_wp2
  go_ret
  exact ⟨rfl, by repeat (first | (with_reducible exact Ext.refl _) | (with_reducible assumption) | (with_reducible refine Ext.drewN ?_ _) | (with_reducible refine Ext.drew ?_) | (with_reducible refine Ext.alloc ?_ _) | (refine Ext.trans ?_ (by with_reducible assumption)))⟩

theorem prod_bd {a b : Int} (ha : -16777216 ≤ a ∧ a ≤ 16777216) (hb : -16777216 ≤ b ∧ b ≤ 16777216) : -281474976710656 ≤ a * b ∧ a * b ≤ 281474976710656 := by
  have h1 := Int.mul_nonneg (show 0 ≤ 16777216 - a by omega) (show 0 ≤ 16777216 - b by omega)
  have h2 := Int.mul_nonneg (show 0 ≤ 16777216 + a by omega) (show 0 ≤ 16777216 + b by omega)
  have h3 := Int.mul_nonneg (show 0 ≤ 16777216 - a by omega) (show 0 ≤ 16777216 + b by omega)
  have h4 := Int.mul_nonneg (show 0 ≤ 16777216 + a by omega) (show 0 ≤ 16777216 - b by omega)
  have e1 : (16777216 - a) * (16777216 - b) = 281474976710656 - 16777216 * a - 16777216 * b + a * b := by grind
  have e2 : (16777216 + a) * (16777216 + b) = 281474976710656 + 16777216 * a + 16777216 * b + a * b := by grind
  have e3 : (16777216 - a) * (16777216 + b) = 281474976710656 - 16777216 * a + 16777216 * b - a * b := by grind
  have e4 : (16777216 + a) * (16777216 - b) = 281474976710656 + 16777216 * a - 16777216 * b - a * b := by grind
  omega

theorem norm_any (x y : Int) (w : World) (hx : -16777216 ≤ x ∧ x ≤ 16777216) (hy : -16777216 ≤ y ∧ y ≤ 16777216) :
    Calls Try.prog 92 #[.agg #[.int .i64 x, .int .i64 y]] w fun e w' => e = .returned (.int .i64 (x * x + y * y)) ∧ Ext w w' := by
  have b1 := prod_bd hx hx
  have b2 := prod_bd hy hy
  obtain ⟨b3, b4⟩ := b1
  obtain ⟨b5, b6⟩ := b2
  go_enter Try.func92, Try.ntmps92
  go_wp2
  go_ret
  exact ⟨rfl, by repeat (first | (with_reducible exact Ext.refl _) | (with_reducible assumption) | (with_reducible refine Ext.drewN ?_ _) | (with_reducible refine Ext.drew ?_) | (with_reducible refine Ext.alloc ?_ _) | (refine Ext.trans ?_ (by with_reducible assumption)))⟩

open Fl in
/-- A product of complex numbers with whole parts. -/
theorem cmul_is {a b c d : Nat} {x y u v : Int} (ha : IsF a x) (hb : IsF b y) (hc : IsF c u) (hd : IsF d v)
    (h1 : (x * u).natAbs < 9007199254740992) (h2 : (y * v).natAbs < 9007199254740992) (h3 : (x * v).natAbs < 9007199254740992) (h4 : (y * u).natAbs < 9007199254740992)
    (h5 : (x * u - y * v).natAbs < 9007199254740992) (h6 : (x * v + y * u).natAbs < 9007199254740992) :
    ∃ re im, cMulBits a b c d = some (re, im) ∧ IsF re (x * u - y * v) ∧ IsF im (x * v + y * u) := by
  obtain ⟨r1, e1, f1⟩ := isF_mul ha hc h1
  obtain ⟨r2, e2, f2⟩ := isF_mul hb hd h2
  obtain ⟨r3, e3, f3⟩ := isF_sub f1 f2 h5
  obtain ⟨r4, e4, f4⟩ := isF_mul ha hd h3
  obtain ⟨r5, e5, f5⟩ := isF_mul hb hc h4
  obtain ⟨r6, e6, f6⟩ := isF_add f4 f5 h6
  exact ⟨r3, r6, by simp [cMulBits, e1, e2, e3, e4, e5, e6], f3, f6⟩

open Fl in
theorem csub_is {a b c d : Nat} {x y u v : Int} (ha : IsF a x) (hb : IsF b y) (hc : IsF c u) (hd : IsF d v)
    (h5 : (x - u).natAbs < 9007199254740992) (h6 : (y - v).natAbs < 9007199254740992) :
    ∃ re im, cSumBits .sub .f64 a b c d = some (re, im) ∧ IsF re (x - u) ∧ IsF im (y - v) := by
  obtain ⟨r1, e1, f1⟩ := isF_sub ha hc h5
  obtain ⟨r2, e2, f2⟩ := isF_sub hb hd h6
  exact ⟨r1, r2, by simp [cSumBits, e1, e2], f1, f2⟩

theorem small_of (n : Int) (h : -16777216 ≤ n ∧ n ≤ 16777216) : n.natAbs < 9007199254740992 := by omega

theorem abs_le_norm (a : Gs.Pt) : a.x.natAbs ≤ (Gs.norm a).natAbs ∧ a.y.natAbs ≤ (Gs.norm a).natAbs := by
  have key : ∀ n : Int, (n.natAbs : Int) ≤ n * n := by
    intro n
    rcases Int.le_total 0 n with h | h
    · by_cases e : n = 0
      · subst e; decide
      · have := Int.mul_le_mul_of_nonneg_left (show 1 ≤ n by omega) h
        omega
    · by_cases e : n = 0
      · subst e; decide
      · have := Int.mul_le_mul_of_nonneg_left (show 1 ≤ -n by omega) (show 0 ≤ -n by omega)
        have e2 : -n * -n = n * n := by grind
        omega
  have h1 := key a.x
  have h2 := key a.y
  have h3 := Gs.sq_nonneg a.x
  have h4 := Gs.sq_nonneg a.y
  unfold Gs.norm
  omega

/-- The quotient's products are small. -/
theorem quo_bd (z n c : Int) (hz : -562949953421312 ≤ z ∧ z ≤ 562949953421312) (hn : 0 < n) (hn2 : n ≤ 562949953421312) (hc : c.natAbs ≤ n.natAbs) :
    (Gs.nearest z n).natAbs ≤ 1125899906842624 ∧ (Gs.nearest z n * c).natAbs ≤ 1125899906842624 := by
  obtain ⟨h1, h2⟩ := Gs.nearest_bd z n hn
  have h3 : (Gs.nearest z n * n).natAbs ≤ 1125899906842624 := by omega
  rw [Int.natAbs_mul] at h3
  have h4 := Nat.mul_le_mul_left (Gs.nearest z n).natAbs hc
  have h5 := Nat.mul_le_mul_left (Gs.nearest z n).natAbs (show 1 ≤ n.natAbs by omega)
  rw [Int.natAbs_mul]
  omega

set_option maxHeartbeats 2000000 in
theorem div_any (a b : Gs.Pt) (w : World) (ha : Sm a) (hb : Sm b) (hb0 : b ≠ Gs.zero) :
    Calls Try.prog 78 #[ptV a, ptV b] w fun e w' => e = .returned (.tuple #[ptV (Gs.quo a b), ptV (Gs.rest a b)]) ∧ Ext w w' := by
  obtain ⟨ha1, ha2, ha3, ha4⟩ := ha
  obtain ⟨hb1, hb2, hb3, hb4⟩ := hb
  have hnp := Gs.norm_pos hb0
  have p1 := prod_bd ⟨ha1, ha2⟩ ⟨hb1, hb2⟩
  have p2 := prod_bd ⟨ha3, ha4⟩ ⟨hb3, hb4⟩
  have p3 := prod_bd ⟨ha1, ha2⟩ ⟨hb3, hb4⟩
  have p4 := prod_bd ⟨ha3, ha4⟩ ⟨hb1, hb2⟩
  have p5 := prod_bd ⟨hb1, hb2⟩ ⟨hb1, hb2⟩
  have p6 := prod_bd ⟨hb3, hb4⟩ ⟨hb3, hb4⟩
  obtain ⟨c1, c2⟩ := abs_le_norm b
  have hnn : Gs.norm b ≤ 562949953421312 := by unfold Gs.norm; omega
  obtain ⟨qx, hqx⟩ : ∃ q, Gs.nearest (a.x * b.x + a.y * b.y) (Gs.norm b) = q := ⟨_, rfl⟩
  obtain ⟨qy, hqy⟩ : ∃ q, Gs.nearest (a.y * b.x - a.x * b.y) (Gs.norm b) = q := ⟨_, rfl⟩
  have k1 := quo_bd (a.x * b.x + a.y * b.y) (Gs.norm b) b.x (by omega) hnp hnn c1
  have k2 := quo_bd (a.x * b.x + a.y * b.y) (Gs.norm b) b.y (by omega) hnp hnn c2
  have k3 := quo_bd (a.y * b.x - a.x * b.y) (Gs.norm b) b.x (by omega) hnp hnn c1
  have k4 := quo_bd (a.y * b.x - a.x * b.y) (Gs.norm b) b.y (by omega) hnp hnn c2
  rw [hqx] at k1 k2
  rw [hqy] at k3 k4
  have n1 : a.x * b.x - a.y * -b.y = a.x * b.x + a.y * b.y := by rw [Int.mul_neg]; omega
  have n2 : a.x * -b.y + a.y * b.x = a.y * b.x - a.x * b.y := by rw [Int.mul_neg]; omega
  have n3 : (a.x * -b.y) = -(a.x * b.y) := by rw [Int.mul_neg]
  have n4 : (a.y * -b.y) = -(a.y * b.y) := by rw [Int.mul_neg]
  obtain ⟨r1, i1, m1, f1, g1⟩ := cmul_is (Fl.isF_ofInt a.x (by omega)) (Fl.isF_ofInt a.y (by omega)) (Fl.isF_ofInt b.x (by omega)) (Fl.isF_ofInt (-b.y) (by omega)) (by omega) (by omega) (by omega) (by omega) (by omega) (by omega)
  rw [n1] at f1
  rw [n2] at g1
  obtain ⟨r2, i2, m2, f2, g2⟩ := cmul_is (Fl.isF_ofInt qx (by omega)) (Fl.isF_ofInt qy (by omega)) (Fl.isF_ofInt b.x (by omega)) (Fl.isF_ofInt b.y (by omega)) (by omega) (by omega) (by omega) (by omega) (by omega) (by omega)
  obtain ⟨r3, i3, m3, f3, g3⟩ := csub_is (Fl.isF_ofInt a.x (by omega)) (Fl.isF_ofInt a.y (by omega)) f2 g2 (by omega) (by omega)
  have z1 : ∀ w, (convert 142 3 (.float .f64 r1)).run Try.prog w = .ok (.int .i64 (a.x * b.x + a.y * b.y)) w := fun w => run_convert_float_int (P := Try.prog) w _ _ _ _ _ _ (by kernel_rfl) Try.underlying3 (Fl.isF_int f1 (by omega))
  have z2 : ∀ w, (convert 142 3 (.float .f64 i1)).run Try.prog w = .ok (.int .i64 (a.y * b.x - a.x * b.y)) w := fun w => run_convert_float_int (P := Try.prog) w _ _ _ _ _ _ (by kernel_rfl) Try.underlying3 (Fl.isF_int g1 (by omega))
  have z3 : ∀ w, (convert 142 3 (.float .f64 r3)).run Try.prog w = .ok (.int .i64 (a.x - (qx * b.x - qy * b.y))) w := fun w => run_convert_float_int (P := Try.prog) w _ _ _ _ _ _ (by kernel_rfl) Try.underlying3 (Fl.isF_int f3 (by omega))
  have z4 : ∀ w, (convert 142 3 (.float .f64 i3)).run Try.prog w = .ok (.int .i64 (a.y - (qx * b.y + qy * b.x))) w := fun w => run_convert_float_int (P := Try.prog) w _ _ _ _ _ _ (by kernel_rfl) Try.underlying3 (Fl.isF_int g3 (by omega))
  have y1 : ∀ w, (binOp .mul 139 (.complex .f64 (floatOfInt .f64 a.x) (floatOfInt .f64 a.y)) (.complex .f64 (floatOfInt .f64 b.x) (floatOfInt .f64 (-b.y)))).run Try.prog w = .ok (.complex .f64 r1 i1) w := fun w => run_complex_mul (P := Try.prog) w _ _ _ _ _ _ _ m1
  have y2 : ∀ w, (binOp .mul 139 (.complex .f64 (floatOfInt .f64 qx) (floatOfInt .f64 qy)) (.complex .f64 (floatOfInt .f64 b.x) (floatOfInt .f64 b.y))).run Try.prog w = .ok (.complex .f64 r2 i2) w := fun w => run_complex_mul (P := Try.prog) w _ _ _ _ _ _ _ m2
  have y3 : ∀ w, (binOp .sub 139 (.complex .f64 (floatOfInt .f64 a.x) (floatOfInt .f64 a.y)) (.complex .f64 r2 i2)).run Try.prog w = .ok (.complex .f64 r3 i3) w := fun w => run_complex_sum (P := Try.prog) w .sub (.inr rfl) _ _ _ _ _ _ _ _ m3
  have hQ : Hid (ptV (Gs.quo a b) = .agg #[.int .i64 qx, .int .i64 qy]) := by unfold Hid ptV Gs.quo; rw [hqx, hqy]
  have hR : Hid (ptV (Gs.rest a b) = .agg #[.int .i64 (a.x - (qx * b.x - qy * b.y)), .int .i64 (a.y - (qx * b.y + qy * b.x))]) := by
    unfold Hid ptV Gs.rest Gs.sub Gs.mul Gs.quo; rw [hqx, hqy]
  have HX := Lib.hid hqx
  have HY := Lib.hid hqy
  have hN : Gs.norm b = b.x * b.x + b.y * b.y := rfl
  rw [hN] at HX HY hnp hnn
  have v1 : -2251799813685248 ≤ a.x * b.x + a.y * b.y := by omega
  have v2 : a.x * b.x + a.y * b.y ≤ 2251799813685248 := by omega
  have v3 : -2251799813685248 ≤ a.y * b.x - a.x * b.y := by omega
  have v4 : a.y * b.x - a.x * b.y ≤ 2251799813685248 := by omega
  have v5 : 1 ≤ b.x * b.x + b.y * b.y := by omega
  have v6 : b.x * b.x + b.y * b.y ≤ 2251799813685248 := by omega
  clear hqx hqy n1 n2 n3 n4 k1 k2 k3 k4 m1 m2 m3 hN f1 g1 f2 g2 f3 g3 p1 p2 p3 p4 p5 p6 c1 c2 hnp hnn
  rw [hQ.out, hR.out]
  clear hQ hR
  unfold ptV
  obtain ⟨ax, ay⟩ := a
  obtain ⟨bx, yb⟩ := b
  dsimp only at y1 y2 y3 z1 z2 z3 z4 v1 v2 v3 v4 v5 v6 HX HY ha1 ha2 ha3 ha4 hb1 hb2 hb3 hb4 ⊢
  go_enter Try.func78, Try.ntmps78
  go_wp2
  refine wp_region_Rt Ext Ext.refl (by kernel_rfl) ?_
  repeat ((refine Rt.takeU Ext.refl (fun _ _ _ => Ext.trans) rfl rfl (by kernel_rfl) (fun K hK => ?_); apply Exists.intro; refine ⟨fun x hx => ?_, ?_⟩; (next => have HX := Lib.hid hx; have hc := (Ext.cells hx).1; clear hx; go_simp; first | done | ((try go_ints); first | done | rfl | ((go_at_call 91; refine (number_any _ _ _).mono ?_; rintro e w' ⟨rfl, he⟩; exact ⟨rfl, he⟩)))); go_simp; refine hK _ ?_; clear hK K))
  refine Rt.done (by kernel_rfl) (fun z hz => ?_)
  have hs : w.heap.size + 3 < z.heap.size := by have := hz.size; simp at this; omega
  have E1 : Ext w z := Ext.trans (by repeat (first | (with_reducible exact Ext.refl _) | (with_reducible assumption) | (with_reducible refine Ext.drewN ?_ _) | (with_reducible refine Ext.drew ?_) | (with_reducible refine Ext.alloc ?_ _) | (refine Ext.trans ?_ (by with_reducible assumption)))) hz
  have hcz0 := Ext.cellAt hz (b := w.heap.size) (by first | omega | (simp; done) | (simp; omega)); have hfz0 := Ext.frozenAt hz (b := w.heap.size) (by first | omega | (simp; done) | (simp; omega)); have hlz0 : w.heap.size < z.heap.size := (by have := Ext.size hz; first | omega | (simp at *; omega)); have hcz1 := Ext.cellAt hz (b := w.heap.size + 1) (by first | omega | (simp; done) | (simp; omega)); have hfz1 := Ext.frozenAt hz (b := w.heap.size + 1) (by first | omega | (simp; done) | (simp; omega)); have hlz1 : w.heap.size + 1 < z.heap.size := (by have := Ext.size hz; first | omega | (simp at *; omega)); have hcz2 := Ext.cellAt hz (b := w.heap.size + 1 + 1) (by first | omega | (simp; done) | (simp; omega)); have hfz2 := Ext.frozenAt hz (b := w.heap.size + 1 + 1) (by first | omega | (simp; done) | (simp; omega)); have hlz2 : w.heap.size + 1 + 1 < z.heap.size := (by have := Ext.size hz; first | omega | (simp at *; omega)); have hcz3 := Ext.cellAt hz (b := w.heap.size + 1 + 1 + 1) (by first | omega | (simp; done) | (simp; omega)); have hfz3 := Ext.frozenAt hz (b := w.heap.size + 1 + 1 + 1) (by first | omega | (simp; done) | (simp; omega)); have hlz3 : w.heap.size + 1 + 1 + 1 < z.heap.size := (by have := Ext.size hz; first | omega | (simp at *; omega))
  clear hz
  go_wp2_with fail
  refine (norm_any _ _ _ ⟨hb1, hb2⟩ ⟨hb3, hb4⟩).mono ?_
  rintro e z2 ⟨rfl, hz2⟩
  have hs2 : w.heap.size + 3 < z2.heap.size := Nat.lt_of_lt_of_le hs hz2.size
  have E2 : Ext w z2 := E1.trans hz2
  have hcz20 := Ext.cellAt hz2 (b := w.heap.size) (by first | omega | (simp; done) | (simp; omega)); have hfz20 := Ext.frozenAt hz2 (b := w.heap.size) (by first | omega | (simp; done) | (simp; omega)); have hlz20 : w.heap.size < z2.heap.size := (by have := Ext.size hz2; first | omega | (simp at *; omega)); have hcz21 := Ext.cellAt hz2 (b := w.heap.size + 1) (by first | omega | (simp; done) | (simp; omega)); have hfz21 := Ext.frozenAt hz2 (b := w.heap.size + 1) (by first | omega | (simp; done) | (simp; omega)); have hlz21 : w.heap.size + 1 < z2.heap.size := (by have := Ext.size hz2; first | omega | (simp at *; omega)); have hcz22 := Ext.cellAt hz2 (b := w.heap.size + 1 + 1) (by first | omega | (simp; done) | (simp; omega)); have hfz22 := Ext.frozenAt hz2 (b := w.heap.size + 1 + 1) (by first | omega | (simp; done) | (simp; omega)); have hlz22 : w.heap.size + 1 + 1 < z2.heap.size := (by have := Ext.size hz2; first | omega | (simp at *; omega)); have hcz23 := Ext.cellAt hz2 (b := w.heap.size + 1 + 1 + 1) (by first | omega | (simp; done) | (simp; omega)); have hfz23 := Ext.frozenAt hz2 (b := w.heap.size + 1 + 1 + 1) (by first | omega | (simp; done) | (simp; omega)); have hlz23 : w.heap.size + 1 + 1 + 1 < z2.heap.size := (by have := Ext.size hz2; first | omega | (simp at *; omega))
  clear hz2
  go_wp2_with (go_at_call 93; refine (nearest_any _ _ _ (by assumption) (by assumption) (by assumption) (by assumption)).mono ?_; rintro e w' ⟨rfl, rfl⟩)
  rw [HX.out, HY.out]
  refine wp_region_Rt Ext Ext.refl (by kernel_rfl) ?_
  repeat ((refine Rt.takeU Ext.refl (fun _ _ _ => Ext.trans) rfl rfl (by kernel_rfl) (fun K hK => ?_); apply Exists.intro; refine ⟨fun x hx => ?_, ?_⟩; (next => have HX := Lib.hid hx; have hc0 := Ext.cellAt hx (b := w.heap.size) (by first | omega | (simp; done) | (simp; omega)); have hc1 := Ext.cellAt hx (b := w.heap.size + 1) (by first | omega | (simp; done) | (simp; omega)); have hc2 := Ext.cellAt hx (b := z2.heap.size) (by first | omega | (simp; done) | (simp; omega)); clear hx; go_simp; first | done | ((try go_ints); first | done | rfl | ((go_at_call 91; refine (number_any _ _ _).mono ?_; rintro e w' ⟨rfl, he⟩; exact ⟨rfl, he⟩)))); go_simp; refine hK _ ?_; clear hK K))
  refine Rt.done (by kernel_rfl) (fun z3 hz3 => ?_)
  have hs3 : w.heap.size + 3 < z3.heap.size := by have := hz3.size; simp at this; omega
  have E3 : Ext w z3 := Ext.trans (by repeat (first | (with_reducible exact Ext.refl _) | (with_reducible assumption) | (with_reducible refine Ext.drewN ?_ _) | (with_reducible refine Ext.drew ?_) | (with_reducible refine Ext.alloc ?_ _) | (refine Ext.trans ?_ (by with_reducible assumption)))) hz3
  have hcz30 := Ext.cellAt hz3 (b := w.heap.size) (by first | omega | (simp; done) | (simp; omega)); have hfz30 := Ext.frozenAt hz3 (b := w.heap.size) (by first | omega | (simp; done) | (simp; omega)); have hlz30 : w.heap.size < z3.heap.size := (by have := Ext.size hz3; first | omega | (simp at *; omega)); have hcz31 := Ext.cellAt hz3 (b := w.heap.size + 1) (by first | omega | (simp; done) | (simp; omega)); have hfz31 := Ext.frozenAt hz3 (b := w.heap.size + 1) (by first | omega | (simp; done) | (simp; omega)); have hlz31 : w.heap.size + 1 < z3.heap.size := (by have := Ext.size hz3; first | omega | (simp at *; omega)); have hcz32 := Ext.cellAt hz3 (b := w.heap.size + 1 + 1) (by first | omega | (simp; done) | (simp; omega)); have hfz32 := Ext.frozenAt hz3 (b := w.heap.size + 1 + 1) (by first | omega | (simp; done) | (simp; omega)); have hlz32 : w.heap.size + 1 + 1 < z3.heap.size := (by have := Ext.size hz3; first | omega | (simp at *; omega)); have hcz33 := Ext.cellAt hz3 (b := w.heap.size + 1 + 1 + 1) (by first | omega | (simp; done) | (simp; omega)); have hfz33 := Ext.frozenAt hz3 (b := w.heap.size + 1 + 1 + 1) (by first | omega | (simp; done) | (simp; omega)); have hlz33 : w.heap.size + 1 + 1 + 1 < z3.heap.size := (by have := Ext.size hz3; first | omega | (simp at *; omega)); have hcz34 := Ext.cellAt hz3 (b := z2.heap.size) (by first | omega | (simp; done) | (simp; omega)); have hfz34 := Ext.frozenAt hz3 (b := z2.heap.size) (by first | omega | (simp; done) | (simp; omega)); have hlz34 : z2.heap.size < z3.heap.size := (by have := Ext.size hz3; first | omega | (simp at *; omega))
  clear hz3
  go_wp2
  refine bodyPost_ret (v := .tuple #[.agg #[.int .i64 qx, .int .i64 qy], .agg #[.int .i64 (ax - (qx * bx - qy * yb)), .int .i64 (ay - (qx * yb + qy * bx))]]) (by simp only [results, Try.results78]; go_simp) rfl ⟨rfl, ?_⟩
  exact (((E3.setCell (by first | omega | (simp; done) | (simp; omega)) _).setCell (by first | omega | (simp; done) | (simp; omega)) _).setCell (by first | omega | (simp; done) | (simp; omega)) _).setCell (by first | omega | (simp; done) | (simp; omega)) _

end Go.Proofs.Ytlihjhalbemfmaa
