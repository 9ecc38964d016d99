/- Contracts of the small functions of values and points: ranges, orders, the first that isn't 0. -/
import Derived.Test.YtlihjhalbemfmaaKit
namespace Go.Proofs.Ytlihjhalbemfmaa
open Go.RowKit

/-- A value of package api. -/
structure Val where
  k : Int
  n : Int
  s : ByteArray
  x : Int
  y : Int

def Val.v (a : Val) : Value := .agg #[.int .i64 a.k, .int .i64 a.n, .string a.s, .int .i64 a.x, .int .i64 a.y]

theorem inside_any (n : Int) (w : World) :
    Calls Try.prog 75 #[.int .i64 n] w fun e w' => e = .returned (.bool (decide (-16777216 ≤ n ∧ n ≤ 16777216))) ∧ w = w' := by
  go_enter Try.func75, Try.ntmps75
  by_cases h1 : -16777216 ≤ n <;> by_cases h2 : n ≤ 16777216 <;>
  (go_wp2; go_ret; exact ⟨by simp [h1, h2], rfl⟩)

theorem eqSpot (d : Nat) (w : World) (x0 y0 x1 y1 : Int) :
    (Op.equalIn (d + 2) 23 (.agg #[.int .i64 x0, .int .i64 x1]) (.agg #[.int .i64 y0, .int .i64 y1])).run Try.prog w = .ok (x0 == y0 && (x1 == y1)) w := by
  rw [run_equalIn_struct (P := Try.prog) w (d + 1) _ _ _ (by kernel_rfl) (by kernel_rfl)]
  go_simp
  by_cases h : x0 = y0 <;> by_cases h' : x1 = y1 <;> simp [h, h']

def spotOk (x y : Int) : Bool := decide (-16777216 ≤ x ∧ x ≤ 16777216) && decide (-16777216 ≤ y ∧ y ≤ 16777216)

theorem gaussRight_any (x y : Int) (w : World) :
    Calls Try.prog 56 #[.agg #[.int .i64 x, .int .i64 y]] w fun e w' => e = .returned (.bool (spotOk x y)) ∧ Ext w w' := by
  go_enter Try.func56, Try.ntmps56
  by_cases h1 : (-16777216 ≤ x ∧ x ≤ 16777216) <;> by_cases h2 : (-16777216 ≤ y ∧ y ≤ 16777216) <;>
  (go_wp2_with (go_at_call 75; refine (inside_any _ _).mono ?_; rintro e w' ⟨rfl, rfl⟩)
   go_ret; exact ⟨by simp [spotOk, h1, h2], (Ext.refl _).alloc _⟩)

/-- Is a value right? -/
def Val.ok (a : Val) : Bool :=
  if a.k = 0 then decide (-9007199254740992 ≤ a.n ∧ a.n ≤ 9007199254740992) && a.s.toList.isEmpty && (a.x == 0 && a.y == 0)
  else if a.k = 1 then decide (a.s.size ≤ 4096) && a.n == 0 && (a.x == 0 && a.y == 0)
  else if a.k = 2 then spotOk a.x a.y && a.n == 0 && a.s.toList.isEmpty
  else false

attribute [local go_sem high] eqSpot
set_option maxHeartbeats 1000000 in
theorem valueRight_any (a : Val) (w : World) :
    Calls Try.prog 30 #[a.v] w fun e w' => e = .returned (.bool a.ok) ∧ Ext w w' := by
  obtain ⟨k, n, s, x, y⟩ := a
  unfold Val.v
  go_enter Try.func30, Try.ntmps30
  go_wp2
  go_quiet (fail)
  go_wp2_with (go_at_call 56; refine (gaussRight_any _ _ _).mono ?_; rintro e w' ⟨rfl, hb⟩)
  all_goals
    go_ret
    refine ⟨?_, ?_⟩
    · simp_all [Val.ok] <;> (intros; omega)
    · repeat (first | (with_reducible exact Ext.refl _) | (with_reducible assumption) | (with_reducible refine Ext.drewN ?_ _) | (with_reducible refine Ext.drew ?_) | (with_reducible refine Ext.alloc ?_ _) | (refine Ext.trans ?_ (by with_reducible assumption)))

def cmpI (a b : Int) : Int := if a < b then -1 else if b < a then 1 else 0

theorem isNaNI (a : Int) (w : World) : Calls Try.prog 76 #[.int .i64 a] w fun e w' => e = .returned (.bool false) ∧ w = w' := by
  go_enter Try.func76, Try.ntmps76
  go_wp2; go_ret; exact ⟨by simp, rfl⟩

theorem compareI (a b : Int) (w : World) : Calls Try.prog 58 #[.int .i64 a, .int .i64 b] w fun e w' => e = .returned (.int .i64 (cmpI a b)) ∧ w = w' := by
  go_enter Try.func58, Try.ntmps58
  by_cases h : a < b <;> by_cases h' : b < a <;>
  (go_wp2_with (go_at_call 76; refine (isNaNI _ _).mono ?_; rintro e w' ⟨rfl, rfl⟩)
   try (go_ret; exact ⟨by unfold cmpI; split <;> first | rfl | omega | (split <;> first | rfl | omega), rfl⟩))

end Go.Proofs.Ytlihjhalbemfmaa
