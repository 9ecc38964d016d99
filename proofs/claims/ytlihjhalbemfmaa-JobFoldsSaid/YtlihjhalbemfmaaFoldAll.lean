/- The contract of a fold of two values. -/
import Derived.Test.YtlihjhalbemfmaaCommon
namespace Go.Proofs.Ytlihjhalbemfmaa
open Go.RowKit
open Gs (Sm)

def zeroV : Val := ⟨0, 0, ⟨#[]⟩, 0, 0⟩

set_option maxHeartbeats 1000000 in
theorem sumN (a b : Int) (w : World) (h1 : -9007199254740992 ≤ a) (h2 : a ≤ 9007199254740992) (h3 : -9007199254740992 ≤ b) (h4 : b ≤ 9007199254740992) :
    Calls Try.prog 32 #[.string Word.sum.s, .int .i64 a, .int .i64 b] w fun e w' => e = .returned (Val.v ⟨0, wrapV (a + b) 9007199254740992, ⟨#[]⟩, 0, 0⟩) ∧ Ext w w' := by
  go_enter Try.func32, Try.ntmps32
  unfold Word.s
  go_wp2_with (go_at_call 60; refine (wrapped_any _ _ _ (by omega) (by omega) (by omega) (by omega)).mono ?_; rintro e w' ⟨rfl, rfl⟩)
  refine bodyPost_ret (v := Val.v ⟨0, wrapV (a + b) 9007199254740992, ⟨#[]⟩, 0, 0⟩) ?_ rfl ⟨rfl, ?_⟩
  · simp only [results, Try.results32, Val.v]; go_simp
  repeat (first | (with_reducible exact (Ext.refl _)) | (with_reducible refine Ext.drewN ?_ _) | (with_reducible refine Ext.drew ?_) | (with_reducible refine Ext.setCell ?_ (by first | omega | (simp; done) | (simp; omega)) _) | (with_reducible refine Ext.alloc ?_ _))

set_option maxHeartbeats 1000000 in
theorem gcdN (a b : Int) (w : World) (h1 : -9007199254740992 ≤ a) (h2 : a ≤ 9007199254740992) (h3 : -9007199254740992 ≤ b) (h4 : b ≤ 9007199254740992) :
    Calls Try.prog 32 #[.string Word.gcd.s, .int .i64 a, .int .i64 b] w fun e w' => e = .returned (Val.v ⟨0, Int.gcd a b, ⟨#[]⟩, 0, 0⟩) ∧ Ext w w' := by
  go_enter Try.func32, Try.ntmps32
  unfold Word.s
  go_wp2_with fail
  refine (common_any _ _ _ h1 h2 h3 h4).mono ?_
  rintro e z ⟨rfl, hz⟩
  have E1 : Ext w z := Ext.trans (by repeat (first | (with_reducible exact Ext.refl _) | (with_reducible assumption) | (with_reducible refine Ext.drewN ?_ _) | (with_reducible refine Ext.drew ?_) | (with_reducible refine Ext.alloc ?_ _) | (refine Ext.trans ?_ (by with_reducible assumption)))) hz
  have hcz0 := Ext.cellAt hz (b := w.heap.size) (by first | omega | (simp; done) | (simp; omega)); have hfz0 := Ext.frozenAt hz (b := w.heap.size) (by first | omega | (simp; done) | (simp; omega)); have hlz0 : w.heap.size < z.heap.size := (by have := Ext.size hz; first | omega | (simp at *; omega))
  clear hz
  go_wp2
  refine bodyPost_ret (v := Val.v ⟨0, Int.gcd a b, ⟨#[]⟩, 0, 0⟩) ?_ rfl ⟨rfl, ?_⟩
  · simp only [results, Try.results32, Val.v]; go_simp
  repeat (first | (with_reducible exact E1) | (with_reducible refine Ext.drewN ?_ _) | (with_reducible refine Ext.drew ?_) | (with_reducible refine Ext.setCell ?_ (by first | omega | (simp; done) | (simp; omega)) _) | (with_reducible refine Ext.alloc ?_ _))

theorem heap_new {w : World} {o : Obj} {n : Nat} (h : n = w.heap.size) : (w.alloc o).heap[n]? = some o := by
  subst h
  show (w.heap.push o)[w.heap.size]? = some o
  simp

set_option maxHeartbeats 2000000 in
theorem sumP (ax ay bx yb : Int) (w : World) (ha : Sm ⟨ax, ay⟩) (hb : Sm ⟨bx, yb⟩) :
    Calls Try.prog 33 #[.string Word.sum.s, .agg #[.int .i64 ax, .int .i64 ay], .agg #[.int .i64 bx, .int .i64 yb]] w fun e w' => e = .returned (Val.v ⟨2, 0, ⟨#[]⟩, wrapV (ax + bx) 16777216, wrapV (ay + yb) 16777216⟩) ∧ Ext w w' := by
  obtain ⟨ha1, ha2, ha3, ha4⟩ := ha
  obtain ⟨hb1, hb2, hb3, hb4⟩ := hb
  dsimp only at ha1 ha2 ha3 ha4 hb1 hb2 hb3 hb4
  go_enter Try.func33, Try.ntmps33
  unfold Word.s
  go_wp2
  refine wp_region_Rt Ext Ext.refl (by kernel_rfl) ?_
  repeat ((refine Rt.takeU Ext.refl (fun _ _ _ => Ext.trans) rfl rfl (by kernel_rfl) (fun K hK => ?_); apply Exists.intro; refine ⟨fun x hx => ?_, ?_⟩; (next => have HX := Lib.hid hx; have hc0 := Ext.cellAt hx (b := w.heap.size) (by first | omega | (simp; done) | (simp; omega)); have hc1 := Ext.cellAt hx (b := w.heap.size + 1) (by first | omega | (simp; done) | (simp; omega)); clear hx; go_simp; first | done | ((try go_ints); first | done | rfl | ((go_at_call 60; refine (wrapped_any _ _ _ (by omega) (by omega) (by omega) (by omega)).mono ?_; rintro e w' ⟨rfl, rfl⟩; exact ⟨rfl, Ext.refl _⟩)))); go_simp; refine hK _ ?_; clear hK K))
  refine Rt.last rfl (by kernel_rfl) (by kernel_rfl) (fun x hx K hK => ?_)
  have E1 : Ext w x := Ext.trans (by repeat (first | (with_reducible exact Ext.refl _) | (with_reducible assumption) | (with_reducible refine Ext.drewN ?_ _) | (with_reducible refine Ext.drew ?_) | (with_reducible refine Ext.alloc ?_ _) | (refine Ext.trans ?_ (by with_reducible assumption)))) hx
  have hcx0 := Ext.cellAt hx (b := w.heap.size + 1 + 1) (by first | omega | (simp; done) | (simp; omega)); have hfx0 := Ext.frozenAt hx (b := w.heap.size + 1 + 1) (by first | omega | (simp; done) | (simp; omega)); have hlx0 : w.heap.size + 1 + 1 < x.heap.size := (by have := Ext.size hx; first | omega | (simp at *; omega))
  clear hx
  go_wp2
  refine hK _ _ ?_
  clear hK K
  go_wp2
  refine bodyPost_ret (v := Val.v ⟨2, 0, ⟨#[]⟩, wrapV (ax + bx) 16777216, wrapV (ay + yb) 16777216⟩) ?_ rfl ⟨rfl, ?_⟩
  · simp only [results, Try.results33, Val.v]; go_simp
  repeat (first | (with_reducible exact E1) | (with_reducible refine Ext.drewN ?_ _) | (with_reducible refine Ext.drew ?_) | (with_reducible refine Ext.setCell ?_ (by first | omega | (simp; done) | (simp; omega)) _) | (with_reducible refine Ext.alloc ?_ _))

set_option maxHeartbeats 2000000 in
theorem gcdP (ax ay bx yb : Int) (w : World) (ha : Sm ⟨ax, ay⟩) (hb : Sm ⟨bx, yb⟩) :
    Calls Try.prog 33 #[.string Word.gcd.s, .agg #[.int .i64 ax, .int .i64 ay], .agg #[.int .i64 bx, .int .i64 yb]] w fun e w' => e = .returned (Val.v ⟨2, 0, ⟨#[]⟩, (Gs.common ⟨ax, ay⟩ ⟨bx, yb⟩).x, (Gs.common ⟨ax, ay⟩ ⟨bx, yb⟩).y⟩) ∧ Ext w w' := by
  have hC := fun w => Common_any ⟨ax, ay⟩ ⟨bx, yb⟩ w ha hb
  generalize Gs.common ⟨ax, ay⟩ ⟨bx, yb⟩ = G at *
  obtain ⟨gx, gy⟩ := G
  have HC := Lib.hid hC
  clear hC
  go_enter Try.func33, Try.ntmps33
  unfold Word.s
  go_wp2_with fail
  refine (HC.out _).mono ?_
  rintro e z ⟨rfl, hz⟩
  have E1 : Ext w z := Ext.trans (by repeat (first | (with_reducible exact Ext.refl _) | (with_reducible assumption) | (with_reducible refine Ext.drewN ?_ _) | (with_reducible refine Ext.drew ?_) | (with_reducible refine Ext.alloc ?_ _) | (refine Ext.trans ?_ (by with_reducible assumption)))) hz
  have hcz0 := Ext.cellAt hz (b := w.heap.size) (by first | omega | (simp; done) | (simp; omega)); have hfz0 := Ext.frozenAt hz (b := w.heap.size) (by first | omega | (simp; done) | (simp; omega)); have hlz0 : w.heap.size < z.heap.size := (by have := Ext.size hz; first | omega | (simp at *; omega)); have hcz1 := Ext.cellAt hz (b := w.heap.size + 1) (by first | omega | (simp; done) | (simp; omega)); have hfz1 := Ext.frozenAt hz (b := w.heap.size + 1) (by first | omega | (simp; done) | (simp; omega)); have hlz1 : w.heap.size + 1 < z.heap.size := (by have := Ext.size hz; first | omega | (simp at *; omega)); have hcz2 := Ext.cellAt hz (b := w.heap.size + 1 + 1) (by first | omega | (simp; done) | (simp; omega)); have hfz2 := Ext.frozenAt hz (b := w.heap.size + 1 + 1) (by first | omega | (simp; done) | (simp; omega)); have hlz2 : w.heap.size + 1 + 1 < z.heap.size := (by have := Ext.size hz; first | omega | (simp at *; omega))
  clear hz
  simp only [ptV]
  go_wp2
  refine bodyPost_ret (v := Val.v ⟨2, 0, ⟨#[]⟩, gx, gy⟩) ?_ rfl ⟨rfl, ?_⟩
  · simp only [results, Try.results33, Val.v]; go_simp
  repeat (first | (with_reducible exact E1) | (with_reducible refine Ext.drewN ?_ _) | (with_reducible refine Ext.drew ?_) | (with_reducible refine Ext.setCell ?_ (by first | omega | (simp; done) | (simp; omega)) _) | (with_reducible refine Ext.alloc ?_ _))

/-- A fold of two values: what comes out, and the error's number. -/
def Val.fold (f : Word) (a b : Val) : Val × Int :=
  if a.ok && b.ok then
    if a.k = b.k then
      match f with
      | .max => (if 0 < a.order b then a else b, 0)
      | .min => (if a.order b < 0 then a else b, 0)
      | .sum => if a.k = 0 then (⟨0, wrapV (a.n + b.n) 9007199254740992, ⟨#[]⟩, 0, 0⟩, 0) else if a.k = 2 then (⟨2, 0, ⟨#[]⟩, wrapV (a.x + b.x) 16777216, wrapV (a.y + b.y) 16777216⟩, 0) else (⟨0, 0, ⟨#[]⟩, 0, 0⟩, 13)
      | .gcd => if a.k = 0 then (⟨0, Int.gcd a.n b.n, ⟨#[]⟩, 0, 0⟩, 0) else if a.k = 2 then (⟨2, 0, ⟨#[]⟩, (Gs.common ⟨a.x, a.y⟩ ⟨b.x, b.y⟩).x, (Gs.common ⟨a.x, a.y⟩ ⟨b.x, b.y⟩).y⟩, 0) else (⟨0, 0, ⟨#[]⟩, 0, 0⟩, 13)
    else (⟨0, 0, ⟨#[]⟩, 0, 0⟩, 13)
  else (⟨0, 0, ⟨#[]⟩, 0, 0⟩, 1)

theorem words_has (f : Word) : decide (0 ≤ indexFrom words f.s 0) = true := by
  cases f <;> (simp only [words, indexFrom, ByteArray.toList_eq, Word.s]; decide)

theorem words_in (f : Word) : 0 ≤ indexFrom words f.s 0 := of_decide_eq_true (words_has f)

end Go.Proofs.Ytlihjhalbemfmaa
