/- The law of fragments, walked. -/
import Derived.Test.YtlihjhalbemfmaaNamed
import Derived.Test.YtlihjhalbemfmaaOpen
namespace Go.Proofs.Ytlihjhalbemfmaa
open Go.RowKit

theorem of_any (a b c d : Int) (w : World) : Calls Try.prog 11 #[.agg #[.int .i64 a, .int .i64 b, .int .i64 c, .int .i64 d]] w fun e w' => e = .returned (.agg #[.int .i64 a, .int .i64 b, .int .i64 c, .int .i64 d]) ∧ Ext w w' := by
  go_enter Try.func11, Try.ntmps11
  go_wp2
  exact bodyPost_ret (v := .agg #[.int .i64 a, .int .i64 b, .int .i64 c, .int .i64 d]) (by simp only [results, Try.results11]; go_simp) rfl ⟨rfl, by repeat (first | (with_reducible exact Ext.refl _) | (with_reducible assumption) | (with_reducible refine Ext.drewN ?_ _) | (with_reducible refine Ext.drew ?_) | (with_reducible refine Ext.alloc ?_ _) | (refine Ext.trans ?_ (by with_reducible assumption)))⟩

theorem awake_name : nameTo [1, 20, 3, 0] 4 = ⟨#[116, 49, 97, 50, 48, 112, 51, 102, 48]⟩ := by
  simp [nameTo, part, letter, digs, dig]
  rfl

theorem awakeFrag (w : World) : Calls Try.prog 9 #[] w fun e w' => e = .returned (.bool true) ∧ Ext w w' := by
  have hN := Lib.hid (fun w => name_right 1 20 3 0 w (by decide))
  rw [awake_name] at hN
  go_enter Try.func9, Try.ntmps9
  go_wp2_with fail
  refine (hN.out _).mono ?_
  rintro e z ⟨rfl, hz⟩
  go_wp2
  go_ret
  exact ⟨rfl, hz⟩

theorem frag_long (a b c d : Int) (s : ByteArray) (w : World) (hs : 2000 < s.size) :
    Calls Try.prog 4 #[.agg #[.int .i64 a, .int .i64 b, .int .i64 c, .int .i64 d], .string s] w fun e w' => e = .returned (.bool true) ∧ Ext w w' := by
  go_enter Try.func4, Try.ntmps4
  go_wp2_with fail
  refine (awakeFrag _).mono ?_
  rintro e z ⟨rfl, hz⟩
  have E1 : Ext w z := Ext.trans (by repeat (first | (with_reducible exact Ext.refl _) | (with_reducible assumption) | (with_reducible refine Ext.drewN ?_ _) | (with_reducible refine Ext.drew ?_) | (with_reducible refine Ext.alloc ?_ _) | (refine Ext.trans ?_ (by with_reducible assumption)))) hz
  go_wp2_with fail
  refine (awakeFrag _).mono ?_
  rintro e z2 ⟨rfl, hz2⟩
  have E2 : Ext w z2 := E1.trans hz2
  go_wp2
  go_ret
  exact ⟨rfl, E2⟩

theorem frag_wrong (a b c d : Int) (s : ByteArray) (w : World) (hs : s.size ≤ 2000) (h : idOk a b c d = false) :
    Calls Try.prog 4 #[.agg #[.int .i64 a, .int .i64 b, .int .i64 c, .int .i64 d], .string s] w fun e w' => e = .returned (.bool true) ∧ Ext w w' := by
  have hR := Lib.hid (fun w => fragRight a b c d w)
  rw [h] at hR
  have hO := Lib.hid (fun w => of_any a b c d w)
  have hF := Lib.hid (fun w => frame_wrong a b c d s w h)
  have hN := Lib.hid (fun w => name_wrong a b c d w h)
  clear h
  go_enter Try.func4, Try.ntmps4
  go_wp2_with fail
  refine (awakeFrag _).mono ?_
  rintro e z ⟨rfl, hz⟩
  have E1 : Ext w z := Ext.trans (by repeat (first | (with_reducible exact Ext.refl _) | (with_reducible assumption) | (with_reducible refine Ext.drewN ?_ _) | (with_reducible refine Ext.drew ?_) | (with_reducible refine Ext.alloc ?_ _) | (refine Ext.trans ?_ (by with_reducible assumption)))) hz
  have hcz0 := Ext.cellAt hz (b := w.heap.size) (by first | omega | (simp; done) | (simp; omega)); have hfz0 := Ext.frozenAt hz (b := w.heap.size) (by first | omega | (simp; done) | (simp; omega)); have hlz0 : w.heap.size < z.heap.size := (by have := Ext.size hz; first | omega | (simp at *; omega))
  clear hz
  go_wp2_with fail
  refine (hO.out _).mono ?_
  rintro e z2 ⟨rfl, hz2⟩
  have E2 : Ext w z2 := E1.trans hz2
  have hcz20 := Ext.cellAt hz2 (b := w.heap.size) (by first | omega | (simp; done) | (simp; omega)); have hfz20 := Ext.frozenAt hz2 (b := w.heap.size) (by first | omega | (simp; done) | (simp; omega)); have hlz20 : w.heap.size < z2.heap.size := (by have := Ext.size hz2; first | omega | (simp at *; omega))
  clear hz2
  go_wp2_with fail
  refine (hF.out _).mono ?_
  rintro e z3 ⟨rfl, hz3⟩
  have E3 : Ext w z3 := E2.trans hz3
  have hcz30 := Ext.cellAt hz3 (b := w.heap.size) (by first | omega | (simp; done) | (simp; omega)); have hfz30 := Ext.frozenAt hz3 (b := w.heap.size) (by first | omega | (simp; done) | (simp; omega)); have hlz30 : w.heap.size < z3.heap.size := (by have := Ext.size hz3; first | omega | (simp at *; omega))
  clear hz3
  go_wp2_with fail
  refine (hO.out _).mono ?_
  rintro e z4 ⟨rfl, hz4⟩
  have E4 : Ext w z4 := E3.trans hz4
  have hcz40 := Ext.cellAt hz4 (b := w.heap.size) (by first | omega | (simp; done) | (simp; omega)); have hfz40 := Ext.frozenAt hz4 (b := w.heap.size) (by first | omega | (simp; done) | (simp; omega)); have hlz40 : w.heap.size < z4.heap.size := (by have := Ext.size hz4; first | omega | (simp at *; omega))
  clear hz4
  go_wp2_with fail
  refine (hR.out _).mono ?_
  rintro e z5 ⟨rfl, hz5⟩
  have E5 : Ext w z5 := E4.trans hz5
  have hcz50 := Ext.cellAt hz5 (b := w.heap.size) (by first | omega | (simp; done) | (simp; omega)); have hfz50 := Ext.frozenAt hz5 (b := w.heap.size) (by first | omega | (simp; done) | (simp; omega)); have hlz50 : w.heap.size < z5.heap.size := (by have := Ext.size hz5; first | omega | (simp at *; omega))
  clear hz5
  go_wp2_with fail
  refine (hO.out _).mono ?_
  rintro e z6 ⟨rfl, hz6⟩
  have E6 : Ext w z6 := E5.trans hz6
  clear hz6
  go_wp2_with fail
  refine (hN.out _).mono ?_
  rintro e z7 ⟨rfl, hz7⟩
  have E7 : Ext w z7 := E6.trans hz7
  go_wp2
  go_ret
  exact ⟨rfl, E7⟩
end Go.Proofs.Ytlihjhalbemfmaa
