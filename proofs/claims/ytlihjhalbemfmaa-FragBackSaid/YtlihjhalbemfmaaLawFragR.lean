/- The law of fragments, at a right id. -/
import Derived.Test.YtlihjhalbemfmaaLawFrag
namespace Go.Proofs.Ytlihjhalbemfmaa
open Go.RowKit

theorem eqId (d : Nat) (w : World) (x0 y0 x1 y1 x2 y2 x3 y3 : Int) :
    (Op.equalIn (d + 2) 36 (.agg #[.int .i64 x0, .int .i64 x1, .int .i64 x2, .int .i64 x3]) (.agg #[.int .i64 y0, .int .i64 y1, .int .i64 y2, .int .i64 y3])).run Try.prog w = .ok (x0 == y0 && (x1 == y1 && (x2 == y2 && (x3 == y3)))) w := by
  rw [run_equalIn_struct (P := Try.prog) w (d + 1) _ _ _ (by kernel_rfl) (by kernel_rfl)]
  go_simp
  by_cases h : x0 = y0 <;> by_cases h' : x1 = y1 <;> by_cases h2 : x2 = y2 <;> by_cases h3 : x3 = y3 <;> simp [h, h', h2, h3]
attribute [local go_sem high] eqId

theorem frag_right (a b c d : Int) (s : ByteArray) (w : World) (hs : s.size ≤ 2000) (h : idOk a b c d = true) :
    Calls Try.prog 4 #[.agg #[.int .i64 a, .int .i64 b, .int .i64 c, .int .i64 d], .string s] w fun e w' => e = .returned (.bool true) ∧ Ext w w' := by
  have hO := Lib.hid (fun w => of_any a b c d w)
  have hF := Lib.hid (fun w => Go.Proofs.Ytlihjhalbemfmaa.frame_right a b c d s w h (by omega))
  have hN := Lib.hid (fun w => name_right a b c d w h)
  have hD := Lib.hid (fun w => named_right a b c d w h)
  have hP := Lib.hid (fun w => open_framed a b c d s w h (by omega))
  clear h
  generalize framed a b c d s = t at *
  generalize nameTo [a, b, c, d] 4 = u at *
  go_enter Try.func4, Try.ntmps4
  go_wp2_with fail
  refine (awakeFrag _).mono ?_
  rintro e z ⟨rfl, hz⟩
  have E1 : Ext w z := Ext.trans (by repeat (first | (with_reducible exact Ext.refl _) | (with_reducible assumption) | (with_reducible refine Ext.drewN ?_ _) | (with_reducible refine Ext.drew ?_) | (with_reducible refine Ext.alloc ?_ _) | (refine Ext.trans ?_ (by with_reducible assumption)))) hz
  have hcz0 := Ext.cellAt hz (b := w.heap.size) (by first | omega | (simp; done) | (simp; omega)); have hfz0 := Ext.frozenAt hz (b := w.heap.size) (by first | omega | (simp; done) | (simp; omega)); have hlz0 : w.heap.size < z.heap.size := (by have := Ext.size hz; first | omega | (simp at *; omega))
  clear hz
  go_wp2_with fail
  refine (hO.out _).mono ?_
  rintro e z2 ⟨rfl, hz2⟩
  have E2 : Ext w z2 := E1.trans hz2
  have hcz20 := Ext.cellAt hz2 (b := w.heap.size) (by first | omega | (simp; done) | (simp; omega)); have hfz20 := Ext.frozenAt hz2 (b := w.heap.size) (by first | omega | (simp; done) | (simp; omega)); have hlz20 : w.heap.size < z2.heap.size := (by have := Ext.size hz2; first | omega | (simp at *; omega))
  clear hz2
  go_wp2_with fail
  refine (hF.out _).mono ?_
  rintro e z3 ⟨rfl, hz3⟩
  have E3 : Ext w z3 := E2.trans hz3
  have hcz30 := Ext.cellAt hz3 (b := w.heap.size) (by first | omega | (simp; done) | (simp; omega)); have hfz30 := Ext.frozenAt hz3 (b := w.heap.size) (by first | omega | (simp; done) | (simp; omega)); have hlz30 : w.heap.size < z3.heap.size := (by have := Ext.size hz3; first | omega | (simp at *; omega))
  clear hz3
  go_wp2_with fail
  refine (hP.out _).mono ?_
  rintro e z4 ⟨rfl, hz4⟩
  have E4 : Ext w z4 := E3.trans hz4
  have hcz40 := Ext.cellAt hz4 (b := w.heap.size) (by first | omega | (simp; done) | (simp; omega)); have hfz40 := Ext.frozenAt hz4 (b := w.heap.size) (by first | omega | (simp; done) | (simp; omega)); have hlz40 : w.heap.size < z4.heap.size := (by have := Ext.size hz4; first | omega | (simp at *; omega))
  clear hz4
  go_wp2_with fail
  refine (hO.out _).mono ?_
  rintro e z5 ⟨rfl, hz5⟩
  have E5 : Ext w z5 := Ext.trans (by repeat (first | (with_reducible exact E4) | (with_reducible refine Ext.drewN ?_ _) | (with_reducible refine Ext.drew ?_) | (with_reducible refine Ext.setCell ?_ (by first | omega | (simp; done) | (simp; omega)) _) | (with_reducible refine Ext.alloc ?_ _))) hz5
  have hcz50 := Ext.cellAt hz5 (b := w.heap.size) (by first | omega | (simp; done) | (simp; omega)); have hfz50 := Ext.frozenAt hz5 (b := w.heap.size) (by first | omega | (simp; done) | (simp; omega)); have hlz50 : w.heap.size < z5.heap.size := (by have := Ext.size hz5; first | omega | (simp at *; omega)); have hcz51 := Ext.cellAt hz5 (b := z4.heap.size) (by first | omega | (simp; done) | (simp; omega)); have hfz51 := Ext.frozenAt hz5 (b := z4.heap.size) (by first | omega | (simp; done) | (simp; omega)); have hlz51 : z4.heap.size < z5.heap.size := (by have := Ext.size hz5; first | omega | (simp at *; omega))
  clear hz5
  go_wp2_with fail
  refine (hN.out _).mono ?_
  rintro e z6 ⟨rfl, hz6⟩
  have E6 : Ext w z6 := E5.trans hz6
  have hcz60 := Ext.cellAt hz6 (b := w.heap.size) (by first | omega | (simp; done) | (simp; omega)); have hfz60 := Ext.frozenAt hz6 (b := w.heap.size) (by first | omega | (simp; done) | (simp; omega)); have hlz60 : w.heap.size < z6.heap.size := (by have := Ext.size hz6; first | omega | (simp at *; omega)); have hcz61 := Ext.cellAt hz6 (b := z4.heap.size) (by first | omega | (simp; done) | (simp; omega)); have hfz61 := Ext.frozenAt hz6 (b := z4.heap.size) (by first | omega | (simp; done) | (simp; omega)); have hlz61 : z4.heap.size < z6.heap.size := (by have := Ext.size hz6; first | omega | (simp at *; omega))
  clear hz6
  go_wp2_with fail
  refine (hD.out _).mono ?_
  rintro e z7 ⟨rfl, hz7⟩
  have E7 : Ext w z7 := E6.trans hz7
  have hcz70 := Ext.cellAt hz7 (b := w.heap.size) (by first | omega | (simp; done) | (simp; omega)); have hfz70 := Ext.frozenAt hz7 (b := w.heap.size) (by first | omega | (simp; done) | (simp; omega)); have hlz70 : w.heap.size < z7.heap.size := (by have := Ext.size hz7; first | omega | (simp at *; omega)); have hcz71 := Ext.cellAt hz7 (b := z4.heap.size) (by first | omega | (simp; done) | (simp; omega)); have hfz71 := Ext.frozenAt hz7 (b := z4.heap.size) (by first | omega | (simp; done) | (simp; omega)); have hlz71 : z4.heap.size < z7.heap.size := (by have := Ext.size hz7; first | omega | (simp at *; omega))
  clear hz7
  go_wp2_with fail
  refine wp_region_Rt Ext Ext.refl (by kernel_rfl) ?_
  repeat (first | (refine Rt.takeU Ext.refl (fun _ _ _ => Ext.trans) rfl rfl (by kernel_rfl) (fun K hK => ?_); apply Exists.intro; refine ⟨fun x hx => ?_, ?_⟩; (next => have HX := Lib.hid hx; have hc := (Ext.cells hx).1; clear hx; go_simp; first | done | ((try go_ints); first | done | rfl | (fail))); go_simp; refine hK _ ?_; clear hK K) | (refine Rt.take Ext.refl (fun _ _ _ => Ext.trans) rfl (by kernel_rfl) (fun K hK => ?_); rw [if_pos (by first | rfl | kernel_rfl)]; apply Exists.intro; refine ⟨fun x hx => ?_, ?_⟩; (next => have HX := Lib.hid hx; (have hc0 := Ext.cellAt hx (b := w.heap.size) (by first | omega | (simp; done) | (simp; omega)); have hc1 := Ext.cellAt hx (b := z4.heap.size) (by first | omega | (simp; done) | (simp; omega)); have hc2 := Ext.cellAt hx (b := z7.heap.size) (by first | omega | (simp; done) | (simp; omega))); clear hx; go_simp; first | done | ((try go_ints); first | done | rfl | ((go_at_call 11; refine (hO.out _).mono ?_; rintro e w' ⟨rfl, he⟩; exact ⟨rfl, he⟩)))); go_simp; refine hK _ ?_; clear hK K))
  refine Rt.done (by kernel_rfl) (fun z8 hz8 => ?_)
  have E8 : Ext w z8 := Ext.trans (by repeat (first | (with_reducible exact E7) | (with_reducible refine Ext.drewN ?_ _) | (with_reducible refine Ext.drew ?_) | (with_reducible refine Ext.setCell ?_ (by first | omega | (simp; done) | (simp; omega)) _) | (with_reducible refine Ext.alloc ?_ _))) hz8
  clear hz8
  go_wp2
  go_ret
  exact ⟨rfl, E8⟩
end Go.Proofs.Ytlihjhalbemfmaa
