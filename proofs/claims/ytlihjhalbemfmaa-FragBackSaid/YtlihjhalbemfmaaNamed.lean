/- A name tells its id. -/
import Derived.Test.YtlihjhalbemfmaaDigs
namespace Go.Proofs.Ytlihjhalbemfmaa
open Go.RowKit

def arrTo (l : List Int) (k : Nat) : Array Value :=
  #[.int .i64 (if 0 < k then l.getD 0 0 else 0), .int .i64 (if 1 < k then l.getD 1 0 else 0), .int .i64 (if 2 < k then l.getD 2 0 else 0), .int .i64 (if 3 < k then l.getD 3 0 else 0)]

structure NamedRel (w wr : World) (b : Nat) (c : Array Value) : Prop where
  but : But (· = b) w wr
  cell : ∀ o, wr.cell? ⟨b, o, none⟩ = c[o]?
  free : ∀ o, wr.frozen? ⟨b, o, none⟩ = false

theorem NamedRel.store {w wr : World} {b : Nat} {c : Array Value} (h : NamedRel w wr b c) (k : Nat) (hk : k < c.size) (v : Value) : NamedRel w (wr.setCell ⟨b, k, none⟩ v) b (c.setIfInBounds k v) := by
  refine ⟨h.but.trans (But.setCell (S := (· = b)) (But.refl wr) (p := ⟨b, k, none⟩) rfl v), fun o => ?_, fun o => by rw [World.frozen?_setCell]; exact h.free o⟩
  by_cases e : o = k
  · subst e
    rw [World.cell?_setCell_same _ _ _ (u := c[o]) (by rw [h.cell]; simp [hk])]
    simp [hk]
  · rw [World.cell?_setCell_other _ _ _ _ (by intro q; cases q; exact e rfl), h.cell, Array.getElem?_setIfInBounds_ne (Ne.symm e)]
theorem NamedRel.ext {w wr z : World} {b : Nat} {c : Array Value} (h : NamedRel w wr b c) (hx : Ext wr z) (hb : b < w.heap.size) : NamedRel w z b c := by
  have hb2 : b < wr.heap.size := Nat.lt_of_lt_of_le hb h.but.size
  exact ⟨h.but.trans (But.of_ext hx), fun o => by rw [hx.cellAt hb2]; exact h.cell o, fun o => by rw [hx.frozenAt hb2]; exact h.free o⟩

set_option maxRecDepth 30000 in
theorem named_right (a b c d : Int) (w : World) (h : idOk a b c d = true) :
    Calls Try.prog 15 #[.string (nameTo [a, b, c, d] 4)] w fun e w' => e = .returned (.tuple #[.agg #[.int .i64 a, .int .i64 b, .int .i64 c, .int .i64 d], .bool true]) ∧ Ext w w' := by
  have hok := idOk_iff.1 h
  have hall : ∀ n ∈ [a, b, c, d], 0 ≤ n ∧ n ≤ 2147483647 := by intro n hn; simp at hn; rcases hn with rfl | rfl | rfl | rfl <;> omega
  have hN := Lib.hid (numbered_rest [a, b, c, d] hall rfl)
  have hM := Lib.hid (fun w => name_right a b c d w h)
  have hpos : 0 < (nameTo [a, b, c, d] 4).size := by rw [name_rest]; exact (letter_head 0 _ (by omega)).1
  have hne1 := isEmpty_false hpos
  have hne := toList_ne hpos
  have HR := Lib.hid (name_rest [a, b, c, d])
  clear h hok hall hpos
  generalize nameTo [a, b, c, d] 4 = s at *
  go_enter Try.func15, Try.ntmps15
  go_wp2_with fail
  go_loopw [5, 12] (fun x y wr => ∃ k : Nat, k ≤ 4 ∧ y = .int .i64 k ∧ x = .string (restFrom [a, b, c, d] k (4 - k)) ∧ NamedRel ((w.alloc (.cells #[.int .i64 0, .int .i64 0, .int .i64 0, .int .i64 0] 36)).alloc (.cells #[.int .i64 0, .int .i64 0, .int .i64 0, .int .i64 0] 84)) wr (w.heap.size + 1) (arrTo [a, b, c, d] k)) (fun _ y _ => 4 - (intOf y).toNat)
  case atStart => exact ⟨0, by omega, rfl, by rw [HR.out], ⟨But.refl _, fun o => by simp [arrTo], fun o => by simp⟩⟩
  case round =>
    obtain ⟨k, hk, rfl, rfl, hx⟩ := hrel
    have HX := Lib.hid hx
    have hcell := hx.cell
    have hfree := hx.free
    have hsize : w.heap.size + 1 < wr.heap.size := by have := hx.but.size; simp at this; omega
    clear hx
    have hkk : k = 0 ∨ k = 1 ∨ k = 2 ∨ k = 3 ∨ k = 4 := by omega
    rcases hkk with rfl | rfl | rfl | rfl | rfl
    · clear hcell hfree
      have HN : Hid (∀ w, Calls Try.prog 46 #[.string (restFrom [a, b, c, d] 0 (4 - 0)), .int .u8 116] w fun e w' => e = .returned (.tuple #[.int .i64 a, .string (restFrom [a, b, c, d] (0 + 1) (4 - (0 + 1))), .bool true]) ∧ Ext w w') := Lib.hid (fun w => hN.out 0 3 (by omega) w); go_wp2_with fail; refine (HN.out _).mono ?_; rintro e z ⟨rfl, hz⟩; have HX2 := Lib.hid (HX.out.ext hz (by simp)); have hcell := HX2.out.cell 0; simp [arrTo] at hcell; have hfree := HX2.out.free; have hsize : w.heap.size + 1 < z.heap.size := (by have := hz.size; omega); clear hz; go_wp2; go_roundw; (case rel => exact ⟨0 + 1, by omega, rfl, rfl, (HX2.out.store 0 (by simp [arrTo]) _)⟩); (case measure => simp [intOf])
    · clear hcell hfree
      have HN : Hid (∀ w, Calls Try.prog 46 #[.string (restFrom [a, b, c, d] 1 (4 - 1)), .int .u8 97] w fun e w' => e = .returned (.tuple #[.int .i64 b, .string (restFrom [a, b, c, d] (1 + 1) (4 - (1 + 1))), .bool true]) ∧ Ext w w') := Lib.hid (fun w => hN.out 1 2 (by omega) w); go_wp2_with fail; refine (HN.out _).mono ?_; rintro e z ⟨rfl, hz⟩; have HX2 := Lib.hid (HX.out.ext hz (by simp)); have hcell := HX2.out.cell 1; simp [arrTo] at hcell; have hfree := HX2.out.free; have hsize : w.heap.size + 1 < z.heap.size := (by have := hz.size; omega); clear hz; go_wp2; go_roundw; (case rel => exact ⟨1 + 1, by omega, rfl, rfl, (HX2.out.store 1 (by simp [arrTo]) _)⟩); (case measure => simp [intOf])
    · clear hcell hfree
      have HN : Hid (∀ w, Calls Try.prog 46 #[.string (restFrom [a, b, c, d] 2 (4 - 2)), .int .u8 112] w fun e w' => e = .returned (.tuple #[.int .i64 c, .string (restFrom [a, b, c, d] (2 + 1) (4 - (2 + 1))), .bool true]) ∧ Ext w w') := Lib.hid (fun w => hN.out 2 1 (by omega) w); go_wp2_with fail; refine (HN.out _).mono ?_; rintro e z ⟨rfl, hz⟩; have HX2 := Lib.hid (HX.out.ext hz (by simp)); have hcell := HX2.out.cell 2; simp [arrTo] at hcell; have hfree := HX2.out.free; have hsize : w.heap.size + 1 < z.heap.size := (by have := hz.size; omega); clear hz; go_wp2; go_roundw; (case rel => exact ⟨2 + 1, by omega, rfl, rfl, (HX2.out.store 2 (by simp [arrTo]) _)⟩); (case measure => simp [intOf])
    · clear hcell hfree
      have HN : Hid (∀ w, Calls Try.prog 46 #[.string (restFrom [a, b, c, d] 3 (4 - 3)), .int .u8 102] w fun e w' => e = .returned (.tuple #[.int .i64 d, .string (restFrom [a, b, c, d] (3 + 1) (4 - (3 + 1))), .bool true]) ∧ Ext w w') := Lib.hid (fun w => hN.out 3 0 (by omega) w); go_wp2_with fail; refine (HN.out _).mono ?_; rintro e z ⟨rfl, hz⟩; have HX2 := Lib.hid (HX.out.ext hz (by simp)); have hcell := HX2.out.cell 3; simp [arrTo] at hcell; have hfree := HX2.out.free; have hsize : w.heap.size + 1 < z.heap.size := (by have := hz.size; omega); clear hz; go_wp2; go_roundw; (case rel => exact ⟨3 + 1, by omega, rfl, rfl, (HX2.out.store 3 (by simp [arrTo]) _)⟩); (case measure => simp [intOf])
    · have hc0 := hcell 0
      have hc1 := hcell 1
      have hc2 := hcell 2
      have hc3 := hcell 3
      simp [arrTo] at hc0 hc1 hc2 hc3
      have hcr : ∀ o, wr.cell? ⟨w.heap.size, o, none⟩ = _ := HX.out.but.cellAt (by simp; omega) (by omega)
      have hfr : ∀ o, wr.frozen? ⟨w.heap.size, o, none⟩ = _ := HX.out.but.frozenAt (by simp; omega) (by omega)
      have E0 : Ext w wr := But.ext (by repeat (first | (with_reducible exact Ext.refl _) | (with_reducible assumption) | (with_reducible refine Ext.drewN ?_ _) | (with_reducible refine Ext.drew ?_) | (with_reducible refine Ext.alloc ?_ _) | (refine Ext.trans ?_ (by with_reducible assumption)))) HX.out.but (by intro k hk; omega)
      have hsz0 : w.heap.size < wr.heap.size := by omega
      clear hcell
      go_wp2_with fail
      refine (hM.out _).mono ?_
      rintro e z ⟨rfl, hz⟩
      have E1 : Ext w z := Ext.trans (by repeat (first | (with_reducible exact E0) | (with_reducible refine Ext.drewN ?_ _) | (with_reducible refine Ext.drew ?_) | (with_reducible refine Ext.setCell ?_ (by first | omega | (simp; done) | (simp; omega)) _) | (with_reducible refine Ext.alloc ?_ _))) hz
      have hcz0 := Ext.cellAt hz (b := w.heap.size) (by first | omega | (simp; done) | (simp; omega)); have hfz0 := Ext.frozenAt hz (b := w.heap.size) (by first | omega | (simp; done) | (simp; omega)); have hlz0 : w.heap.size < z.heap.size := (by have := Ext.size hz; first | omega | (simp at *; omega)); have hcz1 := Ext.cellAt hz (b := wr.heap.size) (by first | omega | (simp; done) | (simp; omega)); have hfz1 := Ext.frozenAt hz (b := wr.heap.size) (by first | omega | (simp; done) | (simp; omega)); have hlz1 : wr.heap.size < z.heap.size := (by have := Ext.size hz; first | omega | (simp at *; omega))
      clear hz
      go_wp2
      exact bodyPost_ret (v := .tuple #[.agg #[.int .i64 a, .int .i64 b, .int .i64 c, .int .i64 d], .bool true]) (by simp only [results, Try.results15]; go_simp) rfl ⟨rfl, by repeat (first | (with_reducible exact E1) | (with_reducible refine Ext.drewN ?_ _) | (with_reducible refine Ext.drew ?_) | (with_reducible refine Ext.setCell ?_ (by first | omega | (simp; done) | (simp; omega)) _) | (with_reducible refine Ext.alloc ?_ _))⟩
end Go.Proofs.Ytlihjhalbemfmaa
