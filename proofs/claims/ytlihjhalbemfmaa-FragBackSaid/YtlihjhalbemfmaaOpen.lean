/- A frame is opened. -/
import Derived.Test.YtlihjhalbemfmaaOpenLaw
namespace Go.Proofs.Ytlihjhalbemfmaa
open Go.RowKit

theorem ext_grown {a x y : World} {b : Nat} (h : Ext a x) (hg : x.grownBy y (some b)) (hb : a.heap.size ≤ b) : Ext a y :=
  Below.grown h hg h.size fun k hk => by injection hk with hk; omega

set_option maxRecDepth 30000 in
theorem open_framed (a b c d : Int) (s : ByteArray) (w : World) (h : idOk a b c d = true) (hs : s.size ≤ 1048576) :
    Calls Try.prog 14 #[.string (framed a b c d s)] w fun e w' => e = .returned (.tuple #[.agg #[.int .i64 a, .int .i64 b, .int .i64 c, .int .i64 d], .string s, .int .i64 0]) ∧ Ext w w' := by
  have hok := idOk_iff.1 h
  have hall : ∀ n ∈ [a, b, c, d], 0 ≤ n ∧ n ≤ 2147483647 := by intro n hn; simp at hn; rcases hn with rfl | rfl | rfl | rfl <;> omega
  have hsz := headTo_size [a, b, c, d] hall 4 (by simp)
  have hfs := frame_size [a, b, c, d] s
  have hl8 := numB_len8 s.size (by omega)
  have hnum : ∀ i, ([a, b, c, d].getD i 0).toNat ≤ 9007199254740991 := by
    intro i
    rcases Nat.lt_or_ge i 4 with hi | hi
    · have := hall ([a, b, c, d].getD i 0) (by rw [List.getD_eq_getElem?_getD, List.getElem?_eq_getElem (by simpa using hi)]; simp)
      omega
    · rw [List.getD_eq_getElem?_getD, List.getElem?_eq_none (by simpa using hi)]; simp
  have hC := Lib.hid (fun w => crcOpen_sealed (headTo [a, b, c, d] 4 ++ tapeText s) w (by omega))
  have hI : ∀ (p : Nat) (w : World), TapeAt w p (headTo [a, b, c, d] 4 ++ tapeText s) ((0 : Nat) : Int) → Calls Try.prog 43 #[.pointer (some ⟨p, 0, none⟩)] w fun e w' => e = .returned (.tuple #[.agg #[.int .i64 a, .int .i64 b, .int .i64 c, .int .i64 d], .int .i64 0]) ∧ w.grownBy w' (some p) ∧ TapeAt w' p (headTo [a, b, c, d] 4 ++ tapeText s) ((headTo [a, b, c, d] 4).size : Int) := by
    intro p w hp
    have := ided_any p (headTo [a, b, c, d] 4 ++ tapeText s) (offOf fun i => ([a, b, c, d].getD i 0).toNat) (fun i => ([a, b, c, d].getD i 0).toNat) w hp hnum (fun i hi => frame_numAt _ s i hi) (fun i => rfl) (by omega)
    rw [headTo_off]
    have e0 : (([a, b, c, d].getD 0 0).toNat : Int) = a := Int.toNat_of_nonneg hok.1.1
    have e1 : (([a, b, c, d].getD 1 0).toNat : Int) = b := Int.toNat_of_nonneg hok.2.1.1
    have e2 : (([a, b, c, d].getD 2 0).toNat : Int) = c := Int.toNat_of_nonneg hok.2.2.1.1
    have e3 : (([a, b, c, d].getD 3 0).toNat : Int) = d := Int.toNat_of_nonneg hok.2.2.2.1
    rw [e0, e1, e2, e3] at this
    exact this
  have hX : ∀ (p : Nat) (w : World), TapeAt w p (headTo [a, b, c, d] 4 ++ tapeText s) ((headTo [a, b, c, d] 4).size : Int) → Calls Try.prog 44 #[.pointer (some ⟨p, 0, none⟩), .int .i64 1048576] w fun e w' => e = .returned (.tuple #[.string s, .int .i64 0]) ∧ w.grownBy w' (some p) ∧ TapeAt w' p (headTo [a, b, c, d] 4 ++ tapeText s) ((headTo [a, b, c, d] 4 ++ tapeText s).size : Int) := by
    intro p w hp
    have := text_any p (headTo [a, b, c, d] 4 ++ tapeText s) s (headTo [a, b, c, d] 4).size w hp (by rw [headTo_off]; exact frame_textAt _ _) (by omega) hs (by omega) (frame_text _ _ _ _ rfl rfl)
    rw [show (headTo [a, b, c, d] 4).size + (numB s.size).length + s.size = (headTo [a, b, c, d] 4 ++ tapeText s).size by omega] at this
    exact this
  have hE : ∀ (p : Nat) (w : World), TapeAt w p (headTo [a, b, c, d] 4 ++ tapeText s) ((headTo [a, b, c, d] 4 ++ tapeText s).size : Int) → Calls Try.prog 45 #[.pointer (some ⟨p, 0, none⟩)] w fun e w' => e = .returned (.bool true) ∧ Ext w w' := by
    intro p w hp
    have := end_any p _ _ w hp (by omega) (Int.le_refl _) (by omega)
    simpa using this
  have hR := Lib.hid (fun w => fragRight a b c d w)
  rw [h] at hR
  have hW := Lib.hid (fun w => new_any (headTo [a, b, c, d] 4 ++ tapeText s) w)
  have HI := Lib.hid hI
  have HX := Lib.hid hX
  have HE := Lib.hid hE
  unfold framed
  clear h hok hall hsz hfs hl8 hnum hI hX hE hs
  generalize (headTo [a, b, c, d] 4).size = o at *
  generalize headTo [a, b, c, d] 4 ++ tapeText s = t at *
  go_enter Try.func14, Try.ntmps14
  go_wp2_with fail
  refine (hC.out _).mono ?_
  rintro e z1 ⟨rfl, hz1⟩
  have E1 : Ext w z1 := Ext.trans (by repeat (first | (with_reducible exact Ext.refl _) | (with_reducible assumption) | (with_reducible refine Ext.drewN ?_ _) | (with_reducible refine Ext.drew ?_) | (with_reducible refine Ext.alloc ?_ _) | (refine Ext.trans ?_ (by with_reducible assumption)))) hz1
  have hcz10 := Ext.cellAt hz1 (b := w.heap.size) (by first | omega | (simp; done) | (simp; omega)); have hfz10 := Ext.frozenAt hz1 (b := w.heap.size) (by first | omega | (simp; done) | (simp; omega)); have hlz10 : w.heap.size < z1.heap.size := (by have := Ext.size hz1; first | omega | (simp at *; omega))
  clear hz1
  go_wp2_with fail
  refine (hW.out _).mono ?_
  rintro e z2 ⟨rfl, hz2, ht2⟩
  have E2 := Lib.hid hz2
  have T2 := Lib.hid ht2
  clear hz2 ht2
  go_wp2_with fail
  refine (HI.out _ _ T2.out).mono ?_
  rintro e z3 ⟨rfl, hg3, ht3⟩
  have E3 := Lib.hid (ext_grown E2.out hg3 (Nat.le_refl _))
  have T3 := Lib.hid ht3
  clear hg3 ht3
  go_wp2_with fail
  refine (HX.out _ _ (T3.out.ext ((Ext.refl _).alloc _))).mono ?_
  rintro e z4 ⟨rfl, hg4, ht4⟩
  have hlt3 : z1.heap.size < z3.heap.size := T3.out.lt
  have hb8 := hg4.block z3.heap.size (by simp) (fun e => by injection e with e; omega)
  rw [heap_alloc_new] at hb8
  have k8 : ∀ o, z4.cell? ⟨z3.heap.size, o, none⟩ = (#[.int .i64 a, .int .i64 b, .int .i64 c, .int .i64 d] : Array Value)[o]? := fun o => by simp [World.cell?, hb8]
  have hs8 : z3.heap.size < z4.heap.size := by have := hg4.size; simp at this; omega
  have E4 := Lib.hid (ext_grown (E3.out.alloc _) hg4 (Nat.le_refl _))
  have T4 := Lib.hid ht4
  clear hg4 ht4 hb8 hlt3
  go_wp2_with fail
  refine (HE.out _ _ T4.out).mono ?_
  rintro e z5 ⟨rfl, hz5⟩
  have E5 := Lib.hid (E4.out.trans hz5)
  have hcz50 := Ext.cellAt hz5 (b := z3.heap.size) (by first | omega | (simp; done) | (simp; omega)); have hfz50 := Ext.frozenAt hz5 (b := z3.heap.size) (by first | omega | (simp; done) | (simp; omega)); have hlz50 : z3.heap.size < z5.heap.size := (by have := Ext.size hz5; first | omega | (simp at *; omega))
  clear hz5
  go_wp2_with fail
  refine (hR.out _).mono ?_
  rintro e z6 ⟨rfl, hz6⟩
  have E6 := E5.out.trans hz6
  have hcz60 := Ext.cellAt hz6 (b := z3.heap.size) (by first | omega | (simp; done) | (simp; omega)); have hfz60 := Ext.frozenAt hz6 (b := z3.heap.size) (by first | omega | (simp; done) | (simp; omega)); have hlz60 : z3.heap.size < z6.heap.size := (by have := Ext.size hz6; first | omega | (simp at *; omega))
  have hc6 := E6.cellAt (b := w.heap.size) (by omega)
  have hf6 := E6.frozenAt (b := w.heap.size) (by omega)
  have HE6 := Lib.hid E6
  clear hz6 E6
  go_wp2
  refine bodyPost_ret (v := .tuple #[.agg #[.int .i64 a, .int .i64 b, .int .i64 c, .int .i64 d], .string s, .int .i64 0]) (by simp only [results, Try.results14]; go_simp) rfl ⟨rfl, ?_⟩
  have E7 : Ext w z6 := E1.trans HE6.out
  exact (((E7.setCell (by first | omega | (simp; done) | (simp; omega)) _).setCell (by first | omega | (simp; done) | (simp; omega)) _).setCell (by first | omega | (simp; done) | (simp; omega)) _).setCell (by first | omega | (simp; done) | (simp; omega)) _
end Go.Proofs.Ytlihjhalbemfmaa
