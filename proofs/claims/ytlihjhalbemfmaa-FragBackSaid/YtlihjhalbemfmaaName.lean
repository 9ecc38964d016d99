/- The name of an id. -/
import Derived.Test.YtlihjhalbemfmaaDecimal
import Derived.Test.YtlihjhalbemfmaaVal
namespace Go.Proofs.Ytlihjhalbemfmaa
open Go.RowKit

set_option maxRecDepth 30000 in
theorem write_num (n : Int) (w : World) (h0 : 0 ≤ n) (h1 : n ≤ 2147483647) :
    Calls Try.prog 40 #[.agg #[.int .i64 0, .int .i64 n, .string ⟨#[]⟩, .int .i64 0, .int .i64 0]] w fun e w' => e = .returned (.string (digs n.toNat ByteArray.empty)) ∧ Ext w w' := by
  have hok : Val.ok ⟨0, n, ⟨#[]⟩, 0, 0⟩ = true := by simp [Val.ok, ByteArray.toList_eq]; omega
  have hV := Lib.hid (fun w => valueRight_any ⟨0, n, ⟨#[]⟩, 0, 0⟩ w)
  rw [hok] at hV
  have hD := Lib.hid (fun w => decimal_any n w h0 h1)
  clear hok
  go_enter Try.func40, Try.ntmps40
  go_wp2_with fail
  refine (hV.out _).mono ?_
  rintro e z ⟨rfl, hz⟩
  have E1 : Ext w z := Ext.trans (by repeat (first | (with_reducible exact Ext.refl _) | (with_reducible assumption) | (with_reducible refine Ext.drewN ?_ _) | (with_reducible refine Ext.drew ?_) | (with_reducible refine Ext.alloc ?_ _) | (refine Ext.trans ?_ (by with_reducible assumption)))) hz
  have hcz0 := Ext.cellAt hz (b := w.heap.size) (by first | omega | (simp; done) | (simp; omega)); have hfz0 := Ext.frozenAt hz (b := w.heap.size) (by first | omega | (simp; done) | (simp; omega)); have hlz0 : w.heap.size < z.heap.size := (by have := Ext.size hz; first | omega | (simp at *; omega))
  clear hz
  go_wp2_with fail
  refine (hD.out _).mono ?_
  rintro e z2 ⟨rfl, rfl⟩
  go_wp2
  go_ret
  exact ⟨rfl, E1⟩

/-- The letters of a name. -/
def letter (k : Nat) : ByteArray := ⟨#[([116, 97, 112, 102] : List UInt8).getD k 0]⟩
theorem letter_size (k : Nat) : (letter k).size = 1 := rfl
theorem letter_at (k : Nat) (h : k < 4) : (⟨#[116, 97, 112, 102]⟩ : ByteArray).extract k (k + 1) = letter k := by
  have : k = 0 ∨ k = 1 ∨ k = 2 ∨ k = 3 := by omega
  rcases this with rfl | rfl | rfl | rfl <;> rfl
/-- What one number of a name is. -/
def part (l : List Int) (k : Nat) : ByteArray := letter k ++ digs (l.getD k 0).toNat ByteArray.empty
def nameTo (l : List Int) : Nat → ByteArray
  | 0 => ⟨#[]⟩
  | k + 1 => nameTo l k ++ part l k
theorem digs_size10 {n : Int} (h0 : 0 ≤ n) (h1 : n ≤ 2147483647) : (digs n.toNat ByteArray.empty).size ≤ 10 := by
  have := digs_size 9 n.toNat (by omega) ByteArray.empty
  rw [ByteArray.size_empty] at this; omega
theorem nameTo_size (l : List Int) (h : ∀ n ∈ l, 0 ≤ n ∧ n ≤ 2147483647) : ∀ k, k ≤ l.length → (nameTo l k).size ≤ 11 * k
  | 0, _ => by simp [nameTo, ByteArray.size]
  | k + 1, hk => by
    have h1 := nameTo_size l h k (by omega)
    have h2 := h (l.getD k 0) (by rw [List.getD_eq_getElem?_getD, List.getElem?_eq_getElem (by omega)]; simp)
    have h3 := digs_size10 h2.1 h2.2
    rw [nameTo, ByteArray.size_append, part, ByteArray.size_append, letter_size]; omega

theorem name_wrong (a b c d : Int) (w : World) (h : idOk a b c d = false) :
    Calls Try.prog 13 #[.agg #[.int .i64 a, .int .i64 b, .int .i64 c, .int .i64 d]] w fun e w' => e = .returned (.string ⟨#[]⟩) ∧ Ext w w' := by
  have hR := Lib.hid (fun w => fragRight a b c d w)
  rw [h] at hR
  clear h
  go_enter Try.func13, Try.ntmps13
  go_wp2_with fail
  refine (hR.out _).mono ?_
  rintro e z ⟨rfl, hz⟩
  have E1 : Ext w z := Ext.trans (by repeat (first | (with_reducible exact Ext.refl _) | (with_reducible assumption) | (with_reducible refine Ext.drewN ?_ _) | (with_reducible refine Ext.drew ?_) | (with_reducible refine Ext.alloc ?_ _) | (refine Ext.trans ?_ (by with_reducible assumption)))) hz
  clear hz
  go_wp2
  go_ret
  exact ⟨rfl, E1⟩

set_option maxRecDepth 30000 in
theorem name_right (a b c d : Int) (w : World) (h : idOk a b c d = true) :
    Calls Try.prog 13 #[.agg #[.int .i64 a, .int .i64 b, .int .i64 c, .int .i64 d]] w fun e w' => e = .returned (.string (nameTo [a, b, c, d] 4)) ∧ Ext w w' := by
  have hok := idOk_iff.1 h
  have hall : ∀ n ∈ [a, b, c, d], 0 ≤ n ∧ n ≤ 2147483647 := by intro n hn; simp at hn; rcases hn with rfl | rfl | rfl | rfl <;> omega
  have hsz := nameTo_size [a, b, c, d] hall
  have hR := Lib.hid (fun w => fragRight a b c d w)
  rw [h] at hR
  have hNu := Lib.hid (fun w => numbers_any a b c d w)
  have HALL := Lib.hid hall
  have HSZ := Lib.hid hsz
  clear h hok hall hsz
  go_enter Try.func13, Try.ntmps13
  go_wp2_with fail
  refine (hR.out _).mono ?_
  rintro e z ⟨rfl, hz⟩
  have E1 : Ext w z := Ext.trans (by repeat (first | (with_reducible exact Ext.refl _) | (with_reducible assumption) | (with_reducible refine Ext.drewN ?_ _) | (with_reducible refine Ext.drew ?_) | (with_reducible refine Ext.alloc ?_ _) | (refine Ext.trans ?_ (by with_reducible assumption)))) hz
  have hcz0 := Ext.cellAt hz (b := w.heap.size) (by first | omega | (simp; done) | (simp; omega)); have hfz0 := Ext.frozenAt hz (b := w.heap.size) (by first | omega | (simp; done) | (simp; omega)); have hlz0 : w.heap.size < z.heap.size := (by have := Ext.size hz; first | omega | (simp at *; omega))
  clear hz
  go_wp2_with fail
  refine (hNu.out _).mono ?_
  rintro e z1 ⟨g, rfl, hz1, hg1, hg2, hc⟩
  have E2 : Ext w z1 := Ext.trans (by repeat (first | (with_reducible exact E1) | (with_reducible refine Ext.drewN ?_ _) | (with_reducible refine Ext.drew ?_) | (with_reducible refine Ext.setCell ?_ (by first | omega | (simp; done) | (simp; omega)) _) | (with_reducible refine Ext.alloc ?_ _))) hz1
  have HC := Lib.hid hc
  clear hz1 hc
  go_wp2_with fail
  go_loopw [3, 12] (fun o x wr => ∃ k : Nat, k ≤ 4 ∧ x = .int .i64 k ∧ o = .string (nameTo [a, b, c, d] k) ∧ Ext z1 wr) (fun _ x _ => 4 - (intOf x).toNat)
  case atStart => exact ⟨0, by omega, rfl, rfl, Ext.refl _⟩
  case round =>
    obtain ⟨k, hk, rfl, rfl, hx⟩ := hrel
    by_cases hlt : k < 4
    · have hcell : wr.cell? ⟨g, k, none⟩ = some (.int .i64 ([a, b, c, d].getD k 0)) := by
        rw [hx.cellAt hg2, HC.out]
        have : k = 0 ∨ k = 1 ∨ k = 2 ∨ k = 3 := by omega
        rcases this with rfl | rfl | rfl | rfl <;> rfl
      have hmem : [a, b, c, d].getD k 0 ∈ [a, b, c, d] := by rw [List.getD_eq_getElem?_getD, List.getElem?_eq_getElem (by simpa using hlt)]; simp
      have hb := HALL.out _ hmem
      have hsucc : nameTo [a, b, c, d] (k + 1) = nameTo [a, b, c, d] k ++ (letter k ++ digs ([a, b, c, d].getD k 0).toNat ByteArray.empty) := rfl
      have hns := digs_size10 hb.1 hb.2
      have hhs := HSZ.out k (by simp; omega)
      generalize [a, b, c, d].getD k 0 = x at *
      have hN := Lib.hid (fun w => write_num x w hb.1 hb.2)
      have HU := Lib.hid hsucc
      have HX := Lib.hid hx
      have hla := letter_at k hlt
      have hls := letter_size k
      have hw : wrap64 ((k : Int) + 1) = (k : Int) + 1 := by unfold wrap64; omega
      have hk1 : (k : Int) ≤ (k : Int) + 1 := by omega
      have hk2 : (k : Int) + 1 ≤ 4 := by omega
      have hk3 : ((k : Int) + 1).toNat = k + 1 := by omega
      have hk4 : 0 ≤ (k : Int) + 1 := by omega
      clear hmem hb hsucc hx
      generalize nameTo [a, b, c, d] k = hd at *
      generalize digs x.toNat ByteArray.empty = ds at *
      have hq1 : ¬ 9223372036854775807 < 1 + ds.size := by omega
      have hq2 : ¬ 9223372036854775807 < hd.size + (1 + ds.size) := by omega
      have hq3 : (letter k ++ ds).size = 1 + ds.size := by rw [ByteArray.size_append, hls]
      go_wp2
      refine wp_region_Rt Ext Ext.refl (by kernel_rfl) ?_
      repeat (refine Rt.takeU Ext.refl (fun _ _ _ => Ext.trans) rfl rfl (by kernel_rfl) (fun K hK => ?_); apply Exists.intro; refine ⟨fun x hx => ?_, ?_⟩; (next => have HX := Lib.hid hx; have hc := (Ext.cells hx).1; clear hx; go_simp; first | done | ((try go_ints); first | done | rfl | ((go_at_call 40; refine (hN.out _).mono ?_; rintro e w' ⟨rfl, he⟩; exact ⟨rfl, he⟩)))); go_simp; refine hK _ ?_; clear hK K)
      refine Rt.done (by kernel_rfl) (fun z2 hz2 => ?_)
      have E3 : Ext z1 z2 := Ext.trans (by repeat (first | (with_reducible exact HX.out) | (with_reducible refine Ext.drewN ?_ _) | (with_reducible refine Ext.drew ?_) | (with_reducible refine Ext.setCell ?_ (by first | omega | (simp; done) | (simp; omega)) _) | (with_reducible refine Ext.alloc ?_ _))) hz2
      clear hz2
      go_wp2
      go_roundw
      case rel => exact ⟨k + 1, by omega, by go_num, by rw [HU.out], E3⟩
      case measure => simp [intOf]; omega
    · obtain rfl : k = 4 := by omega
      have HX := Lib.hid hx
      clear hx
      go_wp2
      go_ret
      exact ⟨rfl, E2.trans HX.out⟩
end Go.Proofs.Ytlihjhalbemfmaa
