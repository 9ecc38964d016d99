/- What a frame is. -/
import Derived.Test.YtlihjhalbemfmaaFragRight
import Derived.Test.YtlihjhalbemfmaaCrcOpen
namespace Go.Proofs.Ytlihjhalbemfmaa
open Go.RowKit

def numText (n : Int) : ByteArray := strOfNums (numB n.toNat)
def headTo (l : List Int) : Nat → ByteArray
  | 0 => ⟨#[]⟩
  | k + 1 => headTo l k ++ numText (l.getD k 0)
theorem numText_size {n : Int} (h0 : 0 ≤ n) (h1 : n ≤ 2147483647) : (numText n).size ≤ 8 := by
  unfold numText; rw [strOfNums_size]; exact numB_len8 _ (by omega)
theorem headTo_size (l : List Int) (h : ∀ n ∈ l, 0 ≤ n ∧ n ≤ 2147483647) : ∀ k, k ≤ l.length → (headTo l k).size ≤ 8 * k
  | 0, _ => by simp [headTo, ByteArray.size]
  | k + 1, hk => by
    have h1 := headTo_size l h k (by omega)
    have h2 := h (l.getD k 0) (by rw [List.getD_eq_getElem?_getD, List.getElem?_eq_getElem (by omega)]; simp)
    have h3 := numText_size h2.1 h2.2
    rw [headTo, ByteArray.size_append]; omega

theorem frame_wrong (a b c d : Int) (s : ByteArray) (w : World) (h : idOk a b c d = false) :
    Calls Try.prog 10 #[.agg #[.int .i64 a, .int .i64 b, .int .i64 c, .int .i64 d], .string s] w fun e w' => e = .returned (.tuple #[.string ⟨#[]⟩, .int .i64 1]) ∧ Ext w w' := by
  have hR := Lib.hid (fun w => fragRight a b c d w)
  rw [h] at hR
  clear h
  go_enter Try.func10, Try.ntmps10
  go_wp2_with fail
  refine (hR.out _).mono ?_
  rintro e z ⟨rfl, hz⟩
  have E1 : Ext w z := Ext.trans (by repeat (first | (with_reducible exact Ext.refl _) | (with_reducible assumption) | (with_reducible refine Ext.drewN ?_ _) | (with_reducible refine Ext.drew ?_) | (with_reducible refine Ext.alloc ?_ _) | (refine Ext.trans ?_ (by with_reducible assumption)))) hz
  clear hz
  go_wp2
  exact bodyPost_ret (v := .tuple #[.string ⟨#[]⟩, .int .i64 1]) (by simp only [results, Try.results10]; go_simp) rfl ⟨rfl, E1⟩

def framed (a b c d : Int) (s : ByteArray) : ByteArray := sealed (headTo [a, b, c, d] 4 ++ tapeText s)

set_option maxRecDepth 30000 in
theorem frame_right (a b c d : Int) (s : ByteArray) (w : World) (h : idOk a b c d = true) (hs : s.size ≤ 1048576) :
    Calls Try.prog 10 #[.agg #[.int .i64 a, .int .i64 b, .int .i64 c, .int .i64 d], .string s] w fun e w' => e = .returned (.tuple #[.string (framed a b c d s), .int .i64 0]) ∧ Ext w w' := by
  have hok := idOk_iff.1 h
  have hall : ∀ n ∈ [a, b, c, d], 0 ≤ n ∧ n ≤ 2147483647 := by intro n hn; simp at hn; rcases hn with rfl | rfl | rfl | rfl <;> omega
  have hsz := headTo_size [a, b, c, d] hall
  have hT := Lib.hid (fun w => tapeText_any s w (by omega))
  have hTs : (tapeText s).size ≤ 8 + 1048576 := by
    unfold tapeText; rw [ByteArray.size_append, strOfNums_size]; have := numB_len8 s.size (by omega); omega
  have hS := Lib.hid (fun w => Seal_any (headTo [a, b, c, d] 4 ++ tapeText s) w (by rw [ByteArray.size_append]; have := hsz 4 (by simp); omega))
  have hR := Lib.hid (fun w => fragRight a b c d w)
  rw [h] at hR
  have hNu := Lib.hid (fun w => numbers_any a b c d w)
  have HALL := Lib.hid hall
  have HSZ := Lib.hid hsz
  have hcat : ¬ 9223372036854775807 < (headTo [a, b, c, d] 4).size + (tapeText s).size := by have := hsz 4 (by simp); omega
  clear h hok hall hsz hTs
  go_enter Try.func10, Try.ntmps10
  go_wp2_with fail
  refine (hR.out _).mono ?_
  rintro e z ⟨rfl, hz⟩
  have E1 : Ext w z := Ext.trans (by repeat (first | (with_reducible exact Ext.refl _) | (with_reducible assumption) | (with_reducible refine Ext.drewN ?_ _) | (with_reducible refine Ext.drew ?_) | (with_reducible refine Ext.alloc ?_ _) | (refine Ext.trans ?_ (by with_reducible assumption)))) hz
  have hcz0 := Ext.cellAt hz (b := w.heap.size) (by first | omega | (simp; done) | (simp; omega)); have hfz0 := Ext.frozenAt hz (b := w.heap.size) (by first | omega | (simp; done) | (simp; omega)); have hlz0 : w.heap.size < z.heap.size := (by have := Ext.size hz; first | omega | (simp at *; omega))
  clear hz
  go_wp2_with fail
  refine (hNu.out _).mono ?_
  rintro e z1 ⟨g, rfl, hz1, hg1, hg2, hc⟩
  have E2 : Ext w z1 := Ext.trans (by repeat (first | (with_reducible exact E1) | (with_reducible refine Ext.drewN ?_ _) | (with_reducible refine Ext.drew ?_) | (with_reducible refine Ext.setCell ?_ (by first | omega | (simp; done) | (simp; omega)) _) | (with_reducible refine Ext.alloc ?_ _))) hz1
  have HC := Lib.hid hc
  clear hz1 hc
  go_wp2_with fail
  go_loopw [6, 20] (fun o x wr => ∃ k : Nat, k ≤ 4 ∧ x = .int .i64 k ∧ o = .string (headTo [a, b, c, d] k) ∧ Ext z1 wr) (fun _ x _ => 4 - (intOf x).toNat)
  case atStart => exact ⟨0, by omega, rfl, rfl, Ext.refl _⟩
  case round =>
    obtain ⟨k, hk, rfl, rfl, hx⟩ := hrel
    by_cases hlt : k < 4
    · have hcell : wr.cell? ⟨g, k, none⟩ = some (.int .i64 ([a, b, c, d].getD k 0)) := by
        rw [hx.cellAt hg2, HC.out]
        have : k = 0 ∨ k = 1 ∨ k = 2 ∨ k = 3 := by omega
        rcases this with rfl | rfl | rfl | rfl <;> rfl
      have hmem : [a, b, c, d].getD k 0 ∈ [a, b, c, d] := by rw [List.getD_eq_getElem?_getD, List.getElem?_eq_getElem (by simpa using hlt)]; simp
      have hb := HALL.out _ hmem
      have hsucc : headTo [a, b, c, d] (k + 1) = headTo [a, b, c, d] k ++ numText ([a, b, c, d].getD k 0) := rfl
      have hns := numText_size hb.1 hb.2
      have hhs := HSZ.out k (by simp; omega)
      generalize [a, b, c, d].getD k 0 = x at *
      have hN := Lib.hid (fun w => tapeNum_any x w hb.1 (by omega))
      have HU := Lib.hid hsucc
      have hcat2 : ¬ 9223372036854775807 < (headTo [a, b, c, d] k).size + (strOfNums (numB x.toNat)).size := by unfold numText at hns; omega
      have HX := Lib.hid hx
      clear hmem hb hsucc hns hhs hx
      generalize headTo [a, b, c, d] k = hd at *
      go_wp2_with fail
      refine (hN.out _).mono ?_
      rintro e z2 ⟨rfl, hz2⟩
      have E3 := HX.out.trans hz2
      clear hz2
      go_wp2
      go_roundw
      case rel => exact ⟨k + 1, by omega, by go_num, by rw [HU.out]; rfl, E3⟩
      case measure => simp [intOf]; omega
    · obtain rfl : k = 4 := by omega
      have HX := Lib.hid hx
      clear hx
      have hfr : framed a b c d s = sealed (headTo [a, b, c, d] 4 ++ tapeText s) := rfl
      generalize headTo [a, b, c, d] 4 = hd at *
      have HF := Lib.hid hfr
      clear hfr
      go_wp2_with fail
      refine (hT.out _).mono ?_
      rintro e z2 ⟨rfl, hz2⟩
      have E3 := HX.out.trans hz2
      clear hz2
      go_wp2_with fail
      refine (hS.out _).mono ?_
      rintro e z3 ⟨rfl, hz3⟩
      have E4 := E2.trans (E3.trans hz3)
      clear hz3
      go_wp2
      exact bodyPost_ret (v := .tuple #[.string (sealed (hd ++ tapeText s)), .int .i64 0]) (by simp only [results, Try.results10]; go_simp) rfl ⟨by rw [HF.out], E4⟩
end Go.Proofs.Ytlihjhalbemfmaa
