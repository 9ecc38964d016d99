/- A tape: what is left, one number, one text. -/
import Derived.Test.YtlihjhalbemfmaaTapeNum
namespace Go.Proofs.Ytlihjhalbemfmaa
open Go.RowKit

theorem strOfNums_size (l : List Int) : (strOfNums l).size = l.length := by simp [strOfNums, ByteArray.size]
theorem numB_len8 (n : Nat) (h : n ≤ 9007199254740991) : (numB n).length ≤ 8 := numB_length 7 _ (by omega)

/-- A text with its length ahead. -/
def tapeText (s : ByteArray) : ByteArray := strOfNums (numB s.size) ++ s

theorem tapeText_any (s : ByteArray) (w : World) (h : s.size ≤ 1000000000) :
    Calls Try.prog 37 #[.string s] w fun e w' => e = .returned (.string (tapeText s)) ∧ Ext w w' := by
  have hN := Lib.hid (fun w => tapeNum_any (s.size : Int) w (by omega) (by omega))
  have hz : ¬ 9223372036854775807 < (strOfNums (numB s.size)).size + s.size := by
    have := numB_len8 s.size (by omega)
    rw [strOfNums_size]; omega
  go_enter Try.func37, Try.ntmps37
  go_wp2_with fail
  refine (hN.out _).mono ?_
  rintro e z1 ⟨rfl, hz1⟩
  go_wp2
  go_ret
  exact ⟨rfl, hz1⟩

structure TapeAt (w : World) (b : Nat) (t : ByteArray) (a : Int) : Prop where
  c0 : w.cell? ⟨b, 0, none⟩ = some (.string t)
  c1 : w.cell? ⟨b, 1, none⟩ = some (.int .i64 a)
  f0 : w.frozen? ⟨b, 0, none⟩ = false
  f1 : w.frozen? ⟨b, 1, none⟩ = false
  lt : b < w.heap.size

theorem left_any (b : Nat) (t : ByteArray) (a : Int) (w : World) (h : TapeAt w b t a) (h0 : 0 ≤ a) (h1 : a ≤ t.size) (h2 : t.size ≤ 2000000000) :
    Calls Try.prog 70 #[.pointer (some ⟨b, 0, none⟩)] w fun e w' => e = .returned (.int .i64 (t.size - a)) ∧ Ext w w' := by
  obtain ⟨c0, c1, f0, f1, lt⟩ := h
  go_enter Try.func70, Try.ntmps70
  go_wp2
  refine wp_region_Rt Ext Ext.refl (by kernel_rfl) ?_
  repeat (refine Rt.takeU Ext.refl (fun _ _ _ => Ext.trans) rfl rfl (by kernel_rfl) (fun K hK => ?_); apply Exists.intro; refine ⟨fun x hx => ?_, ?_⟩; (next => have HX := Lib.hid hx; have hc0 := Ext.cellAt hx (b := b) (by first | omega | (simp; done) | (simp; omega)); clear hx; go_simp; first | done | ((try go_ints); first | done | rfl | (fail))); go_simp; refine hK _ ?_; clear hK K)
  refine Rt.done (by kernel_rfl) (fun z hz => ?_)
  have E1 : Ext w z := Ext.trans (by repeat (first | (with_reducible exact Ext.refl _) | (with_reducible assumption) | (with_reducible refine Ext.drewN ?_ _) | (with_reducible refine Ext.drew ?_) | (with_reducible refine Ext.alloc ?_ _) | (refine Ext.trans ?_ (by with_reducible assumption)))) hz
  go_wp2
  go_ret
  exact ⟨rfl, E1⟩

theorem end_any (b : Nat) (t : ByteArray) (a : Int) (w : World) (h : TapeAt w b t a) (h0 : 0 ≤ a) (h1 : a ≤ t.size) (h2 : t.size ≤ 2000000000) :
    Calls Try.prog 45 #[.pointer (some ⟨b, 0, none⟩)] w fun e w' => e = .returned (.bool ((t.size : Int) - a == 0)) ∧ Ext w w' := by
  have hN := Lib.hid (fun w h => left_any b t a w h h0 h1 h2)
  have HH := Lib.hid h
  clear h
  go_enter Try.func45, Try.ntmps45
  go_wp2_with fail
  refine (hN.out _ HH.out).mono ?_
  rintro e z1 ⟨rfl, hz1⟩
  go_wp2
  go_ret
  exact ⟨rfl, hz1⟩

end Go.Proofs.Ytlihjhalbemfmaa
