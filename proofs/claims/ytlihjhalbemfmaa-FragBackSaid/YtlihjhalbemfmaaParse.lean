/- A number is parsed. -/
import Derived.Test.YtlihjhalbemfmaaNumber
namespace Go.Proofs.Ytlihjhalbemfmaa
open Go.RowKit

theorem toList_ne {t : ByteArray} (h : 0 < t.size) : ¬ t.toList = [] := by
  rw [ByteArray.toList_eq]
  intro e
  have : t.data.toList.length = 0 := by rw [e]; rfl
  have h2 : t.data.size = t.size := rfl
  rw [Array.length_toList] at this; omega
theorem isEmpty_false {t : ByteArray} (h : 0 < t.size) : t.toList.isEmpty = false := by
  have := toList_ne h
  cases hh : t.toList with
  | nil => exact absurd hh this
  | cons => rfl

set_option maxRecDepth 30000 in
theorem numeric_num (t : ByteArray) (n L : Nat) (w : World) (h : DigsAt t n L) (hn : n ≤ 2147483647) (ht : t.size ≤ 1000000) :
    Calls Try.prog 86 #[.string t] w fun e w' => e = .returned (.tuple #[.agg #[.int .i64 0, .int .i64 n, .string ⟨#[]⟩, .int .i64 0, .int .i64 0], .int .i64 L, .int .i64 0]) ∧ Ext w w' := by
  have hok : Val.ok ⟨0, n, ⟨#[]⟩, 0, 0⟩ = true := by simp [Val.ok, ByteArray.toList_eq]; omega
  have hV := Lib.hid (fun w => valueRight_any ⟨0, n, ⟨#[]⟩, 0, 0⟩ w)
  rw [hok] at hV
  have hN := Lib.hid (fun w => number_any t n L w h hn ht)
  have H := Lib.hid h
  have hl := h.le
  clear hok h
  by_cases hlt : L < t.size
  · have hbh := H.out.behind hlt
    obtain ⟨e, he⟩ : ∃ e : Int, e = (t[L].toNat : Int) := ⟨_, rfl⟩
    have hbi : ∀ h, ((t[L]'h).toNat : Int) = e := fun _ => he.symm
    rw [← he] at hbh
    clear he
    have hne : ¬ (e = 58) := by omega
    go_enter Try.func86, Try.ntmps86
    go_wp2_with fail
    refine (hN.out _).mono ?_
    rintro e z ⟨rfl, rfl⟩
    go_wp2_with fail
    refine (hV.out _).mono ?_
    rintro e z ⟨rfl, hz⟩
    have E1 : Ext w z := Ext.trans (by repeat (first | (with_reducible exact Ext.refl _) | (with_reducible assumption) | (with_reducible refine Ext.drewN ?_ _) | (with_reducible refine Ext.drew ?_) | (with_reducible refine Ext.alloc ?_ _) | (refine Ext.trans ?_ (by with_reducible assumption)))) hz
    have hcz0 := Ext.cellAt hz (b := w.heap.size) (by first | omega | (simp; done) | (simp; omega)); have hfz0 := Ext.frozenAt hz (b := w.heap.size) (by first | omega | (simp; done) | (simp; omega)); have hlz0 : w.heap.size < z.heap.size := (by have := Ext.size hz; first | omega | (simp at *; omega)); have hcz1 := Ext.cellAt hz (b := w.heap.size + 1) (by first | omega | (simp; done) | (simp; omega)); have hfz1 := Ext.frozenAt hz (b := w.heap.size + 1) (by first | omega | (simp; done) | (simp; omega)); have hlz1 : w.heap.size + 1 < z.heap.size := (by have := Ext.size hz; first | omega | (simp at *; omega))
    clear hz
    go_wp2
    exact bodyPost_ret (v := .tuple #[.agg #[.int .i64 0, .int .i64 n, .string ⟨#[]⟩, .int .i64 0, .int .i64 0], .int .i64 L, .int .i64 0]) (by simp only [results, Try.results86]; go_simp) rfl ⟨rfl, by repeat (first | (with_reducible exact E1) | (with_reducible refine Ext.drewN ?_ _) | (with_reducible refine Ext.drew ?_) | (with_reducible refine Ext.setCell ?_ (by first | omega | (simp; done) | (simp; omega)) _) | (with_reducible refine Ext.alloc ?_ _))⟩
  · have hnl : ¬ ((L : Int) < t.size) := by omega
    go_enter Try.func86, Try.ntmps86
    go_wp2_with fail
    refine (hN.out _).mono ?_
    rintro e z ⟨rfl, rfl⟩
    go_wp2_with fail
    refine (hV.out _).mono ?_
    rintro e z ⟨rfl, hz⟩
    have E1 : Ext w z := Ext.trans (by repeat (first | (with_reducible exact Ext.refl _) | (with_reducible assumption) | (with_reducible refine Ext.drewN ?_ _) | (with_reducible refine Ext.drew ?_) | (with_reducible refine Ext.alloc ?_ _) | (refine Ext.trans ?_ (by with_reducible assumption)))) hz
    have hcz0 := Ext.cellAt hz (b := w.heap.size) (by first | omega | (simp; done) | (simp; omega)); have hfz0 := Ext.frozenAt hz (b := w.heap.size) (by first | omega | (simp; done) | (simp; omega)); have hlz0 : w.heap.size < z.heap.size := (by have := Ext.size hz; first | omega | (simp at *; omega)); have hcz1 := Ext.cellAt hz (b := w.heap.size + 1) (by first | omega | (simp; done) | (simp; omega)); have hfz1 := Ext.frozenAt hz (b := w.heap.size + 1) (by first | omega | (simp; done) | (simp; omega)); have hlz1 : w.heap.size + 1 < z.heap.size := (by have := Ext.size hz; first | omega | (simp at *; omega))
    clear hz
    go_wp2
    exact bodyPost_ret (v := .tuple #[.agg #[.int .i64 0, .int .i64 n, .string ⟨#[]⟩, .int .i64 0, .int .i64 0], .int .i64 L, .int .i64 0]) (by simp only [results, Try.results86]; go_simp) rfl ⟨rfl, by repeat (first | (with_reducible exact E1) | (with_reducible refine Ext.drewN ?_ _) | (with_reducible refine Ext.drew ?_) | (with_reducible refine Ext.setCell ?_ (by first | omega | (simp; done) | (simp; omega)) _) | (with_reducible refine Ext.alloc ?_ _))⟩

set_option maxRecDepth 30000 in
theorem parse_num (t : ByteArray) (n L : Nat) (w : World) (h : DigsAt t n L) (hn : n ≤ 2147483647) (ht : t.size ≤ 1000000) :
    Calls Try.prog 71 #[.string t] w fun e w' => e = .returned (.tuple #[.agg #[.int .i64 0, .int .i64 n, .string ⟨#[]⟩, .int .i64 0, .int .i64 0], .int .i64 L, .int .i64 0]) ∧ Ext w w' := by
  have hN := Lib.hid (fun w => numeric_num t n L w h hn ht)
  have hp := h.pos
  have hl := h.le
  have h0 : 0 < t.size := by omega
  have hb0 := h.byte 0 (by omega) h0
  obtain ⟨c0, hc0⟩ : ∃ c, c = n / 10 ^ (L - 1 - 0) % 10 := ⟨_, rfl⟩
  have hb0' : ∀ h, ((t[0]'h).toNat : Int) = 48 + (c0 : Int) := fun h => by rw [hc0]; exact hb0
  have hc9 : c0 < 10 := by omega
  have hg1 : ¬ (48 + (c0 : Int) = 45) := by omega
  have hg3 : ¬ (48 + (c0 : Int) = 34) := by omega
  have hne1 : t.toList.isEmpty = false := isEmpty_false h0
  have hne : ¬ t.toList = [] := toList_ne h0
  have hg2 : ¬ t.size = 0 := by omega
  have hg4 : (48 : Int) ≤ 48 + c0 := by omega
  have hg5 : (48 : Int) + c0 ≤ 57 := by omega
  clear h hb0 hc0
  go_enter Try.func71, Try.ntmps71
  go_wp2_with fail
  refine (digit_any _ _).mono ?_
  rintro e z ⟨rfl, rfl⟩
  go_wp2_with fail
  refine (hN.out _).mono ?_
  rintro e z ⟨rfl, hz⟩
  have E1 : Ext w z := Ext.trans (by repeat (first | (with_reducible exact Ext.refl _) | (with_reducible assumption) | (with_reducible refine Ext.drewN ?_ _) | (with_reducible refine Ext.drew ?_) | (with_reducible refine Ext.alloc ?_ _) | (refine Ext.trans ?_ (by with_reducible assumption)))) hz
  have hcz0 := Ext.cellAt hz (b := w.heap.size) (by first | omega | (simp; done) | (simp; omega)); have hfz0 := Ext.frozenAt hz (b := w.heap.size) (by first | omega | (simp; done) | (simp; omega)); have hlz0 : w.heap.size < z.heap.size := (by have := Ext.size hz; first | omega | (simp at *; omega))
  clear hz
  go_wp2
  exact bodyPost_ret (v := .tuple #[.agg #[.int .i64 0, .int .i64 n, .string ⟨#[]⟩, .int .i64 0, .int .i64 0], .int .i64 L, .int .i64 0]) (by simp only [results, Try.results71]; go_simp) rfl ⟨rfl, by repeat (first | (with_reducible exact E1) | (with_reducible refine Ext.drewN ?_ _) | (with_reducible refine Ext.drew ?_) | (with_reducible refine Ext.setCell ?_ (by first | omega | (simp; done) | (simp; omega)) _) | (with_reducible refine Ext.alloc ?_ _))⟩

set_option maxRecDepth 30000 in
theorem numbered_num (s t : ByteArray) (c : Int) (n L : Nat) (w : World) (hs0 : 0 < s.size) (hs : ∀ h, ((s[0]'h).toNat : Int) = c) (ht : s.extract 1 s.size = t) (h : DigsAt t n L) (hn : n ≤ 2147483647) (hz : s.size ≤ 1000000) :
    Calls Try.prog 46 #[.string s, .int .u8 c] w fun e w' => e = .returned (.tuple #[.int .i64 n, .string (s.extract (1 + L) s.size), .bool true]) ∧ Ext w w' := by
  have htz : t.size = s.size - 1 := by rw [← ht]; simp
  have hN := Lib.hid (fun w => parse_num t n L w h hn (by omega))
  have hl := h.le
  have hne1 : s.toList.isEmpty = false := isEmpty_false hs0
  have hne : ¬ s.toList = [] := toList_ne hs0
  have hg2 : ¬ s.size = 0 := by omega
  have hL : 1 + L ≤ s.size := by omega
  have hS := Lib.hid hs0
  have HT := Lib.hid ht
  clear h ht htz
  go_enter Try.func46, Try.ntmps46
  go_wp2_with fail
  rw [HT.out]
  refine (hN.out _).mono ?_
  rintro e z ⟨rfl, hz⟩
  have E1 : Ext w z := Ext.trans (by repeat (first | (with_reducible exact Ext.refl _) | (with_reducible assumption) | (with_reducible refine Ext.drewN ?_ _) | (with_reducible refine Ext.drew ?_) | (with_reducible refine Ext.alloc ?_ _) | (refine Ext.trans ?_ (by with_reducible assumption)))) hz
  clear hz
  have hw : wrap64 (1 + (L : Int)) = 1 + (L : Int) := by unfold wrap64; omega
  have hk1 : 0 ≤ 1 + (L : Int) := by omega
  have hk2 : 1 + (L : Int) ≤ s.size := by omega
  have hk3 : (1 + (L : Int)).toNat = 1 + L := by omega
  go_wp2_with fail
  refine wp_region_Rt Ext Ext.refl (by kernel_rfl) ?_
  repeat (refine Rt.takeU Ext.refl (fun _ _ _ => Ext.trans) rfl rfl (by kernel_rfl) (fun K hK => ?_); apply Exists.intro; refine ⟨fun x hx => ?_, ?_⟩; (next => have HX := Lib.hid hx; have hc := (Ext.cells hx).1; clear hx; go_simp; first | done | ((try go_ints); first | done | rfl | (fail))); go_simp; refine hK _ ?_; clear hK K)
  refine Rt.done (by kernel_rfl) (fun z2 hz2 => ?_)
  have E2 : Ext w z2 := Ext.trans (by repeat (first | (with_reducible exact E1) | (with_reducible refine Ext.drewN ?_ _) | (with_reducible refine Ext.drew ?_) | (with_reducible refine Ext.setCell ?_ (by first | omega | (simp; done) | (simp; omega)) _) | (with_reducible refine Ext.alloc ?_ _))) hz2
  clear hz2
  go_wp2
  exact bodyPost_ret (v := .tuple #[.int .i64 n, .string (s.extract (1 + L) s.size), .bool true]) (by simp only [results, Try.results46]; go_simp) rfl ⟨rfl, E2⟩
end Go.Proofs.Ytlihjhalbemfmaa
