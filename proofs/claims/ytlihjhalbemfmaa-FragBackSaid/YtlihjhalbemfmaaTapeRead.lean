/- A number, and a text, are taken off a tape. -/
import Derived.Test.YtlihjhalbemfmaaPeek
namespace Go.Proofs.Ytlihjhalbemfmaa
open Go.RowKit

theorem grown_of_ext {w w' : World} (h : Ext w w') (row : Option Nat) : w.grownBy w' row :=
  ⟨Below.os h, Below.tape h, Below.output h, h.size, fun k hk _ => Below.block h k hk⟩
theorem grown_trans {a b c : World} {row : Option Nat} (h : a.grownBy b row) (k : b.grownBy c row) : a.grownBy c row :=
  ⟨k.os.trans h.os, k.tape.trans h.tape, k.output.trans h.output, Nat.le_trans h.size k.size, fun i hi hr => (k.block i (Nat.lt_of_lt_of_le hi h.size) hr).trans (h.block i hi hr)⟩
theorem grown_setCell (w : World) (b o : Nat) (v : Value) : w.grownBy (w.setCell ⟨b, o, none⟩ v) (some b) :=
  ⟨rfl, rfl, rfl, by simp [World.setCell], fun i _ hr => Below.heap_setCell _ _ _ _ (fun e => hr (by rw [e]))⟩

theorem new_any (t : ByteArray) (w : World) : Calls Try.prog 42 #[.string t] w fun e w' => e = .returned (.pointer (some ⟨w.heap.size, 0, none⟩)) ∧ Ext w w' ∧ TapeAt w' w.heap.size t 0 := by
  go_enter Try.func42, Try.ntmps42
  go_wp2
  go_ret
  exact ⟨rfl, by repeat (first | (with_reducible exact Ext.refl _) | (with_reducible assumption) | (with_reducible refine Ext.drewN ?_ _) | (with_reducible refine Ext.drew ?_) | (with_reducible refine Ext.alloc ?_ _) | (refine Ext.trans ?_ (by with_reducible assumption))), by simp, by simp, by simp, by simp, by simp⟩

theorem num_any (b : Nat) (t : ByteArray) (a : Nat) (n : Nat) (w : World) (h : TapeAt w b t a) (hn : n ≤ 9007199254740991) (ht : numAt t a n) (h2 : t.size ≤ 2000000000) :
    Calls Try.prog 68 #[.pointer (some ⟨b, 0, none⟩)] w fun e w' => e = .returned (.tuple #[.int .i64 n, .int .i64 0]) ∧ w.grownBy w' (some b) ∧ TapeAt w' b t ((a + (numB n).length : Nat) : Int) := by
  have hP := Lib.hid (peek_any b t a n w h hn ht h2)
  have h8 := numB_len8 n hn
  have h9 := ht.1
  have HH := Lib.hid h
  clear h ht
  generalize (numB n).length = l at *
  have hwr : wrap64 ((a : Int) + l) = ((a + l : Nat) : Int) := by unfold wrap64; omega
  go_enter Try.func68, Try.ntmps68
  go_wp2_with fail
  refine hP.out.mono ?_
  rintro e z ⟨rfl, hz⟩
  have HT := Lib.hid (HH.out.ext hz)
  obtain ⟨c0, c1, f0, f1, lt⟩ := HH.out.ext hz
  have HZ := Lib.hid hz
  clear hz
  go_wp2
  refine bodyPost_ret (v := .tuple #[.int .i64 n, .int .i64 0]) (by simp only [results, Try.results68]; go_simp) rfl ⟨rfl, ?_, ?_⟩
  · exact grown_trans (grown_of_ext HZ.out _) (grown_setCell _ _ _ _)
  · exact ⟨by go_simp, by go_simp, by go_simp, by go_simp, by simpa using lt⟩
set_option maxRecDepth 30000 in
theorem text_any (b : Nat) (t s : ByteArray) (a : Nat) (w : World) (h : TapeAt w b t a) (ht : numAt t a s.size) (h2 : t.size ≤ 2000000000) (hs : s.size ≤ 1048576)
    (h3 : a + (numB s.size).length + s.size ≤ t.size) (h4 : t.extract (a + (numB s.size).length) (a + (numB s.size).length + s.size) = s) :
    Calls Try.prog 44 #[.pointer (some ⟨b, 0, none⟩), .int .i64 1048576] w fun e w' => e = .returned (.tuple #[.string s, .int .i64 0]) ∧ w.grownBy w' (some b) ∧ TapeAt w' b t ((a + (numB s.size).length + s.size : Nat) : Int) := by
  have hP := Lib.hid (peek_any b t a s.size w h (by omega) ht h2)
  have hL := Lib.hid (fun w h => left_any b t a w h (by omega) (by omega) h2)
  have HH := Lib.hid h
  clear h ht
  generalize hl : (numB s.size).length = l at *
  have hls : l ≤ 8 := by rw [← hl]; exact numB_len8 _ (by omega)
  clear hl
  have hw1 : wrap64 ((a : Int) + l) = (a : Int) + l := by unfold wrap64; omega
  have hw2 : wrap64 ((a : Int) + l + s.size) = (a : Int) + l + s.size := by unfold wrap64; omega
  have hw3 : wrap64 ((t.size : Int) - a - l) = (t.size : Int) - a - l := by unfold wrap64; omega
  have hg : ¬ ((t.size : Int) - a - l < s.size) := by omega
  have hi1 : (a : Int) + l ≤ (a : Int) + l + s.size := by omega
  have hi2 : (a : Int) + l + s.size ≤ t.size := by omega
  have hi3 : 0 ≤ (a : Int) + l := by omega
  have hi4 : 0 ≤ (a : Int) + l + s.size := by omega
  have hn1 : ((a : Int) + l).toNat = a + l := by omega
  have hn2 : ((a : Int) + l + s.size).toNat = a + l + s.size := by omega
  go_enter Try.func44, Try.ntmps44
  go_wp2_with fail
  refine hP.out.mono ?_
  rintro e z ⟨rfl, hz⟩
  have HT := Lib.hid (HH.out.ext hz)
  have HZ := Lib.hid hz
  clear hz
  go_wp2_with fail
  refine (hL.out _ HT.out).mono ?_
  rintro e z1 ⟨rfl, hz1⟩
  obtain ⟨c0, c1, f0, f1, lt⟩ := HT.out.ext hz1
  have HZ1 := Lib.hid (HZ.out.trans hz1)
  clear hz1
  go_wp2
  refine wp_region_Rt Ext Ext.refl (by kernel_rfl) ?_
  repeat (refine Rt.takeU Ext.refl (fun _ _ _ => Ext.trans) rfl rfl (by kernel_rfl) (fun K hK => ?_); apply Exists.intro; refine ⟨fun x hx => ?_, ?_⟩; (next => have HX := Lib.hid hx; have hc0 := Ext.cellAt hx (b := b) (by first | omega | (simp; done) | (simp; omega)); clear hx; go_simp; first | done | ((try go_ints); first | done | rfl | (fail))); go_simp; refine hK _ ?_; clear hK K)
  refine Rt.done (by kernel_rfl) (fun z2 hz2 => ?_)
  have hx := ((Ext.refl _).drew).trans hz2
  have HT1 : TapeAt (z1.setCell ⟨b, 1, none⟩ (.int .i64 ((a : Int) + l + s.size))) b t ((a + l + s.size : Nat) : Int) :=
    ⟨by go_simp, by go_simp, by go_simp, by go_simp, by simpa using lt⟩
  have HT2 := Lib.hid (HT1.ext hx)
  have HG := Lib.hid (grown_trans (grown_of_ext HZ1.out (some b)) (grown_trans (grown_setCell z1 b 1 (.int .i64 ((a : Int) + l + s.size))) (grown_of_ext hx _)))
  clear hx HT1 hz2
  go_wp2
  exact bodyPost_ret (v := .tuple #[.string s, .int .i64 0]) (by simp only [results, Try.results44]; go_simp) rfl ⟨rfl, HG.out, HT2.out⟩
end Go.Proofs.Ytlihjhalbemfmaa
