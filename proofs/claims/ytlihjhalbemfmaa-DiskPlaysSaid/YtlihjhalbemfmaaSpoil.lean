/- One byte of a disk is spoilt. -/
import Derived.Test.YtlihjhalbemfmaaFew
import Derived.Laws.BytesArg
import Derived.Laws.IdiomStrings
namespace Go.Proofs.Ytlihjhalbemfmaa
open Go.RowKit

theorem conv_bytes (w : World) (s : ByteArray) : ∃ cap z, (convert 9 99 (.string s)).run Try.prog w = .ok (.slice (some ⟨w.heap.size, 0, none⟩) s.size cap) z ∧ z.heap.size = w.heap.size + 1 ∧ Ext w z ∧
    (∀ j (h : j < s.data.size), z.cell? ⟨w.heap.size, j, none⟩ = some (.int .u8 ((s.data[j]'h).toNat : Int))) ∧ ∀ j, j < s.data.size → z.frozen? ⟨w.heap.size, j, none⟩ = false := by
  have h := run_bytes_of_string (P := Try.prog) w 9 99 5 s Try.underlying9 Try.underlying99 Try.underlying5
  refine ⟨_, _, h, by simp, Ext.alloc (Ext.drew (Ext.refl w)) _, fun j hj => ?_, fun j hj => ?_⟩
  · have := World.cell?_alloc_mark w.drew (bytesRow s (grownCap w s.size 0 5)) 5 ((bytesRow s (grownCap w s.size 0 5)).size, (bytesRow s (grownCap w s.size 0 5)).size + 1) j
    rw [show w.drew.heap.size = w.heap.size from rfl] at this
    rw [this, bytesRow_at s _ j hj]
  · have := World.frozen?_alloc_mark w.drew (bytesRow s (grownCap w s.size 0 5)) 5 (bytesRow s (grownCap w s.size 0 5)).size ((bytesRow s (grownCap w s.size 0 5)).size + 1) j
    rw [show w.drew.heap.size = w.heap.size from rfl] at this
    rw [this]
    have : j < (bytesRow s (grownCap w s.size 0 5)).size := by
      unfold bytesRow
      rw [Array.size_append, Array.size_map]; omega
    have h2 : decide ((bytesRow s (grownCap w s.size 0 5)).size ≤ j) = false := by simpa using this
    rw [h2]; rfl

/-- Where a byte is spoilt. -/
def spoilAt (s : ByteArray) (spot : Int) : Nat := (spot % (s.size : Int)).toNat
theorem tmod_bounds (a : Int) {n : Int} (hn : 0 < n) : -n < Int.tmod a n ∧ Int.tmod a n < n := by
  have h1 := Int.tmod_lt_of_pos a hn
  have h2 := Int.lt_tmod_of_pos a hn
  omega
theorem tmod_emod (a n : Int) : Int.tmod a n % n = a % n := by
  rw [Int.tmod_def, Int.sub_mul_emod_self_left]
theorem tmod_pos {a n : Int} (hn : 0 < n) : (Int.tmod a n + n).tmod n = a % n := by
  have h := tmod_bounds a hn
  rw [Int.tmod_eq_emod_of_nonneg (by omega), Int.add_emod_right, tmod_emod]
theorem tmod_ref {a n : Int} (hn : 0 < n) : (if Int.tmod a n < 0 then Int.tmod a n + n else Int.tmod a n) = a % n := by
  have h := tmod_bounds a hn
  have h2 := tmod_emod a n
  split
  · rw [← h2, ← Int.add_emod_right, Int.emod_eq_of_lt (by omega) (by omega)]
  · rw [← h2, Int.emod_eq_of_lt (by omega) (by omega)]
theorem spoilAt_lt {s : ByteArray} (hs : 0 < s.size) (spot : Int) : spoilAt s spot < s.size := by
  unfold spoilAt
  have h1 := Int.emod_nonneg spot (show (s.size : Int) ≠ 0 by omega)
  have h2 := Int.emod_lt_of_pos spot (show (0 : Int) < s.size by omega)
  omega
theorem spoilAt_eq {s : ByteArray} (hs : 0 < s.size) (spot : Int) : ((spoilAt s spot : Nat) : Int) = spot % (s.size : Int) := by
  unfold spoilAt
  have h1 := Int.emod_nonneg spot (show (s.size : Int) ≠ 0 by omega)
  omega
theorem spoil_idx {s : ByteArray} (hs : 0 < s.size) (h2 : s.size ≤ 1000000000) (spot : Int) : (wrap64 (spot.tmod s.size + s.size)).tmod s.size = ((spoilAt s spot : Nat) : Int) := by
  have hb := tmod_bounds spot (show (0 : Int) < s.size by omega)
  rw [show wrap64 (spot.tmod s.size + s.size) = spot.tmod s.size + s.size by unfold wrap64; omega, tmod_pos (by omega), spoilAt_eq hs]

/-- A text with one byte spoilt. -/
def spoilt (s : ByteArray) (i : Nat) (y : Int) : ByteArray := strOfNums ((s.data.toList.map fun b => (b.toNat : Int)).set i y)
def byteAt (s : ByteArray) (i : Nat) : Int := (s.data.toList.map fun b => (b.toNat : Int)).getD i 0
/-- What a text is when it is spoilt. -/
def spoil (s : ByteArray) (spot byI : Int) : ByteArray := spoilt s (spoilAt s spot) (bits .xor .u8 (byteAt s (spoilAt s spot)) byI)
theorem spoilt_size (s : ByteArray) (i : Nat) (y : Int) : (spoilt s i y).size = s.size := by
  have h : ∀ l : List Int, (strOfNums l).size = l.length := fun l => by simp [strOfNums, ByteArray.size]
  rw [spoilt, h, List.length_set, List.length_map, Array.length_toList]; rfl
theorem nums_length (s : ByteArray) (i : Nat) (y : Int) : ((s.data.toList.map fun b => (b.toNat : Int)).set i y).length = s.size := by
  rw [List.length_set, List.length_map, Array.length_toList]; rfl
theorem conv_spoilt {w z : World} {s : ByteArray} {g cap i : Nat} {y : Int} (hzc : ∀ j (h : j < s.data.size), z.cell? ⟨g, j, none⟩ = some (.int .u8 ((s.data[j]'h).toNat : Int))) (hi : i < s.size) (hg : g < z.heap.size) (hx : Ext (z.setCell ⟨g, i, none⟩ (.int .u8 y)) w) :
    (convert 99 9 (.slice (some ⟨g, 0, none⟩) s.size cap)).run Try.prog w = .ok (.string (spoilt s i y)) w := by
  refine run_convert_bytes_arg (P := Try.prog) w 99 5 Try.underlying99 Try.underlying5 g 0 s.size cap ((s.data.toList.map fun b => (b.toNat : Int)).set i y) (nums_length s i y) (fun j hj => ?_) 9 Try.underlying9
  rw [Nat.zero_add, hx.cellAt (by rw [size_setCell]; exact hg)]
  have hjd : j < s.data.size := hj
  by_cases e : j = i
  · subst e
    rw [World.cell?_setCell_same _ _ _ (hzc j hjd)]
    have : j < (s.data.toList.map fun b => (b.toNat : Int)).length := by simpa using hjd
    rw [List.getD_eq_getElem?_getD, List.getElem?_set_self this]; rfl
  · rw [World.cell?_setCell_other _ _ _ _ (by intro q; cases q; exact e rfl), hzc j hjd, List.getD_eq_getElem?_getD, List.getElem?_set_ne (Ne.symm e), List.getElem?_map, Array.getElem?_toList, Array.getElem?_eq_getElem hjd]
    rfl

set_option maxRecDepth 30000 in
theorem spoil_yes (d b : Nat) (size : Int) (l : Held) (k s : ByteArray) (spot byI : Int) (w : World) (h : DiskAt w d b size l) (hg : getL l k = some s) (hs : 0 < s.size) (hs2 : s.size ≤ 1000000000) (hb : ¬ byI = 0) :
    Calls Try.prog 50 #[.pointer (some ⟨d, 0, none⟩), .string k, .int .i64 spot, .int .u8 byI] w fun e w' => e = .returned (.bool true) ∧ DiskAt w' d b size (putL l k (spoil s spot byI)) ∧ But (· = b) w w' := by
  have hnd : (l.map (·.1)).Nodup := by have := h.map.nodup; rw [vals_keys] at this; exact this
  have HU : Hid (used (putL l k (spoil s spot byI)) = used l) := by
    have := used_put_old (s := spoil s spot byI) hnd hg
    unfold spoil at this ⊢
    rw [spoilt_size] at this
    unfold Hid; omega
  have hR := Lib.hid (read_any d b size l k w h)
  unfold readOf at hR
  rw [hg] at hR
  obtain ⟨cap, z, hrun, hzs, hz, hzc, hzf⟩ := conv_bytes w s
  have HZC := Lib.hid hzc
  have HZF := Lib.hid hzf
  have HZ := Lib.hid hz
  have H := Lib.hid h
  have hne := str_ne hs
  obtain ⟨hne0, hne1⟩ := hne
  have hidx := spoil_idx hs hs2 spot
  have hil := spoilAt_lt hs spot
  obtain ⟨i, hsi⟩ : ∃ i, i = spoilAt s spot := ⟨_, rfl⟩
  rw [← hsi] at hidx hil
  have hcell := hzc i hil
  have hfr := hzf i hil
  have hbx : byteAt s i = ((s.data[i]'hil).toNat : Int) := by
    unfold byteAt
    have : i < (s.data.toList.map fun b => (b.toNat : Int)).length := by simpa using hil
    rw [List.getD_eq_getElem?_getD, List.getElem?_map, Array.getElem?_toList, Array.getElem?_eq_getElem hil]; rfl
  rw [← hbx] at hcell
  have HSP : Hid (spoil s spot byI = spoilt s i (bits .xor .u8 (byteAt s i) byI)) := by rw [hsi]; rfl
  generalize byteAt s i = x0 at *
  clear hzc hzf hz h hg hbx hnd hsi
  go_enter Try.func50, Try.ntmps50
  go_wp2_with fail
  refine hR.out.mono ?_
  rintro e z' ⟨rfl, rfl⟩
  go_wp2_with fail
  have hgz : w.heap.size < z.heap.size := by omega
  have hback := fun x hx => conv_spoilt (w := x) (cap := cap) (y := bits .xor .u8 x0 byI) HZC.out hil hgz hx
  have HBK := Lib.hid hback
  have HZ2 := Lib.hid (Ext.setCell HZ.out (p := ⟨w.heap.size, i, none⟩) (Nat.le_refl _) (.int .u8 (bits .xor .u8 x0 byI)))
  have HD := Lib.hid (H.out.ext HZ2.out)
  have hc1 := HD.out.c1
  have hlt := HD.out.lt
  have hlt2 : d < z.heap.size := by rw [size_setCell] at hlt; exact hlt
  clear hback hcell hfr
  refine wp_region_Rt Ext Ext.refl (by kernel_rfl) ?_
  repeat (refine Rt.takeU Ext.refl (fun _ _ _ => Ext.trans) rfl rfl (by kernel_rfl) (fun K hK => ?_); apply Exists.intro; refine ⟨fun x hx => ?_, ?_⟩; (next => have HX := Lib.hid hx; have hc0 := Ext.cellAt hx (b := d) (by first | omega | (simp; done) | (simp; omega)); clear hx; go_simp; first | done | ((try go_ints); first | done | rfl | ((rw [HBK.out _ (Ext.trans (Ext.drew (Ext.refl _)) HX.out)]; exact ⟨rfl, rfl⟩)))); go_simp; refine hK _ ?_; clear hK K)
  refine Rt.tail0 rfl (by kernel_rfl) (fun y hy K hK => ?_)
  have HY := Lib.hid (Ext.trans (Ext.drew HZ2.out) hy)
  have HD2 := Lib.hid (HD.out.ext (Ext.trans (Ext.drew (Ext.refl _)) hy))
  clear hy
  go_wp2_with (first | (at_mapUpdate; refine wpList_update_at (K := strKey) rfl _ _ _ 87 9 9 rfl Try.underlying87 Try.underlying9 rfl k rfl (.string (spoilt s i (bits .xor .u8 x0 byI))) rfl HD2.out.map ?_; intro w3 hm3 hb3 hs3) | fail)
  refine hK _ _ ?_
  clear hK K
  rw [put_vals, ← HSP.out] at hm3
  have HD3 := Lib.hid (HD2.out.turned hb3 hm3 (by rw [HU.out]; exact HD2.out.fits))
  have HB3 := Lib.hid ((But.of_ext HY.out).trans hb3)
  clear hm3 hb3
  go_wp2
  go_ret
  exact ⟨rfl, HD3.out, HB3.out⟩
end Go.Proofs.Ytlihjhalbemfmaa
