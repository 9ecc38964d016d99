/- Contracts of the sum of bytes, of sealing and of opening. -/
import Derived.Test.YtlihjhalbemfmaaCrc
import Derived.OpenShut
import Derived.Laws.BytesArg
namespace Go.Proofs.Ytlihjhalbemfmaa
open Go.RowKit Go.ChangeShapes

def crcUp (y b : Int) : Int := bits .xor .u32 (crcTab (bits .xor .u8 (y % 256) b)) (y / 256)
theorem crcUp_eq (y b : Int) : crcUp y b = bits .xor .u32 (crcTab (bits .xor .u8 (y % 256) b)) (y / 256) := rfl
/-- The sum, so far. -/
def crcFrom (s : ByteArray) : Nat → Int
  | 0 => bits .xor .u32 IntKind.u32.max 0
  | n + 1 => crcUp (crcFrom s n) (s.data.toList.getD n 0).toNat
theorem crcFrom_succ (s : ByteArray) (n : Nat) (h : n < s.size) : crcFrom s (n + 1) = crcUp (crcFrom s n) (s[n].toNat : Int) := by
  have e : s.data.toList.getD n 0 = s[n] := by
    rw [List.getD_eq_getElem?_getD, List.getElem?_eq_getElem (by simpa using h)]
    rfl
  rw [crcFrom, e]
/-- The sum of a text. -/
def crcSum (s : ByteArray) : Int := bits .xor .u32 IntKind.u32.max (crcFrom s s.size)
theorem crcSum_bounds (s : ByteArray) : 0 ≤ crcSum s ∧ crcSum s ≤ 4294967295 := bounds_u32 (wf_bits _ _ _ _)

theorem More_any (s : ByteArray) (w : World) (hl : s.size ≤ 9223372036854775807) : Calls Try.prog 79 #[.int .u32 0, .string s] w fun e w' => e = .returned (.int .u32 (crcSum s)) ∧ Ext w w' := by
  have hT := fun w => Table_any w
  have hst := fun w => run_storeCells_new (P := Try.prog) w 143 Try.zeroCells143 crcCells (by kernel_rfl) (by kernel_rfl) (by kernel_rfl)
  have hall : crcCells.all (·.oneCell') = true := by kernel_rfl
  have hsz : crcCells.size = 256 := by kernel_rfl
  have ht : ∀ a b h, crcCells[(bits .xor .u8 a b).toNat]'h = .int .u32 (crcTab (bits .xor .u8 a b)) := by
    intro a b h
    have := bounds_u8 (wf_bits .xor .u8 a b)
    simp only [crcCells, Array.getElem_ofFn]
    rw [Int.toNat_of_nonneg this.1]
  have hE : ∀ y, crcFrom s s.size = y → bits .xor .u32 IntKind.u32.max y = crcSum s := fun y h => by rw [← h]; rfl
  have HE := Lib.hid hE
  clear hE
  generalize hs : crcSum s = sum at *
  clear hs
  generalize crcCells = tab at *
  have HT := Lib.hid hT
  clear hT
  go_enter Try.func79, Try.ntmps79
  go_wp2_with fail
  refine (HT.out _).mono ?_
  rintro e z1 ⟨rfl, hz1⟩
  have E1 : Ext w z1 := Ext.trans (by repeat (first | (with_reducible exact Ext.refl _) | (with_reducible assumption) | (with_reducible refine Ext.drewN ?_ _) | (with_reducible refine Ext.drew ?_) | (with_reducible refine Ext.alloc ?_ _) | (refine Ext.trans ?_ (by with_reducible assumption)))) hz1
  clear hz1
  go_wp2_with fail
  go_loop [6, 13] (fun x c => ∃ (n : Nat) (y : Int), n ≤ s.size ∧ c = .int .i64 n ∧ x = .int .u32 y ∧ 0 ≤ y ∧ y ≤ 4294967295 ∧ crcFrom s n = y) (fun _ c => s.size - (intOf c).toNat)
  case atStart => exact ⟨0, _, by omega, rfl, rfl, (bounds_u32 (wf_bits _ _ _ _)).1, (bounds_u32 (wf_bits _ _ _ _)).2, rfl⟩
  case round =>
    obtain ⟨n, y, hn, rfl, rfl, hy0, hy1, hy⟩ := hrel
    have HY := Lib.hid hy
    clear hy
    by_cases hlt : n < s.size
    · have hb := bounds_u8 (wf_bits .xor .u8 (y % 256) (s[n].toNat : Int))
      have hst := crcFrom_succ s n hlt
      rw [HY.out, crcUp_eq] at hst
      obtain ⟨hb0, hb1⟩ := hb
      have hb2 : bits .xor .u8 (y % 256) (s[n].toNat : Int) < 256 := by omega
      have HS := Lib.hid hst
      clear hst
      go_wp2_with fail
      refine ⟨⟨n + 1, _, by omega, by simp, rfl, ?_, ?_, HS.out⟩, by simp [intOf]; omega⟩
      · exact (bounds_u32 (wf_bits _ _ _ _)).1
      · exact (bounds_u32 (wf_bits _ _ _ _)).2
    · have hE : crcFrom s s.size = y := by rw [show s.size = n by omega]; exact HY.out
      go_wp2_with fail
      go_ret
      have hE2 := HE.out _ hE
      refine ⟨?_, by repeat (first | (with_reducible exact Ext.refl _) | (with_reducible assumption) | (with_reducible refine Ext.drewN ?_ _) | (with_reducible refine Ext.drew ?_) | (with_reducible refine Ext.alloc ?_ _) | (refine Ext.trans ?_ (by with_reducible assumption)))⟩
      first | rfl | rw [← hE2]; rfl

def crcBytes (x : Int) : ByteArray := strOfNums [x % 256, x / 256 % 256, x / 65536 % 256, x / 16777216]
theorem crcBytes_size (x : Int) : (crcBytes x).size = 4 := rfl

set_option maxRecDepth 20000 in
theorem bytes_any (x : Int) (w : World) (h0 : 0 ≤ x) (h1 : x ≤ 4294967295) : Calls Try.prog 63 #[.int .u32 x] w fun e w' => e = .returned (.string (crcBytes x)) ∧ Ext w w' := by
  have cv := fun (w : World) => run_convert_bytes_arg (P := Try.prog) (w.alloc (.cells #[.int .u8 (x % 256), .int .u8 (x / 256 % 256), .int .u8 (x / 65536 % 256), .int .u8 (x / 16777216)] 5)) 99 5 Try.underlying99 Try.underlying5 w.heap.size 0 4 4 [x % 256, x / 256 % 256, x / 65536 % 256, x / 16777216] rfl
    (fun i hi => by
      have : i = 0 ∨ i = 1 ∨ i = 2 ∨ i = 3 := by omega
      rcases this with rfl | rfl | rfl | rfl <;> simp) 9 Try.underlying9
  go_enter Try.func63, Try.ntmps63
  go_wp2
  go_ret
  exact ⟨rfl, by repeat (first | (with_reducible exact Ext.refl _) | (with_reducible assumption) | (with_reducible refine Ext.drewN ?_ _) | (with_reducible refine Ext.drew ?_) | (with_reducible refine Ext.alloc ?_ _) | (refine Ext.trans ?_ (by with_reducible assumption)))⟩

theorem Sum_any (s : ByteArray) (w : World) (hl : s.size ≤ 9223372036854775807) : Calls Try.prog 64 #[.string s] w fun e w' => e = .returned (.int .u32 (crcSum s)) ∧ Ext w w' := by
  have hM := Lib.hid (fun w => More_any s w hl)
  go_enter Try.func64, Try.ntmps64
  go_wp2_with fail
  refine (hM.out _).mono ?_
  rintro e z1 ⟨rfl, hz1⟩
  go_wp2
  go_ret
  exact ⟨rfl, hz1⟩

/-- A sealed text. -/
def sealed (s : ByteArray) : ByteArray := s ++ crcBytes (crcSum s)

theorem Seal_any (s : ByteArray) (w : World) (hl : s.size ≤ 1000000000) : Calls Try.prog 36 #[.string s] w fun e w' => e = .returned (.string (sealed s)) ∧ Ext w w' := by
  have hM := Lib.hid (fun w => Sum_any s w (by omega))
  have hz : ¬ 9223372036854775807 < s.size + (crcBytes (crcSum s)).size := by rw [crcBytes_size]; omega
  have hB := Lib.hid (fun w => bytes_any (crcSum s) w (crcSum_bounds s).1 (crcSum_bounds s).2)
  go_enter Try.func36, Try.ntmps36
  go_wp2_with fail
  refine (hM.out _).mono ?_
  rintro e z1 ⟨rfl, hz1⟩
  go_wp2_with fail
  refine (hB.out _).mono ?_
  rintro e z2 ⟨rfl, hz2⟩
  go_wp2
  go_ret
  exact ⟨rfl, hz1.trans hz2⟩

end Go.Proofs.Ytlihjhalbemfmaa
