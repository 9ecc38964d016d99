/- Where the numbers of a frame stand. -/
import Derived.Test.YtlihjhalbemfmaaFrame
namespace Go.Proofs.Ytlihjhalbemfmaa
open Go.RowKit

theorem numB_bytes : ∀ (n : Nat) (v : Int), v ∈ numB n → 0 ≤ v ∧ v ≤ 255 := by
  intro n
  induction n using Nat.strongRecOn with
  | ind n ih =>
    intro v hv
    by_cases h : n < 128
    · rw [numB_small h] at hv; simp at hv; omega
    · rw [numB_big h] at hv
      rcases List.mem_cons.1 hv with rfl | hv
      · omega
      · exact ih (n / 128) (by omega) v hv

theorem numAt_mid (x y : ByteArray) (n : Nat) : numAt (x ++ (strOfNums (numB n) ++ y)) x.size n := by
  refine ⟨by simp only [ByteArray.size_append, strOfNums_size]; omega, fun j hj => ?_⟩
  have hb := numB_bytes n ((numB n).getD j 0) (by rw [List.getD_eq_getElem?_getD, List.getElem?_eq_getElem hj]; simp)
  have e : (x ++ (strOfNums (numB n) ++ y)).data.toList = x.data.toList ++ ((numB n).map (fun n => UInt8.ofNat n.toNat) ++ y.data.toList) := by
    simp [strOfNums]
  rw [e, List.getD_eq_getElem?_getD, List.getElem?_append_right (by simp), List.getElem?_append_left (by simp; omega)]
  rw [show x.size + j - x.data.toList.length = j by simp]
  rw [List.getElem?_map, List.getElem?_eq_getElem hj] 
  rw [List.getD_eq_getElem?_getD, List.getElem?_eq_getElem hj] at hb ⊢
  simp at hb ⊢
  omega

def offOf (num : Nat → Nat) : Nat → Nat
  | 0 => 0
  | i + 1 => offOf num i + (numB (num i)).length

theorem headTo_off (l : List Int) : ∀ k, (headTo l k).size = offOf (fun i => (l.getD i 0).toNat) k
  | 0 => rfl
  | k + 1 => by rw [headTo, ByteArray.size_append, headTo_off l k, offOf, numText, strOfNums_size]

theorem headTo_split (l : List Int) (i : Nat) : ∀ k, i < k → ∃ r, headTo l k = headTo l i ++ (numText (l.getD i 0) ++ r)
  | k + 1, h => by
    by_cases e : i = k
    · subst e; exact ⟨⟨#[]⟩, by rw [headTo]; congr 1; exact (ByteArray.append_empty).symm⟩
    · obtain ⟨r, hr⟩ := headTo_split l i k (by omega)
      exact ⟨r ++ numText (l.getD k 0), by rw [headTo, hr]; simp [ByteArray.append_assoc]⟩

theorem frame_numAt (l : List Int) (s : ByteArray) (i : Nat) (h : i < 4) : numAt (headTo l 4 ++ tapeText s) (offOf (fun i => (l.getD i 0).toNat) i) (l.getD i 0).toNat := by
  obtain ⟨r, hr⟩ := headTo_split l i 4 h
  rw [hr, ← headTo_off, ByteArray.append_assoc, ByteArray.append_assoc]
  exact numAt_mid _ _ _
theorem frame_textAt (l : List Int) (s : ByteArray) : numAt (headTo l 4 ++ tapeText s) (offOf (fun i => (l.getD i 0).toNat) 4) s.size := by
  rw [← headTo_off, tapeText]
  exact numAt_mid _ _ _
theorem frame_text (l : List Int) (s : ByteArray) (o n : Nat) (ho : o = (headTo l 4).size) (hn : n = (numB s.size).length) : (headTo l 4 ++ tapeText s).extract (o + n) (o + n + s.size) = s := by
  rw [tapeText, ← ByteArray.append_assoc]
  exact ByteArray.extract_append_eq_right (by rw [ByteArray.size_append, strOfNums_size]; omega) (by rw [ByteArray.size_append, strOfNums_size]; omega)
theorem frame_size (l : List Int) (s : ByteArray) : (headTo l 4 ++ tapeText s).size = (headTo l 4).size + ((numB s.size).length + s.size) := by
  rw [tapeText, ByteArray.size_append, ByteArray.size_append, strOfNums_size]
end Go.Proofs.Ytlihjhalbemfmaa
