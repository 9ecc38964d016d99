/- The digits of a number, as they stand; a name's rest. -/
import Derived.Test.YtlihjhalbemfmaaParse
namespace Go.Proofs.Ytlihjhalbemfmaa
open Go.RowKit

/-- Digits stand at the beginning of a list, and then another one. -/
structure DigsL (l r : List UInt8) (n L : Nat) : Prop where
  pos : 1 ≤ L
  size : l.length = L + r.length
  byte : ∀ i, i < L → l[i]? = some (UInt8.ofNat (48 + n / 10 ^ (L - 1 - i) % 10))
  drop : l.drop L = r
  lt : n < 10 ^ L
  lead : L = 1 ∨ 1 ≤ n / 10 ^ (L - 1)

theorem digsL (n : Nat) : ∀ t : ByteArray, ∃ L, DigsL (digs n t).data.toList t.data.toList n L := by
  induction n using Nat.strongRecOn with
  | ind n ih =>
    intro t
    by_cases h : n < 10
    · rw [digs_small h]
      refine ⟨1, ⟨by omega, ?_, ?_, ?_, by simpa using h, .inl rfl⟩⟩
      · simp [dig]; omega
      · intro i hi
        obtain rfl : i = 0 := by omega
        simp [dig, Nat.mod_eq_of_lt h]
      · simp [dig]
    · rw [digs_big h]
      obtain ⟨L, h1, h2, h3, h4, h5, h6⟩ := ih (n / 10) (by omega) (dig (n % 10) ++ t)
      refine ⟨L + 1, ⟨by omega, ?_, ?_, ?_, ?_, .inr ?_⟩⟩
      · rw [h2]; simp [dig]; omega
      · intro i hi
        by_cases hiL : i < L
        · rw [h3 i hiL, Nat.div_div_eq_div_mul, ← Nat.pow_succ', show (L - 1 - i).succ = L + 1 - 1 - i by omega]
        · obtain rfl : i = L := by omega
          have : (digs (n / 10) (dig (n % 10) ++ t)).data.toList[i]? = ((digs (n / 10) (dig (n % 10) ++ t)).data.toList.drop i)[0]? := by simp
          rw [this, h4]
          simp [dig]
      · rw [← List.drop_drop, h4]; simp [dig]
      · rw [Nat.pow_succ]; omega
      · rw [show L + 1 - 1 = L by omega]
        rcases h6 with rfl | h6
        · simp; omega
        · rw [Nat.div_div_eq_div_mul, ← Nat.pow_succ', show (L - 1).succ = L by omega] at h6; exact h6

theorem getElem_data {t : ByteArray} {i : Nat} (h : i < t.size) : t.data.toList[i]? = some t[i] := by
  rw [List.getElem?_eq_getElem (by simpa using h)]; rfl

theorem digsAt (n : Nat) (r : ByteArray) (hr : ∀ h : 0 < r.size, 58 < ((r[0]'h).toNat : Int)) : ∃ L, DigsAt (digs n ByteArray.empty ++ r) n L ∧ (digs n ByteArray.empty ++ r).extract L (digs n ByteArray.empty ++ r).size = r ∧ L ≤ (digs n ByteArray.empty ++ r).size := by
  rw [← digs_append]
  obtain ⟨L, h1, h2, h3, h4, h5, h6⟩ := digsL n r
  have hsz : (digs n r).size = L + r.size := h2
  refine ⟨L, ⟨h1, by omega, ?_, ?_, h5, h6⟩, ?_, by omega⟩
  · intro i hi h
    have e1 := h3 i hi
    rw [getElem_data h] at e1
    have e2 := Option.some.inj e1
    rw [e2]
    have : n / 10 ^ (L - 1 - i) % 10 < 10 := Nat.mod_lt _ (by decide)
    rw [UInt8.toNat_ofNat', Nat.mod_eq_of_lt (by omega)]
    omega
  · intro h
    right
    have h0 : 0 < r.size := by omega
    have e1 : (digs n r).data.toList[L]? = ((digs n r).data.toList.drop L)[0]? := by simp
    rw [h4, getElem_data h, getElem_data h0] at e1
    rw [Option.some.inj e1]
    exact hr h0
  · apply ByteArray.ext
    apply Array.toList_inj.1
    rw [ByteArray.data_extract, Array.toList_extract]
    simp only [List.extract]
    rw [h4]
    exact List.take_of_length_le (by simp; omega)

/-- What is left of a name. -/
def restFrom (l : List Int) : Nat → Nat → ByteArray
  | _, 0 => ByteArray.empty
  | k, m + 1 => letter k ++ (digs (l.getD k 0).toNat ByteArray.empty ++ restFrom l (k + 1) m)

theorem name_rest (l : List Int) : nameTo l 4 = restFrom l 0 4 := by
  simp [nameTo, restFrom, part, ByteArray.append_assoc]
  rfl

def letterN (k : Nat) : Int := (([116, 97, 112, 102] : List Int).getD k 0)

theorem letter_head (k : Nat) (t : ByteArray) (hk : k < 4) : 0 < (letter k ++ t).size ∧ (∀ h, (((letter k ++ t)[0]'h).toNat : Int) = letterN k) ∧ (letter k ++ t).extract 1 (letter k ++ t).size = t := by
  refine ⟨by rw [ByteArray.size_append, letter_size]; omega, ?_, ?_⟩
  · intro h
    have e := getElem_data h
    have : (letter k ++ t).data.toList[0]? = some (([116, 97, 112, 102] : List UInt8).getD k 0) := by simp [letter]
    rw [this] at e
    rw [← Option.some.inj e]
    have : k = 0 ∨ k = 1 ∨ k = 2 ∨ k = 3 := by omega
    rcases this with rfl | rfl | rfl | rfl <;> rfl
  · apply ByteArray.ext
    apply Array.toList_inj.1
    rw [ByteArray.data_extract, Array.toList_extract]
    simp [List.extract, letter]
    refine List.take_of_length_le ?_
    have e : t.data.toList.length = t.size := by simp
    rw [e]
    have : (⟨#[([116, 97, 112, 102] : List UInt8)[k]?.getD 0]⟩ : ByteArray).size = 1 := rfl
    rw [this]; omega

theorem letterN_pos (k : Nat) (hk : k < 4) : 58 < letterN k := by
  have : k = 0 ∨ k = 1 ∨ k = 2 ∨ k = 3 := by omega
  rcases this with rfl | rfl | rfl | rfl <;> decide

theorem rest_first (l : List Int) (k m : Nat) (hk : k + m = 4) : ∀ h : 0 < (restFrom l k m).size, 58 < (((restFrom l k m)[0]'h).toNat : Int) := by
  cases m with
  | zero => intro h; simp [restFrom] at h
  | succ m => intro h; have e := ((letter_head k (digs (l.getD k 0).toNat ByteArray.empty ++ restFrom l (k + 1) m) (by omega)).2.1 h); have := letterN_pos k (by omega); exact e ▸ this

theorem rest_size (l : List Int) (h : ∀ n ∈ l, 0 ≤ n ∧ n ≤ 2147483647) : ∀ m k, k + m ≤ l.length → (restFrom l k m).size ≤ 11 * m
  | 0, _, _ => by simp [restFrom]
  | m + 1, k, hk => by
    have h1 := rest_size l h m (k + 1) (by omega)
    have h2 := h (l.getD k 0) (by rw [List.getD_eq_getElem?_getD, List.getElem?_eq_getElem (by omega)]; simp)
    have h3 := digs_size10 h2.1 h2.2
    rw [restFrom, ByteArray.size_append, ByteArray.size_append, letter_size]; omega

theorem numbered_rest (l : List Int) (h : ∀ n ∈ l, 0 ≤ n ∧ n ≤ 2147483647) (hl : l.length = 4) (k m : Nat) (hk : k + (m + 1) = 4) (w : World) :
    Calls Try.prog 46 #[.string (restFrom l k (m + 1)), .int .u8 (letterN k)] w fun e w' => e = .returned (.tuple #[.int .i64 (l.getD k 0), .string (restFrom l (k + 1) m), .bool true]) ∧ Ext w w' := by
  have h2 := h (l.getD k 0) (by rw [List.getD_eq_getElem?_getD, List.getElem?_eq_getElem (by omega)]; simp)
  obtain ⟨a1, a2, a3⟩ := letter_head k (digs (l.getD k 0).toNat ByteArray.empty ++ restFrom l (k + 1) m) (by omega)
  obtain ⟨L, d1, d2, d3⟩ := digsAt (l.getD k 0).toNat (restFrom l (k + 1) m) (rest_first l (k + 1) m (by omega))
  have hsz := rest_size l h (m + 1) k (by omega)
  have := numbered_num (letter k ++ (digs (l.getD k 0).toNat ByteArray.empty ++ restFrom l (k + 1) m)) _ (letterN k) (l.getD k 0).toNat L w a1 a2 a3 d1 (by omega) (by rw [restFrom] at hsz; omega)
  have e1 : (((l.getD k 0).toNat : Nat) : Int) = l.getD k 0 := by omega
  have e2 : (letter k ++ (digs (l.getD k 0).toNat ByteArray.empty ++ restFrom l (k + 1) m)).extract (1 + L) (letter k ++ (digs (l.getD k 0).toNat ByteArray.empty ++ restFrom l (k + 1) m)).size = restFrom l (k + 1) m := by
    refine Eq.trans ?_ d2
    generalize digs (l.getD k 0).toNat ByteArray.empty ++ restFrom l (k + 1) m = t
    apply ByteArray.ext
    apply Array.toList_inj.1
    rw [ByteArray.data_extract, Array.toList_extract, ByteArray.data_extract, Array.toList_extract]
    have e1 : (letter k ++ t).data.toList = ([116, 97, 112, 102] : List UInt8).getD k 0 :: t.data.toList := by simp [letter]
    have e2 : (letter k ++ t).size = t.size + 1 := by rw [ByteArray.size_append, letter_size]; omega
    simp only [List.extract]
    rw [e1, e2, Nat.add_comm 1 L, List.drop_succ_cons, Nat.add_sub_add_right]
  rw [e1, e2] at this
  exact this
end Go.Proofs.Ytlihjhalbemfmaa
