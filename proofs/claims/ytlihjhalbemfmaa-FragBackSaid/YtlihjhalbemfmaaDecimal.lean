/- A number in decimal. -/
import Derived.Test.YtlihjhalbemfmaaFragRight
namespace Go.Proofs.Ytlihjhalbemfmaa
open Go.RowKit

/-- A digit. -/
def dig (k : Nat) : ByteArray := ⟨#[UInt8.ofNat (48 + k)]⟩
theorem dig_size (k : Nat) : (dig k).size = 1 := rfl
/-- A number's digits, ahead of what stands behind them. -/
def digs (n : Nat) (t : ByteArray) : ByteArray := if n < 10 then dig n ++ t else digs (n / 10) (dig (n % 10) ++ t)
theorem digs_small {n : Nat} {t : ByteArray} (h : n < 10) : digs n t = dig n ++ t := by rw [digs, if_pos h]
theorem digs_big {n : Nat} {t : ByteArray} (h : ¬ n < 10) : digs n t = digs (n / 10) (dig (n % 10) ++ t) := by rw [digs, if_neg h]
theorem digs_append (n : Nat) : ∀ t : ByteArray, digs n t = digs n ByteArray.empty ++ t := by
  induction n using Nat.strongRecOn with
  | ind n ih =>
    intro t
    by_cases h : n < 10
    · rw [digs_small h, digs_small h, ByteArray.append_empty]
    · rw [digs_big h, digs_big h, ih (n / 10) (by omega), ih (n / 10) (by omega) (_ ++ ByteArray.empty), ByteArray.append_empty, ByteArray.append_assoc]
theorem digs_size (k : Nat) : ∀ n : Nat, n < 10 ^ (k + 1) → ∀ t, (digs n t).size ≤ t.size + k + 1 := by
  induction k with
  | zero => intro n h t; rw [digs_small (by simpa using h), ByteArray.size_append, dig_size]; omega
  | succ k ih =>
    intro n h t
    by_cases hn : n < 10
    · rw [digs_small hn, ByteArray.size_append, dig_size]; omega
    · rw [digs_big hn]
      have := ih (n / 10) (by rw [Nat.div_lt_iff_lt_mul (by decide)]; rw [Nat.pow_succ] at h; exact h) (dig (n % 10) ++ t)
      rw [ByteArray.size_append, dig_size] at this
      omega

theorem digit_at (m : Int) : (⟨#[48, 49, 50, 51, 52, 53, 54, 55, 56, 57, 97, 98, 99, 100, 101, 102]⟩ : ByteArray).extract (m % 10).toNat (m % 10 + 1).toNat = dig (m % 10).toNat := by
  have h : m % 10 = 0 ∨ m % 10 = 1 ∨ m % 10 = 2 ∨ m % 10 = 3 ∨ m % 10 = 4 ∨ m % 10 = 5 ∨ m % 10 = 6 ∨ m % 10 = 7 ∨ m % 10 = 8 ∨ m % 10 = 9 := by omega
  rcases h with h | h | h | h | h | h | h | h | h | h <;> rw [h] <;> rfl

set_option maxRecDepth 30000 in
theorem decimal_any (n : Int) (w : World) (h0 : 0 ≤ n) (h1 : n ≤ 2147483647) :
    Calls Try.prog 66 #[.int .i64 n] w fun e w' => e = .returned (.string (digs n.toNat ByteArray.empty)) ∧ w = w' := by
  have hsz : (digs n.toNat ByteArray.empty).size ≤ 10 := by
    have := digs_size 9 n.toNat (by omega) ByteArray.empty
    rw [ByteArray.size_empty] at this; omega
  generalize hdn : digs n.toNat ByteArray.empty = out at *
  have HDN := Lib.hid hdn
  clear hdn
  have HSZ := Lib.hid hsz
  clear hsz
  go_enter Try.func66, Try.ntmps66
  go_wp2_with fail
  go_loop [0, 3] (fun x o => ∃ (m : Int) (t : ByteArray), 0 ≤ m ∧ m ≤ 2147483647 ∧ x = .int .i64 m ∧ o = .string t ∧ digs m.toNat t = out) (fun x _ => (intOf x).toNat)
  case atStart => exact ⟨n, _, h0, h1, rfl, rfl, HDN.out⟩
  case round =>
    obtain ⟨m, t, hm0, hm1, rfl, rfl, hd⟩ := hrel
    have HD := Lib.hid hd
    have hat := digit_at m
    have hds : (dig (m % 10).toNat).size = 1 := rfl
    have hts : t.size ≤ 10 := by have := HSZ.out; rw [← hd, digs_append, ByteArray.size_append] at this; omega
    clear hd
    by_cases hs : m < 10
    · have hq : m / 10 = 0 := by omega
      have ho : Hid (dig (m % 10).toNat ++ t = out) := by
        unfold Hid
        rw [← HD.out, digs_small (n := m.toNat) (by omega), show (m % 10).toNat = m.toNat by omega]
      clear HDN HD
      go_wp2
      go_ret
      exact ⟨by rw [← ho.out]; rfl, rfl⟩
    · have hq : m / 10 ≠ 0 := by omega
      have ho : Hid (digs (m / 10).toNat (dig (m % 10).toNat ++ t) = out) := by
        unfold Hid
        rw [← HD.out, digs_big (n := m.toNat) (by omega), show (m % 10).toNat = m.toNat % 10 by omega, show (m / 10).toNat = m.toNat / 10 by omega]
      clear HDN HD
      go_wp2
      exact ⟨⟨m / 10, _, by omega, by omega, rfl, rfl, ho.out⟩, by simp [intOf]; omega⟩
end Go.Proofs.Ytlihjhalbemfmaa
