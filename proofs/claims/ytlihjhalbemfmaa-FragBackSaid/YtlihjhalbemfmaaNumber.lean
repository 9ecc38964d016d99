/- A number in decimal is read. -/
import Derived.Test.YtlihjhalbemfmaaName
namespace Go.Proofs.Ytlihjhalbemfmaa
open Go.RowKit

/-- Digits stand at the beginning of a text, and none behind them. -/
structure DigsAt (t : ByteArray) (n L : Nat) : Prop where
  pos : 1 ≤ L
  le : L ≤ t.size
  byte : ∀ i, i < L → ∀ h : i < t.size, ((t[i]'h).toNat : Int) = 48 + ((n / 10 ^ (L - 1 - i) % 10 : Nat) : Int)
  behind : ∀ h : L < t.size, ((t[L]'h).toNat : Int) < 48 ∨ 58 < ((t[L]'h).toNat : Int)
  lt : n < 10 ^ L
  lead : L = 1 ∨ 1 ≤ n / 10 ^ (L - 1)

theorem digit_any (c : Int) (w : World) : Calls Try.prog 85 #[.int .u8 c] w fun e w' => e = .returned (.bool (decide (48 ≤ c) && decide (c ≤ 57))) ∧ w = w' := by
  go_enter Try.func85, Try.ntmps85
  by_cases h1 : 48 ≤ c <;> by_cases h2 : c ≤ 57 <;> (go_wp2; go_ret; exact ⟨by simp [h1, h2], rfl⟩)

theorem digStep (n e : Nat) : 10 * (n / 10 ^ (e + 1)) + n / 10 ^ e % 10 = n / 10 ^ e := by
  rw [Nat.pow_succ, ← Nat.div_div_eq_div_mul]; omega

set_option maxRecDepth 30000 in
theorem number_any (t : ByteArray) (n L : Nat) (w : World) (h : DigsAt t n L) (hn : n ≤ 2147483647) (ht : t.size ≤ 1000000) :
    Calls Try.prog 97 #[.string t, .int .i64 0] w fun e w' => e = .returned (.tuple #[.int .i64 n, .int .i64 L, .int .i64 0]) ∧ w = w' := by
  have H := Lib.hid h
  have hp := h.pos
  have hl := h.le
  have h0 : 0 < t.size := by omega
  have hb0 := h.byte 0 (by omega) h0
  obtain ⟨c0, hc0⟩ : ∃ c, c = n / 10 ^ (L - 1 - 0) % 10 := ⟨_, rfl⟩
  have hb0' : ∀ h, ((t[0]'h).toNat : Int) = 48 + (c0 : Int) := fun h => by rw [hc0]; exact hb0
  have hc9 : c0 < 10 := by omega
  have HC0 := Lib.hid hc0
  have hg1 : ¬ (48 + (c0 : Int) = 45) := by omega
  have hne : ¬ t = ByteArray.empty := by rintro rfl; simp at h0
  have hg2 : ¬ t.size = 0 := by omega
  have hg4 : (48 : Int) ≤ 48 + c0 := by omega
  have hg5 : (48 : Int) + c0 ≤ 57 := by omega
  clear h hb0 hc0
  go_enter Try.func97, Try.ntmps97
  go_wp2
  apply wp_scope_labelg 0 (fun k a' w' => ∃ (u2 u3 u10 u11 u12 u13 u14 u15 u16 u17 u18 u19 u20 u21 u22 u23 u24 u25 u26 u27 u28 u29 u30 u31 u32 u33 u34 u35 u36 u37 u38 u39 u40 u41 u42 u43 u44 u45 u46 u47 u48 u49 u50 u51 u52 u53 u54 u55 u56 u57 u58 u59 u60 u61 u62 u63 u64 u65 u66 u67 u68 u69 u70 u71 u72 : Value) (i m : Int), a' = { tmps := #[.string t, .int .i64 i, u2, u3, .int .i64 0, .int .i64 0, .int .i64 0, .int .i64 m, .int .i64 1, .int .i64 0, u10, u11, u12, u13, u14, u15, u16, u17, u18, u19, u20, u21, u22, u23, u24, u25, u26, u27, u28, u29, u30, u31, u32, u33, u34, u35, u36, u37, u38, u39, u40, u41, u42, u43, u44, u45, u46, u47, u48, u49, u50, u51, u52, u53, u54, u55, u56, u57, u58, u59, u60, u61, u62, u63, u64, u65, u66, u67, u68, u69, u70, u71, u72], defers := [] } ∧
    k = (L - i).toNat ∧ 0 ≤ i ∧ i ≤ L ∧ m = ((n / 10 ^ (L - i.toNat) : Nat) : Int) ∧ w = w')
  · rfl
  · intro K hK
    have HK := Lib.hid hK
    clear hK
    go_wp2_with fail
    refine (digit_any _ _).mono ?_
    rintro e z ⟨rfl, rfl⟩
    go_wp2_with fail
    rename_i Kx hKx
    refine wp_label (hKx _ _ ?_)
    exact HK.out _ _ _ ⟨_, _, _, _, _, _, _, _, _, _, _, _, _, _, _, _, _, _, _, _, _, _, _, _, _, _, _, _, _, _, _, _, _, _, _, _, _, _, _, _, _, _, _, _, _, _, _, _, _, _, _, _, _, _, _, _, _, _, _, _, _, _, _, _, _, 0, 0, rfl, rfl, by omega, by omega, by rw [show L - (0 : Int).toNat = L by omega, Nat.div_eq_of_lt H.out.lt]; rfl, rfl⟩
  · rintro k _ w1 ⟨u2, u3, u10, u11, u12, u13, u14, u15, u16, u17, u18, u19, u20, u21, u22, u23, u24, u25, u26, u27, u28, u29, u30, u31, u32, u33, u34, u35, u36, u37, u38, u39, u40, u41, u42, u43, u44, u45, u46, u47, u48, u49, u50, u51, u52, u53, u54, u55, u56, u57, u58, u59, u60, u61, u62, u63, u64, u65, u66, u67, u68, u69, u70, u71, u72, i, m, rfl, rfl, hi0, hi1, hm, rfl⟩ K hK
    have HK := Lib.hid hK
    have HM := Lib.hid hm
    clear hK hm
    have hmb : 0 ≤ m ∧ m ≤ 2147483647 := by
      rw [HM.out]
      have hq := Nat.div_le_self n (10 ^ (L - i.toNat))
      generalize n / 10 ^ (L - i.toNat) = q at *
      omega
    obtain ⟨hmb0, hmb1⟩ := hmb
    by_cases hlt : i < L
    · have hil : i.toNat < L := by omega
      have hit : i.toNat < t.size := by omega
      have hby := H.out.byte i.toNat hil hit
      have hst := digStep n (L - 1 - i.toNat)
      rw [show L - 1 - i.toNat + 1 = L - i.toNat by omega] at hst
      obtain ⟨c, hc⟩ : ∃ c, c = n / 10 ^ (L - 1 - i.toNat) % 10 := ⟨_, rfl⟩
      rw [← hc] at hby hst
      have hc10 : c < 10 := by omega
      have hbi : ∀ h, ((t[i.toNat]'h).toNat : Int) = 48 + (c : Int) := fun _ => hby
      have hm2 : 10 * m + c = ((n / 10 ^ (L - (i + 1).toNat) : Nat) : Int) := by
        rw [HM.out, show L - (i + 1).toNat = L - 1 - i.toNat by omega, ← hst]; omega
      have hm3 : 10 * m + c ≤ 2147483647 := by
        rw [hm2]
        have hq := Nat.div_le_self n (10 ^ (L - (i + 1).toNat))
        generalize n / 10 ^ (L - (i + 1).toNat) = q at *
        omega
      have HM2 := Lib.hid hm2
      have hii : i < t.size := by omega
      have hd1 : (48 : Int) ≤ 48 + c := by omega
      have hd2 : (48 : Int) + c ≤ 57 := by omega
      clear hby hst hc hm2 hb0' HC0 hg1 hg4 hg5 hc9
      go_wp2_with fail
      refine (digit_any _ _).mono ?_
      rintro e z ⟨rfl, rfl⟩
      go_wp2_with fail
      apply wp_goto
      refine ⟨rfl, HK.out _ _ _ ?_ ⟨_, _, _, _, _, _, _, _, _, _, _, _, _, _, _, _, _, _, _, _, _, _, _, _, _, _, _, _, _, _, _, _, _, _, _, _, _, _, _, _, _, _, _, _, _, _, _, _, _, _, _, _, _, _, _, _, _, _, _, _, _, _, _, _, _, i + 1, 10 * m + (48 + c - 48), rfl, rfl, by omega, by omega, by rw [← HM2.out]; omega, rfl⟩⟩
      omega
    · obtain rfl : i = L := by omega
      have hmn : m = n := by rw [HM.out]; simp
      subst hmn
      have hz : L = 1 ∨ ¬ (48 + (c0 : Int) = 48) := by
        rcases H.out.lead with h | h
        · exact .inl h
        · right
          have h1 := HC0.out
          have h2 : n / 10 ^ (L - 1) < 10 := by
            rw [Nat.div_lt_iff_lt_mul (Nat.pow_pos (by decide)), ← Nat.pow_succ', show (L - 1).succ = L by omega]
            exact H.out.lt
          rw [Nat.sub_zero, Nat.mod_eq_of_lt h2] at h1
          omega
      have hz2 : ¬ ((1 : Int) < L) ∨ ¬ (48 + (c0 : Int) = 48) := by omega
      clear hz HC0 hg4 hg5
      by_cases hlt2 : L < t.size
      · have hbh := H.out.behind hlt2
        obtain ⟨e, he⟩ : ∃ e : Int, e = (t[L].toNat : Int) := ⟨_, rfl⟩
        have hbi : ∀ h, ((t[L]'h).toNat : Int) = e := fun _ => he.symm
        rw [← he] at hbh
        clear he
        have hli : (L : Int) < t.size := by omega
        have hdig : (decide (48 ≤ e) && decide (e ≤ 57)) = false := by simp; omega
        rcases hz2 with hz2 | hz2
        all_goals
          go_wp2_with fail
          refine (digit_any _ _).mono ?_
          rintro e z ⟨rfl, rfl⟩
          go_wp2
          all_goals (refine jump_ret ?_; exact bodyPost_ret (v := .tuple #[.int .i64 n, .int .i64 L, .int .i64 0]) (by simp only [results, Try.results97]; go_simp) rfl ⟨rfl, rfl⟩)
      · have hli : ¬ ((L : Int) < t.size) := by omega
        rcases hz2 with hz2 | hz2
        all_goals
          go_wp2
          all_goals (refine jump_ret ?_; exact bodyPost_ret (v := .tuple #[.int .i64 n, .int .i64 L, .int .i64 0]) (by simp only [results, Try.results97]; go_simp) rfl ⟨rfl, rfl⟩)
end Go.Proofs.Ytlihjhalbemfmaa
