/- Contracts of the folds of two values, but for points. -/
import Derived.Test.YtlihjhalbemfmaaCmp
import Derived.Test.YtlihjhalbemfmaaGaussLaw
namespace Go.Proofs.Ytlihjhalbemfmaa
open Go.RowKit

/-- The cells of a row of strings. -/
def StrsAt (w : World) (p : Addr) (l : List ByteArray) : Prop := ∀ i, i < l.length → w.cell? ⟨p.block, p.off + i, none⟩ = some (.string (l.getD i ByteArray.empty))

def indexFrom : List ByteArray → ByteArray → Nat → Int
  | [], _, _ => -1
  | x :: l, s, k => if s.toList = x.toList then k else indexFrom l s (k + 1)

set_option maxHeartbeats 400000 in
theorem indexStr (l : List ByteArray) (s : ByteArray) (b o c : Nat) (w : World) (h : StrsAt w ⟨b, o, none⟩ l) (hl : l.length ≤ 9223372036854775807) :
    Calls Try.prog 55 #[.slice (some ⟨b, o, none⟩) l.length c, .string s] w fun e w' => e = .returned (.int .i64 (indexFrom l s 0)) ∧ w = w' := by
  have H := Lib.hid h; clear h
  go_enter Try.func55, Try.ntmps55
  go_wp2
  go_loop [8] (fun i => ∃ k : Nat, k ≤ l.length ∧ i = .int .i64 k ∧ indexFrom l s 0 = indexFrom (l.drop k) s k) (fun i => l.length - (intOf i).toNat)
  case atStart => exact ⟨0, Nat.zero_le _, rfl, rfl⟩
  case round =>
    obtain ⟨k, hk, rfl, hf⟩ := hrel
    have HF := Lib.hid hf; clear hf
    by_cases hlt : k < l.length
    · have hc := H.out k hlt
      obtain ⟨x, hx⟩ : ∃ x, l.getD k ByteArray.empty = x := ⟨_, rfl⟩
      rw [hx] at hc
      have HX : Hid (indexFrom (l.drop k) s k = if s.toList = x.toList then (k : Int) else indexFrom (l.drop (k + 1)) s (k + 1)) := by
        unfold Hid
        rw [List.drop_eq_getElem_cons hlt, indexFrom]
        have e : l[k] = x := by rw [← hx]; simp [hlt]
        rw [e]
      clear hx
      by_cases hz : s.toList = x.toList
      · have HZ := Lib.hid hz
        have hz' : (s.toList == x.toList) = true := by simpa using hz
        clear hz
        go_wp2
        go_ret
        exact ⟨by rw [HF.out, HX.out, if_pos HZ.out]; rfl, rfl⟩
      · have hz' : (s.toList == x.toList) = false := by simpa using hz
        have HZ := Lib.hid hz; clear hz
        go_wp2
        go_round
        case rel => exact ⟨k + 1, by omega, by go_num, by rw [HF.out, HX.out, if_neg HZ.out]⟩
        case measure => simp [intOf]; omega
    · go_wp2
      go_ret
      exact ⟨by rw [HF.out, List.drop_of_length_le (by omega)]; rfl, rfl⟩

theorem containsStr (l : List ByteArray) (s : ByteArray) (b o c : Nat) (w : World) (h : StrsAt w ⟨b, o, none⟩ l) (hl : l.length ≤ 9223372036854775807) :
    Calls Try.prog 28 #[.slice (some ⟨b, o, none⟩) l.length c, .string s] w fun e w' => e = .returned (.bool (decide (0 ≤ indexFrom l s 0))) ∧ w = w' := by
  have H := Lib.hid h; clear h
  go_enter Try.func28, Try.ntmps28
  go_wp2_with (go_at_call 55; refine (indexStr _ _ _ _ _ _ H.out hl).mono ?_; rintro e w' ⟨rfl, rfl⟩)
  go_ret; exact ⟨rfl, rfl⟩

/-- The words of the folds. -/
inductive Word where | sum | max | min | gcd
def Word.s : Word → ByteArray
  | .sum => ⟨#[115, 117, 109]⟩
  | .max => ⟨#[109, 97, 120]⟩
  | .min => ⟨#[109, 105, 110]⟩
  | .gcd => ⟨#[103, 99, 100]⟩
def words : List ByteArray := [Word.sum.s, Word.max.s, Word.min.s, Word.gcd.s]

theorem folds_any (w : World) : Calls Try.prog 29 #[] w fun e w' => ∃ b c, e = .returned (.slice (some ⟨b, 0, none⟩) words.length c) ∧ StrsAt w' ⟨b, 0, none⟩ words ∧ Ext w w' := by
  go_enter Try.func29, Try.ntmps29
  go_wp2
  go_ret
  refine ⟨w.heap.size, 4, rfl, ?_, (Ext.refl _).alloc _⟩
  intro i hi
  match i, hi with
  | 0, _ => simp [words, Word.s]
  | 1, _ => simp [words, Word.s]
  | 2, _ => simp [words, Word.s]
  | 3, _ => simp [words, Word.s]

def wrapV (n c : Int) : Int := if n < -c then n + 2 * c else if c ≤ n then n - 2 * c else n

theorem wrapped_any (n c : Int) (w : World) (h1 : -36028797018963968 ≤ n) (h2 : n ≤ 36028797018963968) (h3 : 0 ≤ c) (h4 : c ≤ 36028797018963968) :
    Calls Try.prog 60 #[.int .i64 n, .int .i64 c] w fun e w' => e = .returned (.int .i64 (wrapV n c)) ∧ w = w' := by
  go_enter Try.func60, Try.ntmps60
  by_cases h5 : n < -c
  · go_wp2
    go_ret; exact ⟨by unfold wrapV; rw [if_pos h5]; rfl, rfl⟩
  · by_cases h6 : c ≤ n
    · go_wp2
      go_ret; exact ⟨by unfold wrapV; rw [if_neg (by omega), if_pos (by omega)]; rfl, rfl⟩
    · go_wp2
      go_ret; exact ⟨by unfold wrapV; rw [if_neg (by omega), if_neg (by omega)]; rfl, rfl⟩

theorem gcd_step (a b : Int) : Int.gcd b (a.tmod b) = Int.gcd a b := by
  unfold Int.gcd
  rw [Int.natAbs_tmod, Nat.gcd_comm, ← Nat.gcd_rec, Nat.gcd_comm]

theorem tmod_bd (a b : Int) (hb : b ≠ 0) : (a.tmod b).natAbs < b.natAbs := by
  rw [Int.natAbs_tmod]
  exact Nat.mod_lt _ (by omega)

set_option maxHeartbeats 400000 in
theorem common_any (a b : Int) (w : World) (h1 : -9007199254740992 ≤ a) (h2 : a ≤ 9007199254740992) (h3 : -9007199254740992 ≤ b) (h4 : b ≤ 9007199254740992) :
    Calls Try.prog 61 #[.int .i64 a, .int .i64 b] w fun e w' => e = .returned (.int .i64 (Int.gcd a b)) ∧ Ext w w' := by
  go_enter Try.func61, Try.ntmps61
  go_wp2
  apply wp_scope_label 0 (fun a' w' => ∃ (u2 u3 u4 u5 u6 u7 u8 u9 u10 u11 u12 u13 u14 : Value) (x y : Int), a' = { tmps := #[.int .i64 x, .int .i64 y, u2, u3, u4, u5, u6, u7, u8, u9, u10, u11, u12, u13, u14], defers := [] } ∧ -9007199254740992 ≤ x ∧ x ≤ 9007199254740992 ∧ -9007199254740992 ≤ y ∧ y ≤ 9007199254740992 ∧ Int.gcd x y = Int.gcd a b ∧ Ext w w')
    (fun a' _ => match a'.tmps.getD 1 undef with | .int _ y => y.natAbs | _ => 0)
  · rfl
  · intro hJ
    refine wp_at_label ?_
    exact hJ _ _ ⟨_, _, _, _, _, _, _, _, _, _, _, _, _,  a, b, rfl, h1, h2, h3, h4, rfl, Ext.refl _⟩
  · rintro _ w1 ⟨u2, u3, u4, u5, u6, u7, u8, u9, u10, u11, u12, u13, u14, x, y, rfl, hx1, hx2, hy1, hy2, hg, he⟩
    have HG := Lib.hid hg; clear hg
    by_cases hy : y = 0
    · subst hy
      have hz : ((Int.gcd a b : Nat) : Int) = if x < -x then -x else x := by
        rw [← HG.out, Int.gcd_zero]
        split <;> omega
      have HZ := Lib.hid hz; clear hz
      go_wp2
      all_goals
        refine jump_ret ?_
        go_ret
        exact ⟨by rw [HZ.out]; first | (rw [if_pos (by assumption)]; rfl) | (rw [if_neg (by omega)]; rfl), by repeat (first | (with_reducible exact Ext.refl _) | (with_reducible assumption) | (with_reducible refine Ext.drewN ?_ _) | (with_reducible refine Ext.drew ?_) | (with_reducible refine Ext.alloc ?_ _) | (refine Ext.trans ?_ (by with_reducible assumption)))⟩
    · have hy' : (y == 0) = false := by simpa using hy
      have hb := tmod_bd x y hy
      have HB := gcd_step x y
      have HB' := Lib.hid HB; clear HB
      go_wp2
      go_region
      go_wp2
      apply wp_goto
      refine ⟨rfl, ⟨_, _, _, _, _, _, _, _, _, _, _, _, _,  y, x.tmod y, rfl, hy1, hy2, by omega, by omega, by rw [HB'.out, HG.out], by repeat (first | (with_reducible exact Ext.refl _) | (with_reducible assumption) | (with_reducible refine Ext.drewN ?_ _) | (with_reducible refine Ext.drew ?_) | (with_reducible refine Ext.alloc ?_ _) | (refine Ext.trans ?_ (by with_reducible assumption)))⟩, ?_⟩
      exact hb

end Go.Proofs.Ytlihjhalbemfmaa
