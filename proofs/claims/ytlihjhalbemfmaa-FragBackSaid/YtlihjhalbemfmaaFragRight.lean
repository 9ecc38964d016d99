/- Which ids are right. -/
import Derived.Test.YtlihjhalbemfmaaIded
namespace Go.Proofs.Ytlihjhalbemfmaa
open Go.RowKit

theorem numbers_any (a b c d : Int) (w : World) : Calls Try.prog 34 #[.agg #[.int .i64 a, .int .i64 b, .int .i64 c, .int .i64 d]] w fun e w' => ∃ g, e = .returned (.slice (some ⟨g, 0, none⟩) 4 4) ∧ Ext w w' ∧ w.heap.size ≤ g ∧ g < w'.heap.size ∧ (∀ o, w'.cell? ⟨g, o, none⟩ = (#[.int .i64 a, .int .i64 b, .int .i64 c, .int .i64 d] : Array Value)[o]?) := by
  go_enter Try.func34, Try.ntmps34
  go_wp2
  go_ret
  exact ⟨_, rfl, by repeat (first | (with_reducible exact Ext.refl _) | (with_reducible assumption) | (with_reducible refine Ext.drewN ?_ _) | (with_reducible refine Ext.drew ?_) | (with_reducible refine Ext.alloc ?_ _) | (refine Ext.trans ?_ (by with_reducible assumption))), by simp, by simp, fun o => by simp⟩

/-- Is a number wrong in an id? -/
def badN (n : Int) : Bool := decide (n < 0) || decide (2147483647 < n)

theorem bad_any (n : Int) (w : World) : Calls Try.prog 39 #[.int .i64 n] w fun e w' => e = .returned (.bool (badN n)) ∧ w = w' := by
  go_enter Try.func39, Try.ntmps39
  by_cases h1 : n < 0 <;> by_cases h2 : 2147483647 < n <;> (go_wp2; go_ret; exact ⟨by simp [badN, h1, h2], rfl⟩)

def badFrom : List Int → Int → Int
  | [], _ => -1
  | x :: l, k => if badN x then k else badFrom l (k + 1)

theorem badFrom_step (l : List Int) (k : Nat) (h : k < l.length) : badFrom (l.drop k) k = if badN (l.getD k 0) then (k : Int) else badFrom (l.drop (k + 1)) (k + 1) := by
  rw [List.drop_eq_getElem_cons h, badFrom]
  simp [h]

set_option maxRecDepth 30000 in
theorem index_any (l : List Int) (g c : Nat) (w : World) (hl : l.length ≤ 1000000) (hc : ∀ k, k < l.length → w.cell? ⟨g, k, none⟩ = some (.int .i64 (l.getD k 0))) :
    Calls Try.prog 65 #[.slice (some ⟨g, 0, none⟩) l.length c, .func (.func 39) #[] #[]] w fun e w' => e = .returned (.int .i64 (badFrom l 0)) ∧ w = w' := by
  have HC := Lib.hid hc
  clear hc
  go_enter Try.func65, Try.ntmps65
  go_wp2
  go_loop [8] (fun i => ∃ k : Nat, k ≤ l.length ∧ i = .int .i64 k ∧ badFrom l 0 = badFrom (l.drop k) k) (fun i => l.length - (intOf i).toNat)
  case atStart => exact ⟨0, Nat.zero_le _, rfl, rfl⟩
  case round =>
    obtain ⟨k, hk, rfl, hf⟩ := hrel
    have HF := Lib.hid hf
    clear hf
    by_cases hlt : k < l.length
    · have hcell := HC.out k hlt
      have hstep := badFrom_step l k hlt
      generalize l.getD k 0 = x at *
      have HS := Lib.hid hstep
      clear hstep
      go_wp2_with fail
      refine (bad_any _ _).mono ?_
      rintro e z ⟨rfl, rfl⟩
      by_cases hb : badN x = true
      · go_wp2
        go_ret
        exact ⟨by rw [HF.out, HS.out, if_pos hb]; rfl, rfl⟩
      · have hb2 : badN x = false := by simpa using hb
        go_wp2
        refine ⟨⟨k + 1, by omega, by go_num, ?_⟩, by simp [intOf]; omega⟩
        rw [HF.out, HS.out, if_neg hb]; rfl
    · go_wp2
      go_ret
      exact ⟨by rw [HF.out, List.drop_of_length_le (by omega)]; rfl, rfl⟩

theorem contains_any (l : List Int) (g c : Nat) (w : World) (hl : l.length ≤ 1000000) (hc : ∀ k, k < l.length → w.cell? ⟨g, k, none⟩ = some (.int .i64 (l.getD k 0))) :
    Calls Try.prog 38 #[.slice (some ⟨g, 0, none⟩) l.length c, .func (.func 39) #[] #[]] w fun e w' => e = .returned (.bool (decide (0 ≤ badFrom l 0))) ∧ w = w' := by
  have H := Lib.hid (index_any l g c w hl hc)
  clear hc
  go_enter Try.func38, Try.ntmps38
  go_wp2_with (go_at_call 65; refine H.out.mono ?_; rintro e w' ⟨rfl, rfl⟩)
  go_ret
  exact ⟨rfl, rfl⟩
set_option maxRecDepth 30000 in
theorem right_any (a b c d : Int) (w : World) : Calls Try.prog 12 #[.agg #[.int .i64 a, .int .i64 b, .int .i64 c, .int .i64 d]] w fun e w' => e = .returned (.bool (!(decide (0 ≤ badFrom [a, b, c, d] 0)))) ∧ Ext w w' := by
  have hN := Lib.hid (fun w => numbers_any a b c d w)
  go_enter Try.func12, Try.ntmps12
  go_wp2_with fail
  refine (hN.out _).mono ?_
  rintro e z ⟨g, rfl, hx, hg1, hg2, hc⟩
  have hcc : ∀ k, k < 4 → z.cell? ⟨g, k, none⟩ = some (.int .i64 ([a, b, c, d].getD k 0)) := by
    intro k hk
    rw [hc]
    have : k = 0 ∨ k = 1 ∨ k = 2 ∨ k = 3 := by omega
    rcases this with rfl | rfl | rfl | rfl <;> rfl
  have hK := Lib.hid (contains_any [a, b, c, d] g 4 z (by simp) hcc)
  have HX := Lib.hid hx
  clear hcc hc hx
  go_wp2_with fail
  refine hK.out.mono ?_
  rintro e z2 ⟨rfl, rfl⟩
  go_wp2
  go_ret
  exact ⟨rfl, Ext.trans (by repeat (first | (with_reducible exact Ext.refl _) | (with_reducible assumption) | (with_reducible refine Ext.drewN ?_ _) | (with_reducible refine Ext.drew ?_) | (with_reducible refine Ext.alloc ?_ _) | (refine Ext.trans ?_ (by with_reducible assumption)))) HX.out⟩

/-- Is an id right? -/
def idOk (a b c d : Int) : Bool := !badN a && !badN b && !badN c && !badN d
theorem badN_false {n : Int} : badN n = false ↔ 0 ≤ n ∧ n ≤ 2147483647 := by
  unfold badN
  simp
theorem idOk_iff {a b c d : Int} : idOk a b c d = true ↔ (0 ≤ a ∧ a ≤ 2147483647) ∧ (0 ≤ b ∧ b ≤ 2147483647) ∧ (0 ≤ c ∧ c ≤ 2147483647) ∧ 0 ≤ d ∧ d ≤ 2147483647 := by
  rw [← badN_false, ← badN_false, ← badN_false, ← badN_false]
  simp [idOk, and_assoc]
theorem right_eq (a b c d : Int) : (!(decide (0 ≤ badFrom [a, b, c, d] 0))) = idOk a b c d := by
  cases h1 : badN a <;> cases h2 : badN b <;> cases h3 : badN c <;> cases h4 : badN d <;> simp [badFrom, idOk, h1, h2, h3, h4]
theorem fragRight (a b c d : Int) (w : World) : Calls Try.prog 12 #[.agg #[.int .i64 a, .int .i64 b, .int .i64 c, .int .i64 d]] w fun e w' => e = .returned (.bool (idOk a b c d)) ∧ Ext w w' := by
  rw [← right_eq]; exact right_any a b c d w
end Go.Proofs.Ytlihjhalbemfmaa
