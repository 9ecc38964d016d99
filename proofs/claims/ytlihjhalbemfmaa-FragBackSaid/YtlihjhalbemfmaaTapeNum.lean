/- The bytes of a number, and of a text with its length ahead. -/
import Derived.Test.YtlihjhalbemfmaaKit
import Derived.OwnWalk
import Derived.Laws.BytesArg
import Derived.Laws.OwnMore
import Derived.Lib.SmallJoins
namespace Go.Proofs.Ytlihjhalbemfmaa
open Go.RowKit

/-- A number's bytes. -/
def numB (n : Nat) : List Int := if n < 128 then [(n : Int)] else ((n % 128 + 128 : Nat) : Int) :: numB (n / 128)
theorem numB_small {n : Nat} (h : n < 128) : numB n = [(n : Int)] := by rw [numB, if_pos h]
theorem numB_big {n : Nat} (h : ¬ n < 128) : numB n = ((n % 128 + 128 : Nat) : Int) :: numB (n / 128) := by rw [numB, if_neg h]
theorem numB_length (k : Nat) : ∀ n : Nat, n < 128 ^ (k + 1) → (numB n).length ≤ k + 1 := by
  induction k with
  | zero => intro n h; rw [numB_small (by simpa using h)]; simp
  | succ k ih =>
    intro n h
    by_cases hn : n < 128
    · rw [numB_small hn]; simp
    · rw [numB_big hn]
      have := ih (n / 128) (by rw [Nat.div_lt_iff_lt_mul (by decide)]; rw [Nat.pow_succ] at h; exact h)
      simp; omega

theorem info_uint8 : (Try.prog.info? 5).map (fun i => (i.zero, i.size, i.bytes)) = some (some (.int .u8 0), 1, 1) := by kernel_rfl

theorem convOwn (w : World) (B : Nat) (v : Value) (xs : List Int) (n : Nat) (h : w.ownsRow B 5 1 v n (xs.map (Value.int .u8))) (hn : 0 < n) :
    (convert 99 9 v).run Try.prog w = .ok (.string (strOfNums xs)) w := by
  obtain ⟨g, cap, rfl⟩ := Go.Joins.ownsRow_form h hn
  have hl : xs.length = n := by simpa using h.1
  exact run_convert_bytes_arg (P := Try.prog) w 99 5 Try.underlying99 Try.underlying5 g 0 n cap xs hl (fun i hi => by
    rw [Nat.zero_add, h.cellAt i (by omega)]
    rw [List.getElem?_map, List.getElem?_eq_getElem (by omega)]
    simp [hl, hi]) 9 Try.underlying9

theorem grown_ext {a w w' : World} {B : Nat} {v : Value} (h : Ext a w) (hg : w.grownBy w' v.ownBlock) (hr : ∀ k, v.ownBlock = some k → a.heap.size ≤ k ∧ k < B) : Ext a w' :=
  Below.grown h hg h.size fun k hk => (hr k hk).1
theorem one_cell (k : IntKind) (x : Int) : ∀ u ∈ [Value.int k x], u.oneCell' = true := by
  intro u hu; simp at hu; subst hu; rfl
theorem one_at (w : World) (v : Value) (t : TypeId) : ∀ j u, [v][j]? = some u → (w.alloc (.cells #[v] t)).cell? ((⟨w.heap.size, 0, none⟩ : Addr).add j) = some u := by
  intro j u hj
  match j, hj with
  | 0, hj => simp at hj; subst hj; simp [Addr.add]

set_option maxRecDepth 30000 in
theorem tapeNum_any (n : Int) (w : World) (h0 : 0 ≤ n) (h1 : n ≤ 9007199254740991) :
    Calls Try.prog 35 #[.int .i64 n] w fun e w' => e = .returned (.string (strOfNums (numB n.toNat))) ∧ Ext w w' := by
  obtain ⟨i0, hi, hz0, hz1, hz2⟩ := info_parts info_uint8
  have hlen : (numB n.toNat).length ≤ 8 := numB_length 7 _ (by omega)
  generalize hB : numB n.toNat = bs at *
  have HB := Lib.hid hB
  have HL := Lib.hid hlen
  have HI := Lib.hid hi
  have Z0 := Lib.hid hz0
  have Z1 := Lib.hid hz1
  have Z2 := Lib.hid hz2
  clear hB hlen hi hz0 hz1 hz2
  go_enter Try.func35, Try.ntmps35
  go_wp2_with fail
  go_loopw [0, 3] (fun x v wr => ∃ (m : Int) (acc : List Int), 0 ≤ m ∧ m ≤ 9007199254740991 ∧ x = .int .i64 m ∧ acc ++ numB m.toNat = bs ∧ wr.ownsRow w.heap.size 5 1 v acc.length (acc.map (Value.int .u8)) ∧ Ext w wr) (fun x _ _ => (intOf x).toNat)
  case atStart => exact ⟨n, [], h0, h1, rfl, HB.out, World.ownsRow_nil _ _ _ _, by repeat (first | (with_reducible exact Ext.refl _) | (with_reducible assumption) | (with_reducible refine Ext.drewN ?_ _) | (with_reducible refine Ext.drew ?_) | (with_reducible refine Ext.alloc ?_ _) | (refine Ext.trans ?_ (by with_reducible assumption)))⟩
  case round =>
    obtain ⟨m, acc, hm0, hm1, rfl, hacc, hown, hx⟩ := hrel
    have hal : acc.length + (numB m.toNat).length ≤ 8 := by
      have := congrArg List.length hacc
      have h8 := HL.out
      simp at this
      omega
    have hpos : 1 ≤ (numB m.toNat).length := by rw [numB]; split <;> simp
    have HAL := Lib.hid hal
    have HP := Lib.hid hpos
    have HA := Lib.hid hacc
    have HO := Lib.hid hown
    have HX := Lib.hid hx
    clear hacc hown hx hal hpos
    by_cases hb : 128 ≤ m
    · have hnb : Hid (numB m.toNat = (m % 128 + 128) :: numB (m / 128).toNat) := by
        unfold Hid
        rw [numB_big (by omega)]
        congr 2 <;> omega
      go_wp2_with (at_builtin; refine wpList_append_own _ rfl (.tmp 12) (.tmp 17) 99 rfl w.heap.size 5 i0 (.int .u8 0) 1 1 Try.underlying99 HI.out Z0.out Z1.out Z2.out rfl (by decide) _ _ _ rfl (HO.out.alloc _) ⟨wr.heap.size, 0, none⟩ 1 1 [.int .u8 (m % 128 + 128)] rfl rfl (one_at _ _ _) (one_cell _ _) (by have := HAL.out; have := HP.out; unfold maxLen; omega) (by have := HAL.out; have := HP.out; omega) (by have := HX.out.size; simp; omega) ?_)
      · intro v' w1 hown' hgrow _
        have HO' := Lib.hid hown'
        have HG := Lib.hid hgrow
        clear hown' hgrow
        go_wp2
        go_roundw
        case rel =>
          refine ⟨m / 128, acc ++ [m % 128 + 128], by omega, by omega, rfl, ?_, ?_, ?_⟩
          · rw [List.append_assoc, ← HA.out, hnb.out]; rfl
          · simpa using HO'.out
          · exact grown_ext (HX.out.alloc _) HG.out HO.out.lt
        case measure => simp [intOf]; omega
    · have hnb : Hid (numB m.toNat = [m]) := by
        unfold Hid
        rw [numB_small (by omega)]
        congr 1; omega
      go_wp2_with (at_builtin; refine wpList_append_own _ rfl (.tmp 21) (.tmp 24) 99 rfl w.heap.size 5 i0 (.int .u8 0) 1 1 Try.underlying99 HI.out Z0.out Z1.out Z2.out rfl (by decide) _ _ _ rfl (HO.out.alloc _) ⟨wr.heap.size, 0, none⟩ 1 1 [.int .u8 (m)] rfl rfl (one_at _ _ _) (one_cell _ _) (by have := HAL.out; have := HP.out; unfold maxLen; omega) (by have := HAL.out; have := HP.out; omega) (by have := HX.out.size; simp; omega) ?_)
      · intro v' w1 hown' hgrow _
        have cv := convOwn w1 w.heap.size v' bs (acc.length + 1) (by rw [← HA.out, hnb.out]; simpa using hown') (by omega)
        have HG := Lib.hid hgrow
        clear hown' hgrow
        go_wp2
        go_ret
        exact ⟨rfl, grown_ext (HX.out.alloc _) HG.out HO.out.lt⟩
end Go.Proofs.Ytlihjhalbemfmaa
