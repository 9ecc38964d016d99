/- Calls, few of them. -/
import Derived.Test.YtlihjhalbemfmaaDiskMore
namespace Go.Proofs.Ytlihjhalbemfmaa
open Go.RowKit

/-- A call. -/
structure Call where
  kind : Int
  name : ByteArray
  s : ByteArray
  spot : Int
  by' : Int
def Call.v (c : Call) : Value := .agg #[.int .u8 c.kind, .string c.name, .string c.s, .int .i64 c.spot, .int .u8 c.by']
instance : Inhabited Call := ⟨⟨0, ⟨#[]⟩, ⟨#[]⟩, 0, 0⟩⟩

structure CallAt (w : World) (b o : Nat) (c : Call) : Prop where
  c0 : w.cell? ⟨b, o, none⟩ = some (.int .u8 c.kind)
  c1 : w.cell? ⟨b, o + 1, none⟩ = some (.string c.name)
  c2 : w.cell? ⟨b, o + 2, none⟩ = some (.string c.s)
  c3 : w.cell? ⟨b, o + 3, none⟩ = some (.int .i64 c.spot)
  c4 : w.cell? ⟨b, o + 4, none⟩ = some (.int .u8 c.by')
def CallsAt (w : World) (p : Option Addr) (l : List Call) : Prop :=
  l = [] ∨ ∃ b off, p = some ⟨b, off, none⟩ ∧ b < w.heap.size ∧ ∀ i, i < l.length → CallAt w b (off + i * 5) (l.getD i default)
theorem CallAt.ext {w w' : World} {b o : Nat} {c : Call} (h : CallAt w b o c) (hx : Ext w w') (hb : b < w.heap.size) : CallAt w' b o c :=
  ⟨by rw [hx.cellAt hb]; exact h.c0, by rw [hx.cellAt hb]; exact h.c1, by rw [hx.cellAt hb]; exact h.c2, by rw [hx.cellAt hb]; exact h.c3, by rw [hx.cellAt hb]; exact h.c4⟩

def weigh (c : Call) : Nat := min c.s.size 100000 + min c.name.size 100000
def weights (l : List Call) : Nat := (l.map weigh).sum
theorem weights_step {l : List Call} {j : Nat} (h : j < l.length) : weights (l.take (j + 1)) = weights (l.take j) + (min (l.getD j default).s.size 100000 + min (l.getD j default).name.size 100000) := by
  unfold weights
  rw [List.take_succ_eq_append_getElem h, List.map_append, List.sum_append]
  simp [weigh, h]
theorem weights_le (l : List Call) : weights l ≤ 200000 * l.length := by
  induction l with
  | nil => simp [weights]
  | cons c l ih =>
    unfold weights at *
    simp only [List.map_cons, List.sum_cons, List.length_cons]
    have : weigh c ≤ 200000 := by unfold weigh; omega
    omega

set_option maxRecDepth 30000 in
theorem few_any (l : List Call) (p : Option Addr) (c : Nat) (w : World) (hl : l.length ≤ 9223372036854775807) (hL : CallsAt w p l) :
    Calls Try.prog 23 #[.slice p l.length c] w fun e w' => e = .returned (.bool (decide (l.length ≤ 100) && decide (weights (l.take 101) ≤ 20000))) ∧ Ext w w' := by
  have HL := Lib.hid hL
  clear hL
  go_enter Try.func23, Try.ntmps23
  go_wp2_with fail
  go_loopw [3, 4] (fun n i wr => ∃ j : Nat, j ≤ l.length ∧ j ≤ 101 ∧ i = .int .i64 j ∧ n = .int .i64 (weights (l.take j)) ∧ Ext w wr) (fun _ i _ => 101 - (intOf i).toNat)
  case atStart => exact ⟨0, Nat.zero_le _, by omega, rfl, by simp [weights], Ext.refl _⟩
  case round =>
    obtain ⟨j, hj, hj1, rfl, rfl, hx⟩ := hrel
    have HX := Lib.hid hx
    clear hx
    have hw := weights_le (l.take j)
    rw [List.length_take, Nat.min_eq_left hj] at hw
    by_cases hlt : j < l.length ∧ j ≤ 100
    · obtain ⟨hlt, hle⟩ := hlt
      have hst := weights_step hlt
      rcases HL.out with h | ⟨b, off, rfl, hb, hcell⟩
      · rw [h] at hlt; simp at hlt
      have hat := (hcell j hlt).ext HX.out hb
      clear hcell
      generalize l.getD j default = x at *
      obtain ⟨k0, nm, s, a0, b0⟩ := x
      have hcl1 := hat.c1
      have hcl2 := hat.c2
      simp only at hcl1 hcl2 hst
      have hbw : b < wr.heap.size := by have := HX.out.size; omega
      have HST := Lib.hid hst
      clear hst hat
      generalize weights (l.take j) = n at *
      go_wp2_with fail
      refine wp_region_Rt Ext Ext.refl (by kernel_rfl) ?_
      repeat (refine Rt.takeU Ext.refl (fun _ _ _ => Ext.trans) rfl rfl (by kernel_rfl) (fun K hK => ?_); apply Exists.intro; refine ⟨fun x hx => ?_, ?_⟩; (next => have HX := Lib.hid hx; have hc0 := Ext.cellAt hx (b := b) (by first | omega | (simp; done) | (simp; omega)); clear hx; go_simp; first | done | ((try go_ints); first | done | rfl | (fail))); go_simp; refine hK _ ?_; clear hK K)
      refine Rt.done (by kernel_rfl) (fun z hz => ?_)
      have HZ := Lib.hid (Ext.trans (by repeat (first | (with_reducible exact HX.out) | (with_reducible refine Ext.drewN ?_ _) | (with_reducible refine Ext.drew ?_) | (with_reducible refine Ext.setCell ?_ (by first | omega | (simp; done) | (simp; omega)) _) | (with_reducible refine Ext.alloc ?_ _))) hz : Ext w z)
      clear hz
      go_wp2
      go_roundw
      case rel => exact ⟨j + 1, by omega, by omega, by go_num, by rw [HST.out]; go_num, HZ.out⟩
      case measure => simp [intOf]; omega
    · have he : l.take 101 = l.take j := by
        rcases Nat.lt_or_ge j l.length with h | h
        · obtain rfl : j = 101 := by omega
          rfl
        · rw [List.take_of_length_le (by omega), List.take_of_length_le h]
      have HEE := Lib.hid he
      clear he
      generalize hgw : weights (l.take j) = n at *
      have HGW := Lib.hid hgw
      clear hgw
      by_cases h1 : l.length ≤ 100
      · obtain rfl : j = l.length := by omega
        clear hlt
        by_cases h2 : n ≤ 20000
        all_goals
          go_wp2
          go_ret
          exact ⟨by rw [HEE.out, HGW.out]; simp [h1, h2]; omega, HX.out⟩
      · obtain rfl : j = 101 := by omega
        clear hlt
        go_wp2
        all_goals
          go_ret
          exact ⟨by simp, HX.out⟩
end Go.Proofs.Ytlihjhalbemfmaa
