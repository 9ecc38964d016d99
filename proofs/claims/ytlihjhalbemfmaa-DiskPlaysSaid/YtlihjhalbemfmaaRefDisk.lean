/- The reference's disk: found, counted, compared. -/
import Derived.Test.YtlihjhalbemfmaaLawRooms
namespace Go.Proofs.Ytlihjhalbemfmaa
open Go.RowKit

theorem toList_inj {a b : ByteArray} (h : a.toList = b.toList) : a = b := by
  rw [ByteArray.toList_eq, ByteArray.toList_eq] at h
  exact ByteArray.ext (Array.toList_inj.1 h)

theorem TextsAt.ext {w w' : World} {p : Option Addr} {ss : List ByteArray} (h : TextsAt w p ss) (hx : Ext w w') : TextsAt w' p ss := by
  rcases h with h | ⟨b, off, hp, hb, hc⟩
  · exact .inl h
  · exact .inr ⟨b, off, hp, Nat.lt_of_lt_of_le hb hx.size, fun i hi => by rw [hx.cellAt hb]; exact hc i hi⟩
theorem TextsAt.but {w w' : World} {p : Option Addr} {ss : List ByteArray} {b' : Nat} {es : Array MapEntry} {clock : Nat} (h : TextsAt w p ss) (hm : w.heap[b']? = some (.map es clock)) (hx : But (· = b') w w') : TextsAt w' p ss := by
  rcases h with h | ⟨b, off, hp, hb, hc⟩
  · exact .inl h
  · cases ss with
    | nil => exact .inl rfl
    | cons s ss =>
      have hne : b ≠ b' := by
        rintro rfl
        have := hc 0 (by simp)
        simp [World.cell?, hm] at this
      exact .inr ⟨b, off, hp, Nat.lt_of_lt_of_le hb hx.size, fun i hi => by rw [hx.cellAt hb hne]; exact hc i hi⟩

def names (r : Held) : List ByteArray := r.map (·.1)
def bodies (r : Held) : List ByteArray := r.map (·.2)
/-- The place of a name. -/
def findR : Held → ByteArray → Nat → Int
  | [], _, _ => -1
  | p :: r, k, i => if p.1 = k then (i : Int) else findR r k (i + 1)
theorem findR_step {r : Held} {j : Nat} (h : j < r.length) (k : ByteArray) : findR (r.drop j) k j = if (names r).getD j ⟨#[]⟩ = k then (j : Int) else findR (r.drop (j + 1)) k (j + 1) := by
  rw [List.drop_eq_getElem_cons h, findR]
  simp [names, h]

set_option maxRecDepth 30000 in
theorem find_any (size : Int) (r : Held) (p q : Option Addr) (cn cq : Nat) (k : ByteArray) (w : World) (hl : r.length ≤ 1000000) (hN : TextsAt w p (names r)) :
    Calls Try.prog 52 #[.agg #[.int .i64 size, .slice p r.length cn, .slice q r.length cq], .string k] w fun e w' => e = .returned (.int .i64 (findR r k 0)) ∧ Ext w w' := by
  have HN := Lib.hid hN
  clear hN
  go_enter Try.func52, Try.ntmps52
  go_wp2_with fail
  go_loopw [5] (fun i wr => ∃ j : Nat, j ≤ r.length ∧ i = .int .i64 j ∧ findR r k 0 = findR (r.drop j) k j ∧ Ext (w.alloc (.cells #[.int .i64 size, .slice p r.length cn, .slice q r.length cq] 58)) wr) (fun i _ => r.length - (intOf i).toNat)
  case atStart => exact ⟨0, Nat.zero_le _, rfl, rfl, Ext.refl _⟩
  case round =>
    obtain ⟨j, hj, rfl, hf, hx⟩ := hrel
    have HF := Lib.hid hf
    have HX := Lib.hid hx
    have hc := hx.cellAt (b := w.heap.size) (by simp)
    have E0 := Lib.hid (Ext.trans (by repeat (first | (with_reducible exact Ext.refl _) | (with_reducible assumption) | (with_reducible refine Ext.drewN ?_ _) | (with_reducible refine Ext.drew ?_) | (with_reducible refine Ext.alloc ?_ _) | (refine Ext.trans ?_ (by with_reducible assumption)))) hx : Ext w wr)
    clear hf hx
    by_cases hlt : j < r.length
    · have hst := findR_step hlt k
      have hN := HN.out
      rcases hN with hN | ⟨b, off, rfl, hb, hcell⟩
      · have : r.length = 0 := by have := congrArg List.length hN; simpa [names] using this
        omega
      have hcl : wr.cell? ⟨b, off + j, none⟩ = some (.string ((names r).getD j ⟨#[]⟩)) := by
        rw [E0.out.cellAt hb]; exact hcell j (by simpa [names] using hlt)
      clear hcell
      generalize (names r).getD j ⟨#[]⟩ = nm at *
      have HST := Lib.hid hst
      clear hst
      by_cases he : nm = k
      · have HRES : Hid (findR r k 0 = j) := HF.out.trans (HST.out.trans (if_pos he))
        clear HST HF
        subst he
        go_wp2
        go_ret
        exact ⟨by rw [HRES.out]; rfl, E0.out⟩
      · have hne : ¬ nm.toList = k.toList := fun h => he (toList_inj h)
        have hne2 : (nm.toList == k.toList) = false := by simpa using hne
        clear hne
        go_wp2
        go_roundw
        case rel => exact ⟨j + 1, by omega, by go_num, by rw [HF.out, HST.out, if_neg he], HX.out⟩
        case measure => simp [intOf]; omega
    · go_wp2
      go_ret
      exact ⟨by rw [HF.out, List.drop_of_length_le (by omega)]; rfl, E0.out⟩

theorem used_step {r : Held} {j : Nat} (h : j < r.length) : used (r.take (j + 1)) = used (r.take j) + (((names r).getD j ⟨#[]⟩).size + ((bodies r).getD j ⟨#[]⟩).size + 16) := by
  rw [List.take_succ_eq_append_getElem h, used_append]
  simp [names, bodies, h, used, takes]
theorem used_take_le (r : Held) (j : Nat) : used (r.take j) ≤ used r := by
  have := congrArg used (List.take_append_drop j r)
  rw [used_append] at this
  omega

set_option maxRecDepth 30000 in
theorem refroom_any (size : Int) (r : Held) (p q : Option Addr) (cn cq : Nat) (w : World) (hl : r.length ≤ 1000000) (h0 : 0 ≤ size) (h1 : size ≤ 4194304) (hu : used r ≤ 1000000000) (hN : TextsAt w p (names r)) (hB : TextsAt w q (bodies r)) :
    Calls Try.prog 26 #[.agg #[.int .i64 size, .slice p r.length cn, .slice q r.length cq]] w fun e w' => e = .returned (.int .i64 (size - used r)) ∧ Ext w w' := by
  have HN := Lib.hid hN
  have HB := Lib.hid hB
  clear hN hB
  go_enter Try.func26, Try.ntmps26
  go_wp2_with fail
  go_loopw [3, 4] (fun o i wr => ∃ j : Nat, j ≤ r.length ∧ i = .int .i64 j ∧ o = .int .i64 (size - used (r.take j)) ∧ Ext (w.alloc (.cells #[.int .i64 size, .slice p r.length cn, .slice q r.length cq] 58)) wr) (fun _ i _ => r.length - (intOf i).toNat)
  case atStart => exact ⟨0, Nat.zero_le _, rfl, by simp [used], Ext.refl _⟩
  case round =>
    obtain ⟨j, hj, rfl, rfl, hx⟩ := hrel
    have HX := Lib.hid hx
    have hc := hx.cellAt (b := w.heap.size) (by simp)
    have E0 := Lib.hid (Ext.trans (by repeat (first | (with_reducible exact Ext.refl _) | (with_reducible assumption) | (with_reducible refine Ext.drewN ?_ _) | (with_reducible refine Ext.drew ?_) | (with_reducible refine Ext.alloc ?_ _) | (refine Ext.trans ?_ (by with_reducible assumption)))) hx : Ext w wr)
    have hlw : w.heap.size < wr.heap.size := by have := hx.size; simp at this; omega
    clear hx
    by_cases hlt : j < r.length
    · have hst := used_step hlt
      have hle := used_take_le r (j + 1)
      have hN := HN.out
      have hB := HB.out
      rcases hN with hN | ⟨b, off, rfl, hb, hcell⟩
      · have : r.length = 0 := by have := congrArg List.length hN; simpa [names] using this
        omega
      rcases hB with hB | ⟨b2, off2, rfl, hb2, hcell2⟩
      · have : r.length = 0 := by have := congrArg List.length hB; simpa [bodies] using this
        omega
      have hcl : wr.cell? ⟨b, off + j, none⟩ = some (.string ((names r).getD j ⟨#[]⟩)) := by
        rw [E0.out.cellAt hb]; exact hcell j (by simpa [names] using hlt)
      have hcl2 : wr.cell? ⟨b2, off2 + j, none⟩ = some (.string ((bodies r).getD j ⟨#[]⟩)) := by
        rw [E0.out.cellAt hb2]; exact hcell2 j (by simpa [bodies] using hlt)
      have hbw : b < wr.heap.size := by omega
      have hbw2 : b2 < wr.heap.size := by omega
      clear hcell hcell2
      generalize (names r).getD j ⟨#[]⟩ = nm at *
      generalize (bodies r).getD j ⟨#[]⟩ = bd at *
      have hu1 : used (r.take j) + (nm.size + bd.size + 16) ≤ 1000000000 := by omega
      have HST := Lib.hid hst
      generalize hut : used (r.take j) = u at *
      have HUT := Lib.hid hut
      clear hst hle hut
      have hw1 : wrap64 (size - u - nm.size) = size - u - nm.size := by unfold wrap64; omega
      have hw2 : wrap64 (size - u - nm.size - bd.size) = size - u - nm.size - bd.size := by unfold wrap64; omega
      have hw3 : wrap64 (size - u - nm.size - bd.size - 16) = size - u - nm.size - bd.size - 16 := by unfold wrap64; omega
      go_wp2_with fail
      refine wp_region_Rt Ext Ext.refl (by kernel_rfl) ?_
      repeat (refine Rt.takeU Ext.refl (fun _ _ _ => Ext.trans) rfl rfl (by kernel_rfl) (fun K hK => ?_); apply Exists.intro; refine ⟨fun x hx => ?_, ?_⟩; (next => have HX := Lib.hid hx; have hc0 := Ext.cellAt hx (b := w.heap.size) (by first | omega | (simp; done) | (simp; omega)); have hc1 := Ext.cellAt hx (b := b) (by first | omega | (simp; done) | (simp; omega)); have hc2 := Ext.cellAt hx (b := b2) (by first | omega | (simp; done) | (simp; omega)); clear hx; go_simp; first | done | ((try go_ints); first | done | rfl | (fail))); go_simp; refine hK _ ?_; clear hK K)
      refine Rt.done (by kernel_rfl) (fun z hz => ?_)
      have HZ := Lib.hid (Ext.trans (by repeat (first | (with_reducible exact HX.out) | (with_reducible refine Ext.drewN ?_ _) | (with_reducible refine Ext.drew ?_) | (with_reducible refine Ext.setCell ?_ (by first | omega | (simp; done) | (simp; omega)) _) | (with_reducible refine Ext.alloc ?_ _))) hz : Ext (w.alloc (.cells #[.int .i64 size, .slice (some ⟨b, off, none⟩) r.length cn, .slice (some ⟨b2, off2, none⟩) r.length cq] 58)) z)
      clear hz
      go_wp2
      go_roundw
      case rel => exact ⟨j + 1, by omega, by go_num, by rw [HST.out]; go_num, HZ.out⟩
      case measure => simp [intOf]; omega
    · obtain rfl : j = r.length := by omega
      rw [List.take_length]
      go_wp2
      go_ret
      exact ⟨rfl, E0.out⟩

/-- Are two lists of texts the same? -/
def sameFrom (a b : List ByteArray) : Bool := a == b
end Go.Proofs.Ytlihjhalbemfmaa
