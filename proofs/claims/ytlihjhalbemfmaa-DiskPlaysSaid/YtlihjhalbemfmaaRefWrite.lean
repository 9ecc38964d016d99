/- The reference's disk is written to. -/
import Derived.Test.YtlihjhalbemfmaaRefWithout
namespace Go.Proofs.Ytlihjhalbemfmaa
open Go.RowKit

/-- A value of the reference's disk. -/
def RefV (w : World) (v : Value) (size : Int) (r : Held) : Prop :=
  ∃ p cn q cq, v = .agg #[.int .i64 size, .slice p r.length cn, .slice q r.length cq] ∧ TextsAt w p (names r) ∧ TextsAt w q (bodies r)

theorem refV_rows {w : World} {base : Nat} {size : Int} {nv hv : Value} {r : Held} (h1 : w.ownsRow base 9 1 nv (names r).length (strsV (names r))) (h2 : w.ownsRow base 9 1 hv (bodies r).length (strsV (bodies r))) : RefV w (.agg #[.int .i64 size, nv, hv]) size r := by
  obtain ⟨p, cn, rfl, hp⟩ := texts_of_row h1
  obtain ⟨q, cq, rfl, hq⟩ := texts_of_row h2
  exact ⟨p, cn, q, cq, by simp [names, bodies], hp, hq⟩
theorem RefV.ext {w w' : World} {v : Value} {size : Int} {r : Held} (h : RefV w v size r) (hx : Ext w w') : RefV w' v size r := by
  obtain ⟨p, cn, q, cq, e, h1, h2⟩ := h
  exact ⟨p, cn, q, cq, e, h1.ext hx, h2.ext hx⟩

/-- Is a text behind another one? -/
def gtB (a b : ByteArray) : Bool := !(Op.bytesLess a.toList b.toList) && !(a.toList == b.toList)
def insStep (k s : ByteArray) (st : Held × Bool) (p : ByteArray × ByteArray) : Held × Bool :=
  if !st.2 && gtB p.1 k then (st.1 ++ [(k, s), p], true) else (st.1 ++ [p], st.2)
def insTo (k s : ByteArray) (m : Held) (j : Nat) : Held × Bool := (m.take j).foldl (insStep k s) ([], false)
def insertR (k s : ByteArray) (m : Held) : Held := let st := insTo k s m m.length; if st.2 then st.1 else st.1 ++ [(k, s)]
theorem insTo_step {m : Held} {j : Nat} (h : j < m.length) (k s : ByteArray) : insTo k s m (j + 1) = insStep k s (insTo k s m j) ((names m).getD j ⟨#[]⟩, (bodies m).getD j ⟨#[]⟩) := by
  unfold insTo
  rw [List.take_succ_eq_append_getElem h, List.foldl_append]
  simp [names, bodies, h]
theorem insTo_len (k s : ByteArray) (m : Held) : ∀ j, (insTo k s m j).1.length ≤ 2 * j
  | 0 => by simp [insTo]
  | j + 1 => by
    by_cases h : j < m.length
    · rw [insTo_step h]
      have := insTo_len k s m j
      unfold insStep
      split <;> simp <;> omega
    · have e : m.take (j + 1) = m.take j := by rw [List.take_of_length_le (by omega), List.take_of_length_le (by omega)]
      have := insTo_len k s m j
      unfold insTo at *
      rw [e]; omega

theorem used_sub {a b : Held} (h : a.Sublist b) : used a ≤ used b := by
  induction h with
  | slnil => exact Nat.le_refl _
  | cons p _ ih => rw [used_cons]; omega
  | cons_cons p _ ih => rw [used_cons, used_cons]; omega

theorem name_ne {r m : Held} {k : ByteArray} (h : dropAt r k = m) {j : Nat} (hj : j < m.length) : ¬ (names m).getD j ⟨#[]⟩ = k := by
  have hm : m[j] ∈ dropAt r k := by rw [h]; exact List.getElem_mem hj
  have := (List.mem_filter.1 hm).2
  simp [names, hj] at this ⊢
  exact this

theorem refwrite_bad (size : Int) (r : Held) (p q : Option Addr) (cn cq : Nat) (k s : ByteArray) (w : World) (hk : k.size = 0 ∨ 64 < k.size) :
    Calls Try.prog 54 #[.agg #[.int .i64 size, .slice p r.length cn, .slice q r.length cq], .string k, .string s] w fun e w' => e = .returned (.tuple #[.agg #[.int .i64 size, .slice p r.length cn, .slice q r.length cq], .int .i64 1]) ∧ Ext w w' := by
  generalize r.length = n
  rcases hk with hk | hk
  · obtain rfl : k = ByteArray.empty := by
      apply ByteArray.ext; exact Array.eq_empty_of_size_eq_zero hk
    go_enter Try.func54, Try.ntmps54
    go_wp2
    exact bodyPost_ret (v := .tuple #[.agg #[.int .i64 size, .slice p n cn, .slice q n cq], .int .i64 1]) (by simp only [results, Try.results54]; go_simp) rfl ⟨rfl, by repeat (first | (with_reducible exact Ext.refl _) | (with_reducible refine Ext.drewN ?_ _) | (with_reducible refine Ext.drew ?_) | (with_reducible refine Ext.setCell ?_ (by first | omega | (simp; done) | (simp; omega)) _) | (with_reducible refine Ext.alloc ?_ _))⟩
  · obtain ⟨hne, hne1⟩ := str_ne (t := k) (by omega)
    go_enter Try.func54, Try.ntmps54
    go_wp2
    exact bodyPost_ret (v := .tuple #[.agg #[.int .i64 size, .slice p n cn, .slice q n cq], .int .i64 1]) (by simp only [results, Try.results54]; go_simp) rfl ⟨rfl, by repeat (first | (with_reducible exact Ext.refl _) | (with_reducible refine Ext.drewN ?_ _) | (with_reducible refine Ext.drew ?_) | (with_reducible refine Ext.setCell ?_ (by first | omega | (simp; done) | (simp; omega)) _) | (with_reducible refine Ext.alloc ?_ _))⟩

set_option maxRecDepth 30000 in
theorem refwrite_full (size : Int) (r : Held) (p q : Option Addr) (cn cq : Nat) (k s : ByteArray) (w : World) (hl : r.length ≤ 1000000) (h0 : 0 ≤ size) (h1 : size ≤ 4194304) (hu : used r ≤ 100000000) (hk0 : 0 < k.size) (hk1 : k.size ≤ 64) (hs : s.size ≤ 100000000)
    (hN : TextsAt w p (names r)) (hB : TextsAt w q (bodies r)) (hf : size - used (dropAt r k) < k.size + s.size + 16) :
    Calls Try.prog 54 #[.agg #[.int .i64 size, .slice p r.length cn, .slice q r.length cq], .string k, .string s] w fun e w' => e = .returned (.tuple #[.agg #[.int .i64 size, .slice p r.length cn, .slice q r.length cq], .int .i64 9]) ∧ Ext w w' := by
  have hm : (dropAt r k).length ≤ 1000000 := Nat.le_trans (drop_sub r k).length_le hl
  have hum : used (dropAt r k) ≤ 1000000000 := by
    have := used_sub (drop_sub r k)
    omega
  have hW := Lib.hid (fun w hN hB => without_any size r p q cn cq k w hl hN hB)
  have hR := Lib.hid (fun p q cn cq w hN hB => refroom_any size (dropAt r k) p q cn cq w hm h0 h1 hum hN hB)
  have HN := Lib.hid hN
  have HB := Lib.hid hB
  obtain ⟨hne, hne1⟩ := str_ne hk0
  clear hN hB
  go_enter Try.func54, Try.ntmps54
  go_wp2_with fail
  refine (hW.out _ (HN.out.ext (by repeat (first | (with_reducible exact Ext.refl _) | (with_reducible assumption) | (with_reducible refine Ext.drewN ?_ _) | (with_reducible refine Ext.drew ?_) | (with_reducible refine Ext.alloc ?_ _) | (refine Ext.trans ?_ (by with_reducible assumption))))) (HB.out.ext (by repeat (first | (with_reducible exact Ext.refl _) | (with_reducible assumption) | (with_reducible refine Ext.drewN ?_ _) | (with_reducible refine Ext.drew ?_) | (with_reducible refine Ext.alloc ?_ _) | (refine Ext.trans ?_ (by with_reducible assumption)))))).mono ?_
  rintro e z ⟨nv, hv, rfl, hrn, hrb, hz⟩
  obtain ⟨p1, c1, rfl, ht1⟩ := texts_of_row hrn
  obtain ⟨p2, c2, rfl, ht2⟩ := texts_of_row hrb
  have hnl : (names (dropAt r k)).length = (dropAt r k).length := by simp [names]
  have hbl : (bodies (dropAt r k)).length = (dropAt r k).length := by simp [bodies]
  rw [hnl, hbl]
  have T1 := Lib.hid ht1
  have T2 := Lib.hid ht2
  have E1 : Ext w z := Ext.trans (by repeat (first | (with_reducible exact Ext.refl _) | (with_reducible assumption) | (with_reducible refine Ext.drewN ?_ _) | (with_reducible refine Ext.drew ?_) | (with_reducible refine Ext.alloc ?_ _) | (refine Ext.trans ?_ (by with_reducible assumption)))) hz
  have hcz0 := Ext.cellAt hz (b := w.heap.size) (by first | omega | (simp; done) | (simp; omega)); have hfz0 := Ext.frozenAt hz (b := w.heap.size) (by first | omega | (simp; done) | (simp; omega)); have hlz0 : w.heap.size < z.heap.size := (by have := Ext.size hz; first | omega | (simp at *; omega)); have hcz1 := Ext.cellAt hz (b := w.heap.size + 1) (by first | omega | (simp; done) | (simp; omega)); have hfz1 := Ext.frozenAt hz (b := w.heap.size + 1) (by first | omega | (simp; done) | (simp; omega)); have hlz1 : w.heap.size + 1 < z.heap.size := (by have := Ext.size hz; first | omega | (simp at *; omega))
  clear hz hrn hrb ht1 ht2 hnl hbl
  generalize (dropAt r k).length = n1 at *
  generalize used (dropAt r k) = u at *
  go_wp2_with fail
  refine (hR.out _ _ _ _ _ (T1.out.ext (by repeat (first | (with_reducible exact Ext.refl _) | (with_reducible assumption) | (with_reducible refine Ext.drewN ?_ _) | (with_reducible refine Ext.drew ?_) | (with_reducible refine Ext.alloc ?_ _) | (refine Ext.trans ?_ (by with_reducible assumption))))) (T2.out.ext (by repeat (first | (with_reducible exact Ext.refl _) | (with_reducible assumption) | (with_reducible refine Ext.drewN ?_ _) | (with_reducible refine Ext.drew ?_) | (with_reducible refine Ext.alloc ?_ _) | (refine Ext.trans ?_ (by with_reducible assumption)))))).mono ?_
  rintro e z2 ⟨rfl, hz2⟩
  have E2 : Ext w z2 := Ext.trans (by repeat (first | (with_reducible exact E1) | (with_reducible refine Ext.drewN ?_ _) | (with_reducible refine Ext.drew ?_) | (with_reducible refine Ext.setCell ?_ (by first | omega | (simp; done) | (simp; omega)) _) | (with_reducible refine Ext.alloc ?_ _))) hz2
  have hcz20 := Ext.cellAt hz2 (b := w.heap.size) (by first | omega | (simp; done) | (simp; omega)); have hfz20 := Ext.frozenAt hz2 (b := w.heap.size) (by first | omega | (simp; done) | (simp; omega)); have hlz20 : w.heap.size < z2.heap.size := (by have := Ext.size hz2; first | omega | (simp at *; omega)); have hcz21 := Ext.cellAt hz2 (b := w.heap.size + 1) (by first | omega | (simp; done) | (simp; omega)); have hfz21 := Ext.frozenAt hz2 (b := w.heap.size + 1) (by first | omega | (simp; done) | (simp; omega)); have hlz21 : w.heap.size + 1 < z2.heap.size := (by have := Ext.size hz2; first | omega | (simp at *; omega))
  clear hz2
  go_wp2
  exact bodyPost_ret (v := .tuple #[.agg #[.int .i64 size, .slice p r.length cn, .slice q r.length cq], .int .i64 9]) (by simp only [results, Try.results54]; go_simp) rfl ⟨rfl, by repeat (first | (with_reducible exact E2) | (with_reducible refine Ext.drewN ?_ _) | (with_reducible refine Ext.drew ?_) | (with_reducible refine Ext.setCell ?_ (by first | omega | (simp; done) | (simp; omega)) _) | (with_reducible refine Ext.alloc ?_ _))⟩
end Go.Proofs.Ytlihjhalbemfmaa
