/- What the reference says to a call: spoiling. -/
import Derived.Test.YtlihjhalbemfmaaPlainly2
import Derived.Test.YtlihjhalbemfmaaSpoil
namespace Go.Proofs.Ytlihjhalbemfmaa
open Go.RowKit

theorem TextsAt.setAt {w : World} {g i : Nat} {ss : List ByteArray} {s : ByteArray} (h : TextsAt w (some ⟨g, 0, none⟩) ss) (hi : i < ss.length) : TextsAt (w.setCell ⟨g, i, none⟩ (.string s)) (some ⟨g, 0, none⟩) (ss.set i s) := by
  rcases h with h | ⟨b, off, hp, hb, hc⟩
  · rw [h] at hi; simp at hi
  · injection hp with hp
    injection hp with hp1 hp2
    subst hp1 hp2
    refine .inr ⟨g, 0, rfl, by rw [size_setCell]; exact hb, fun j hj => ?_⟩
    rw [List.length_set] at hj
    have hcj := hc j hj
    rw [Nat.zero_add] at hcj ⊢
    by_cases e : j = i
    · subst e
      rw [World.cell?_setCell_same _ _ _ hcj, List.getD_eq_getElem?_getD, List.getElem?_set_self hi]; rfl
    · rw [World.cell?_setCell_other _ _ _ _ (by intro q; cases q; exact e rfl), hcj, List.getD_eq_getElem?_getD, List.getD_eq_getElem?_getD, List.getElem?_set_ne (Ne.symm e)]
theorem TextsAt.other {w w' : World} {b off k : Nat} {ss : List ByteArray} (h : TextsAt w (some ⟨b, off, none⟩) ss) (hne : b ≠ k) (hx : But (· = k) w w') : TextsAt w' (some ⟨b, off, none⟩) ss := by
  rcases h with h | ⟨b', off', hp, hb, hc⟩
  · exact .inl h
  · injection hp with hp
    injection hp with hp1 hp2
    subst hp1 hp2
    exact .inr ⟨b, off, rfl, Nat.lt_of_lt_of_le hb hx.size, fun i hi => by rw [hx.cellAt hb hne]; exact hc i hi⟩

/-- The reference's names with one body changed. -/
def setR (r : Held) (i : Nat) (k s : ByteArray) : Held := r.set i (k, s)
theorem names_setR {r : Held} {i : Nat} {k o s : ByteArray} (h : r[i]? = some (k, o)) : names (setR r i k s) = names r := by
  unfold names setR
  apply List.ext_getElem?
  intro j
  rw [List.getElem?_map, List.getElem?_map]
  by_cases e : i = j
  · subst e
    have hi : i < r.length := (List.getElem?_eq_some_iff.1 h).1
    rw [List.getElem?_set_self hi, h]; rfl
  · rw [List.getElem?_set_ne e]
theorem bodies_setR (r : Held) (i : Nat) (k s : ByteArray) : bodies (setR r i k s) = (bodies r).set i s := by
  unfold bodies setR
  rw [List.map_set]

theorem row_some {w : World} {base : Nat} {e : TypeId} {v : Value} {n : Nat} {xs : List Value} (h : w.ownsRow base e 1 v n xs) (hn : 0 < n) : ∃ g c, v = .slice (some ⟨g, 0, none⟩) n c ∧ base ≤ g ∧ g < w.heap.size ∧ ∀ i, w.frozen? ⟨g, i, none⟩ = false := by
  obtain ⟨_, ⟨hv, h0⟩ | ⟨g, cap, cur, hv, hg, hb, _⟩⟩ := h
  · omega
  · exact ⟨g, cap, hv, hg, (Array.getElem?_eq_some_iff.1 hb).1, fun i => by simp [World.frozen?, hb]⟩

set_option maxRecDepth 30000 in
set_option maxHeartbeats 2000000 in
theorem plainly_spoil_yes (size : Int) (r : Held) (p q : Option Addr) (cn cq : Nat) (c : Call) (w : World) (hl : r.length ≤ 100000) (hN : TextsAt w p (names r)) (hB : TextsAt w q (bodies r)) (hk : 0 ≤ c.kind) (h6 : c.kind % 8 = 6) (o : ByteArray) (i : Nat) (hfi : findR r c.name 0 = (i : Int)) (hri : r[i]? = some (c.name, o)) (ho : 0 < o.size) (ho2 : o.size ≤ 1000000000) (hb0 : ¬ c.by' = 0) (hno : ∀ p ∈ r, p.1 ≠ ⟨#[]⟩) :
    Calls Try.prog 25 #[.agg #[.int .i64 size, .slice p r.length cn, .slice q r.length cq], c.v] w fun e w' => ∃ v, e = .returned (.tuple #[v, .string ⟨#[]⟩, .int .i64 1]) ∧ RefV w' v size (setR r i c.name (spoil o c.spot c.by')) ∧ Ext w w' := by
  obtain ⟨kind, nm, s, spot, byI⟩ := c
  unfold Call.v
  simp only at *
  have hdr : dropAt r ⟨#[]⟩ = r := by
    unfold dropAt
    refine List.filter_eq_self.2 fun p hp => ?_
    have := hno p hp
    simpa using this
  have hF := Lib.hid (fun w hN => find_any size r p q cn cq nm w (by omega) hN)
  have hW := Lib.hid (fun w hN hB => without_full size r p q cn cq ⟨#[]⟩ w (by omega) hN hB)
  rw [hdr] at hW
  rw [hfi] at hF
  have hi : i < r.length := (List.getElem?_eq_some_iff.1 hri).1
  have q4 : (kind % 8 == 4) = false := by simp; omega
  have q5 : (kind % 8 == 5) = false := by simp; omega
  have hbi : (bodies r).getD i ⟨#[]⟩ = o := by simp [bodies, hri]
  have HRI := Lib.hid hri
  have HN := Lib.hid hN
  have HB := Lib.hid hB
  rcases hB with h | ⟨b2, off2, rfl, hb2, hcell2⟩
  · have : r.length = 0 := by have := congrArg List.length h; simpa [bodies] using this
    omega
  have hc2 := hcell2 i (by simpa [bodies] using hi)
  rw [hbi] at hc2
  clear hN hfi hri hbi hcell2 hdr hno
  obtain ⟨hne0, hne1⟩ := str_ne ho
  have hidx := spoilAt_eq ho spot
  have href := tmod_ref (a := spot) (n := (o.size : Int)) (by omega)
  rw [← hidx] at href
  have hbnd := tmod_bounds spot (n := (o.size : Int)) (by omega)
  have hil := spoilAt_lt ho spot
  have HSP : Hid (spoil o spot byI = spoilt o (spoilAt o spot) (bits .xor .u8 (byteAt o (spoilAt o spot)) byI)) := rfl
  generalize spoilAt o spot = ix at *
  clear hidx
  go_enter Try.func25, Try.ntmps25
  go_wp2_with fail
  refine (hF.out _ (HN.out.ext (by repeat (first | (with_reducible exact Ext.refl _) | (with_reducible assumption) | (with_reducible refine Ext.drewN ?_ _) | (with_reducible refine Ext.drew ?_) | (with_reducible refine Ext.alloc ?_ _) | (refine Ext.trans ?_ (by with_reducible assumption)))))).mono ?_
  rintro e z ⟨rfl, hz⟩
  have E1 : Ext w z := Ext.trans (by repeat (first | (with_reducible exact Ext.refl _) | (with_reducible assumption) | (with_reducible refine Ext.drewN ?_ _) | (with_reducible refine Ext.drew ?_) | (with_reducible refine Ext.alloc ?_ _) | (refine Ext.trans ?_ (by with_reducible assumption)))) hz
  have E1H := Lib.hid E1
  have HB4 : Hid (z.heap[w.heap.size + 2]? = some (.cells #[.int .i64 0, .slice none 0 0, .slice none 0 0] 58 (0, 0))) := (Below.block hz (w.heap.size + 2) (by simp)).trans (heap_third _ _ _ _)
  have hcz0 := Ext.cellAt hz (b := w.heap.size) (by first | omega | (simp; done) | (simp; omega)); have hfz0 := Ext.frozenAt hz (b := w.heap.size) (by first | omega | (simp; done) | (simp; omega)); have hlz0 : w.heap.size < z.heap.size := (by have := Ext.size hz; first | omega | (simp at *; omega)); have hcz1 := Ext.cellAt hz (b := w.heap.size + 1) (by first | omega | (simp; done) | (simp; omega)); have hfz1 := Ext.frozenAt hz (b := w.heap.size + 1) (by first | omega | (simp; done) | (simp; omega)); have hlz1 : w.heap.size + 1 < z.heap.size := (by have := Ext.size hz; first | omega | (simp at *; omega)); have hcz2 := Ext.cellAt hz (b := w.heap.size + 1 + 1) (by first | omega | (simp; done) | (simp; omega)); have hfz2 := Ext.frozenAt hz (b := w.heap.size + 1 + 1) (by first | omega | (simp; done) | (simp; omega)); have hlz2 : w.heap.size + 1 + 1 < z.heap.size := (by have := Ext.size hz; first | omega | (simp at *; omega))
  clear hz
  have hcz : z.cell? ⟨b2, off2 + i, none⟩ = some (.string o) := by rw [E1.cellAt hb2]; exact hc2
  obtain ⟨cap, z3, hrun, hzs, hz3, hzc, hzf⟩ := conv_bytes z o
  have HZC := Lib.hid hzc
  have HZF := Lib.hid hzf
  have HZ3 := Lib.hid hz3
  have hc3 := hz3.cellAt (b := w.heap.size) (by omega)
  have hc31 := hz3.cellAt (b := w.heap.size + 1) (by omega)
  have hcell := hzc ix hil
  have hfr := hzf ix hil
  have hbx : byteAt o ix = ((o.data[ix]'hil).toNat : Int) := by
    unfold byteAt
    have : ix < (o.data.toList.map fun b => (b.toNat : Int)).length := by simpa using hil
    rw [List.getD_eq_getElem?_getD, List.getElem?_map, Array.getElem?_toList, Array.getElem?_eq_getElem hil]; rfl
  rw [← hbx] at hcell
  generalize byteAt o ix = x0 at *
  clear hzc hzf hz3 hbx E1 hc2
  have hbb : (byI == 0) = false := by simpa using hb0
  have hlz3 : z.heap.size < z3.heap.size := by omega
  have hw1 : w.heap.size + 1 < z3.heap.size := by omega
  have HIX : Hid ((if spot.tmod o.size < 0 then spot.tmod o.size + o.size else spot.tmod o.size) = (ix : Int)) := href.symm ▸ rfl
  clear href
  by_cases hneg : spot.tmod o.size < 0
  · have hw : spot.tmod o.size + o.size = (ix : Int) := by
      have := HIX.out
      rw [if_pos hneg] at this
      exact this
    have hw2 : (0 : Int) ≤ ix := by omega
    have hw3 : (ix : Int) < o.size := by omega
    go_wp2_with fail
    refine wp_region_Rt Ext Ext.refl (by kernel_rfl) ?_
    repeat (refine Rt.takeU Ext.refl (fun _ _ _ => Ext.trans) rfl rfl (by kernel_rfl) (fun K hK => ?_); apply Exists.intro; refine ⟨fun x hx => ?_, ?_⟩; (next => have HX := Lib.hid hx; have hc0 := Ext.cellAt hx (b := z.heap.size) (by first | omega | (simp; done) | (simp; omega)); have hc1 := Ext.cellAt hx (b := w.heap.size + 1) (by first | omega | (simp; done) | (simp; omega)); clear hx; go_simp; first | done | ((try go_ints); first | done | rfl | (fail))); go_simp; refine hK _ ?_; clear hK K)
    refine Rt.tail0 rfl (by kernel_rfl) (fun y hy K hK => ?_)
    have HY := Lib.hid (Ext.trans (Ext.drew (Ext.refl z3)) hy)
    have hcy : y.cell? ⟨z.heap.size, ix, none⟩ = some (.int .u8 x0) := by rw [HY.out.cellAt hlz3]; exact hcell
    have hfy : y.frozen? ⟨z.heap.size, ix, none⟩ = false := by rw [HY.out.frozenAt hlz3]; exact hfr
    have HYC : Hid (∀ j (h : j < o.data.size), y.cell? ⟨z.heap.size, j, none⟩ = some (.int .u8 ((o.data[j]'h).toNat : Int))) := fun j h => by rw [HY.out.cellAt hlz3]; exact HZC.out j h
    have hyl : z.heap.size < y.heap.size := by have := HY.out.size; omega
    have hcy0 := (HZ3.out.trans HY.out).cellAt (b := w.heap.size) (by omega)
    clear hy hcell hfr hc3 hc31
    go_wp2
    refine hK _ _ ?_
    clear hK K hcy hfy
    have E4 := Lib.hid (Ext.setCell (E1H.out.trans (HZ3.out.trans HY.out)) (p := ⟨z.heap.size, ix, none⟩) (show w.heap.size ≤ z.heap.size by omega) (.int .u8 (bits .xor .u8 x0 byI)))
    have HBK := Lib.hid (fun x hx => conv_spoilt (w := x) (cap := cap) (y := bits .xor .u8 x0 byI) HYC.out hil hyl hx)
    go_wp2_with fail
    refine (hW.out _ (HN.out.ext E4.out) (HB.out.ext E4.out)).mono ?_
    rintro e z5 ⟨nv, hv, rfl, hr1, hr2, hz5, hap⟩
    have hnl : (names r).length = r.length := by simp [names]
    have hbl : (bodies r).length = r.length := by simp [bodies]
    obtain ⟨g1, c1, rfl, hg1, hg1l, _⟩ := row_some hr1 (by omega)
    obtain ⟨g2, c2, rfl, hg2, hg2l, hg2f⟩ := row_some hr2 (by omega)
    obtain ⟨_, _, ep1, ht1⟩ := texts_of_row hr1
    obtain ⟨_, _, ep2, ht2⟩ := texts_of_row hr2
    injection ep1 with ep1 _ ec1
    injection ep2 with ep2 _ ec2
    subst ep1 ep2 ec1 ec2
    have hne12 : g1 ≠ g2 := fun e => hap g1 rfl (by rw [e]; rfl)
    rw [size_setCell] at hg1 hg2
    rw [hnl, hbl]
    have HT1 := Lib.hid ht1
    have HT2 := Lib.hid ht2
    have hcg : ∃ u, z5.cell? ⟨g2, i, none⟩ = some (.string u) := by
      rcases ht2 with h | ⟨b', off', hp, hb', hc'⟩
      · rw [h] at hbl; simp at hbl; omega
      · injection hp with hp
        injection hp with hp1 hp2
        subst hp1 hp2
        have := hc' i (by omega)
        rw [Nat.zero_add] at this
        exact ⟨_, this⟩
    obtain ⟨u, hcg⟩ := hcg
    have HBL := Lib.hid hbl
    have HE5 := Lib.hid (E4.out.trans hz5)
    have HB5 : Hid (∀ o, z5.cell? ⟨w.heap.size + 1 + 1, o, none⟩ = (#[.int .i64 0, .slice none 0 0, .slice none 0 0] : Array Value)[o]?) := fun o => by
      rw [hz5.cellAt (by rw [size_setCell]; omega), World.cell?_setCell_other _ _ _ _ (by intro q; injection q; omega), (HZ3.out.trans HY.out).cellAt (by omega), show w.heap.size + 1 + 1 = w.heap.size + 2 from rfl]
      simp [World.cell?, HB4.out]
    have hf5 : ∀ o, z5.frozen? ⟨w.heap.size + 1 + 1, o, none⟩ = false := fun o => by
      rw [hz5.frozenAt (by rw [size_setCell]; omega), World.frozen?_setCell, (HZ3.out.trans HY.out).frozenAt (by omega), show w.heap.size + 1 + 1 = w.heap.size + 2 from rfl]
      simp [World.frozen?, HB4.out]
    have hc5 := HB5.out
    have hl5 : w.heap.size + 2 < z5.heap.size := by have := hz5.size; rw [size_setCell] at this; omega
    have hconv := HBK.out (z5.alloc (.cells #[.int .i64 size, .slice (some ⟨g1, 0, none⟩) r.length c1, .slice (some ⟨g2, 0, none⟩) r.length c2] 58)) (hz5.trans (Ext.alloc (Ext.refl z5) _))
    have hgw2 : ¬ g2 = w.heap.size + 1 + 1 := by omega
    have hgw3 : ¬ g2 = z5.heap.size := by omega
    clear hr1 hr2 hz5 hap ht1 ht2 hnl hbl hcy0 HYC
    rw [← HSP.out] at hconv
    generalize hrl : r.length = n at *
    have HRL := Lib.hid hrl
    clear hrl
    go_wp2
    have E5 := HE5.out
    refine bodyPost_ret (v := .tuple #[.agg #[.int .i64 size, .slice (some ⟨g1, 0, none⟩) n c1, .slice (some ⟨g2, 0, none⟩) n c2], .string ⟨#[]⟩, .int .i64 1]) (by simp only [results, Try.results25]; go_simp) rfl ⟨_, rfl, ?_, ?_⟩
    · have e1 := names_setR (s := spoil o spot byI) HRI.out
      have e2 := bodies_setR r i nm (spoil o spot byI)
      have e3 : (setR r i nm (spoil o spot byI)).length = n := by rw [← HRL.out]; simp [setR]
      have hT1 : TextsAt (z5.setCell ⟨g2, i, none⟩ (.string (spoil o spot byI))) (some ⟨g1, 0, none⟩) (names (setR r i nm (spoil o spot byI))) := by
        rw [e1]
        exact HT1.out.other hne12 (But.setCell (S := (· = g2)) (p := ⟨g2, i, none⟩) (But.refl _) rfl _)
      have hT2 : TextsAt (z5.setCell ⟨g2, i, none⟩ (.string (spoil o spot byI))) (some ⟨g2, 0, none⟩) (bodies (setR r i nm (spoil o spot byI))) := by
        rw [e2]
        exact HT2.out.setAt (by rw [HBL.out]; exact hi)
      have hns : ∀ o' s', (z5.setCell ⟨g2, i, none⟩ (.string (spoil o spot byI))).cell? ⟨w.heap.size + 1 + 1, o', none⟩ ≠ some (.string s') := by
        intro o' s'
        rw [World.cell?_setCell_other _ _ _ _ (by intro q; injection q; omega), HB5.out o']
        exact no_string 0 none none 0 0 0 0 o' s'
      refine ⟨_, _, _, _, by rw [e3], (hT1.aside hns (but_set3 _ _ _ _ _)).ext (Ext.alloc (Ext.refl _) _), (hT2.aside hns (but_set3 _ _ _ _ _)).ext (Ext.alloc (Ext.refl _) _)⟩
    · refine Ext.alloc (Ext.setCell (Ext.setCell (Ext.setCell (Ext.setCell E5 (p := ⟨g2, i, none⟩) (show w.heap.size ≤ g2 by omega) _) (p := ⟨w.heap.size + 1 + 1, 0, none⟩) (show w.heap.size ≤ w.heap.size + 1 + 1 by omega) _) (p := ⟨w.heap.size + 1 + 1, 1, none⟩) (show w.heap.size ≤ w.heap.size + 1 + 1 by omega) _) (p := ⟨w.heap.size + 1 + 1, 2, none⟩) (show w.heap.size ≤ w.heap.size + 1 + 1 by omega) _) _
  · have hw : spot.tmod o.size = (ix : Int) := by
      have := HIX.out
      rw [if_neg hneg] at this
      exact this
    have hw2 : (0 : Int) ≤ ix := by omega
    have hw3 : (ix : Int) < o.size := by omega
    go_wp2_with fail
    refine wp_region_Rt Ext Ext.refl (by kernel_rfl) ?_
    repeat (refine Rt.takeU Ext.refl (fun _ _ _ => Ext.trans) rfl rfl (by kernel_rfl) (fun K hK => ?_); apply Exists.intro; refine ⟨fun x hx => ?_, ?_⟩; (next => have HX := Lib.hid hx; have hc0 := Ext.cellAt hx (b := z.heap.size) (by first | omega | (simp; done) | (simp; omega)); have hc1 := Ext.cellAt hx (b := w.heap.size + 1) (by first | omega | (simp; done) | (simp; omega)); clear hx; go_simp; first | done | ((try go_ints); first | done | rfl | (fail))); go_simp; refine hK _ ?_; clear hK K)
    refine Rt.tail0 rfl (by kernel_rfl) (fun y hy K hK => ?_)
    have HY := Lib.hid (Ext.trans (Ext.drew (Ext.refl z3)) hy)
    have hcy : y.cell? ⟨z.heap.size, ix, none⟩ = some (.int .u8 x0) := by rw [HY.out.cellAt hlz3]; exact hcell
    have hfy : y.frozen? ⟨z.heap.size, ix, none⟩ = false := by rw [HY.out.frozenAt hlz3]; exact hfr
    have HYC : Hid (∀ j (h : j < o.data.size), y.cell? ⟨z.heap.size, j, none⟩ = some (.int .u8 ((o.data[j]'h).toNat : Int))) := fun j h => by rw [HY.out.cellAt hlz3]; exact HZC.out j h
    have hyl : z.heap.size < y.heap.size := by have := HY.out.size; omega
    have hcy0 := (HZ3.out.trans HY.out).cellAt (b := w.heap.size) (by omega)
    clear hy hcell hfr hc3 hc31
    go_wp2
    refine hK _ _ ?_
    clear hK K hcy hfy
    have E4 := Lib.hid (Ext.setCell (E1H.out.trans (HZ3.out.trans HY.out)) (p := ⟨z.heap.size, ix, none⟩) (show w.heap.size ≤ z.heap.size by omega) (.int .u8 (bits .xor .u8 x0 byI)))
    have HBK := Lib.hid (fun x hx => conv_spoilt (w := x) (cap := cap) (y := bits .xor .u8 x0 byI) HYC.out hil hyl hx)
    go_wp2_with fail
    refine (hW.out _ (HN.out.ext E4.out) (HB.out.ext E4.out)).mono ?_
    rintro e z5 ⟨nv, hv, rfl, hr1, hr2, hz5, hap⟩
    have hnl : (names r).length = r.length := by simp [names]
    have hbl : (bodies r).length = r.length := by simp [bodies]
    obtain ⟨g1, c1, rfl, hg1, hg1l, _⟩ := row_some hr1 (by omega)
    obtain ⟨g2, c2, rfl, hg2, hg2l, hg2f⟩ := row_some hr2 (by omega)
    obtain ⟨_, _, ep1, ht1⟩ := texts_of_row hr1
    obtain ⟨_, _, ep2, ht2⟩ := texts_of_row hr2
    injection ep1 with ep1 _ ec1
    injection ep2 with ep2 _ ec2
    subst ep1 ep2 ec1 ec2
    have hne12 : g1 ≠ g2 := fun e => hap g1 rfl (by rw [e]; rfl)
    rw [size_setCell] at hg1 hg2
    rw [hnl, hbl]
    have HT1 := Lib.hid ht1
    have HT2 := Lib.hid ht2
    have hcg : ∃ u, z5.cell? ⟨g2, i, none⟩ = some (.string u) := by
      rcases ht2 with h | ⟨b', off', hp, hb', hc'⟩
      · rw [h] at hbl; simp at hbl; omega
      · injection hp with hp
        injection hp with hp1 hp2
        subst hp1 hp2
        have := hc' i (by omega)
        rw [Nat.zero_add] at this
        exact ⟨_, this⟩
    obtain ⟨u, hcg⟩ := hcg
    have HBL := Lib.hid hbl
    have HE5 := Lib.hid (E4.out.trans hz5)
    have HB5 : Hid (∀ o, z5.cell? ⟨w.heap.size + 1 + 1, o, none⟩ = (#[.int .i64 0, .slice none 0 0, .slice none 0 0] : Array Value)[o]?) := fun o => by
      rw [hz5.cellAt (by rw [size_setCell]; omega), World.cell?_setCell_other _ _ _ _ (by intro q; injection q; omega), (HZ3.out.trans HY.out).cellAt (by omega), show w.heap.size + 1 + 1 = w.heap.size + 2 from rfl]
      simp [World.cell?, HB4.out]
    have hf5 : ∀ o, z5.frozen? ⟨w.heap.size + 1 + 1, o, none⟩ = false := fun o => by
      rw [hz5.frozenAt (by rw [size_setCell]; omega), World.frozen?_setCell, (HZ3.out.trans HY.out).frozenAt (by omega), show w.heap.size + 1 + 1 = w.heap.size + 2 from rfl]
      simp [World.frozen?, HB4.out]
    have hc5 := HB5.out
    have hl5 : w.heap.size + 2 < z5.heap.size := by have := hz5.size; rw [size_setCell] at this; omega
    have hconv := HBK.out (z5.alloc (.cells #[.int .i64 size, .slice (some ⟨g1, 0, none⟩) r.length c1, .slice (some ⟨g2, 0, none⟩) r.length c2] 58)) (hz5.trans (Ext.alloc (Ext.refl z5) _))
    have hgw2 : ¬ g2 = w.heap.size + 1 + 1 := by omega
    have hgw3 : ¬ g2 = z5.heap.size := by omega
    clear hr1 hr2 hz5 hap ht1 ht2 hnl hbl hcy0 HYC
    rw [← HSP.out] at hconv
    generalize hrl : r.length = n at *
    have HRL := Lib.hid hrl
    clear hrl
    go_wp2
    have E5 := HE5.out
    refine bodyPost_ret (v := .tuple #[.agg #[.int .i64 size, .slice (some ⟨g1, 0, none⟩) n c1, .slice (some ⟨g2, 0, none⟩) n c2], .string ⟨#[]⟩, .int .i64 1]) (by simp only [results, Try.results25]; go_simp) rfl ⟨_, rfl, ?_, ?_⟩
    · have e1 := names_setR (s := spoil o spot byI) HRI.out
      have e2 := bodies_setR r i nm (spoil o spot byI)
      have e3 : (setR r i nm (spoil o spot byI)).length = n := by rw [← HRL.out]; simp [setR]
      have hT1 : TextsAt (z5.setCell ⟨g2, i, none⟩ (.string (spoil o spot byI))) (some ⟨g1, 0, none⟩) (names (setR r i nm (spoil o spot byI))) := by
        rw [e1]
        exact HT1.out.other hne12 (But.setCell (S := (· = g2)) (p := ⟨g2, i, none⟩) (But.refl _) rfl _)
      have hT2 : TextsAt (z5.setCell ⟨g2, i, none⟩ (.string (spoil o spot byI))) (some ⟨g2, 0, none⟩) (bodies (setR r i nm (spoil o spot byI))) := by
        rw [e2]
        exact HT2.out.setAt (by rw [HBL.out]; exact hi)
      have hns : ∀ o' s', (z5.setCell ⟨g2, i, none⟩ (.string (spoil o spot byI))).cell? ⟨w.heap.size + 1 + 1, o', none⟩ ≠ some (.string s') := by
        intro o' s'
        rw [World.cell?_setCell_other _ _ _ _ (by intro q; injection q; omega), HB5.out o']
        exact no_string 0 none none 0 0 0 0 o' s'
      refine ⟨_, _, _, _, by rw [e3], (hT1.aside hns (but_set3 _ _ _ _ _)).ext (Ext.alloc (Ext.refl _) _), (hT2.aside hns (but_set3 _ _ _ _ _)).ext (Ext.alloc (Ext.refl _) _)⟩
    · refine Ext.alloc (Ext.setCell (Ext.setCell (Ext.setCell (Ext.setCell E5 (p := ⟨g2, i, none⟩) (show w.heap.size ≤ g2 by omega) _) (p := ⟨w.heap.size + 1 + 1, 0, none⟩) (show w.heap.size ≤ w.heap.size + 1 + 1 by omega) _) (p := ⟨w.heap.size + 1 + 1, 1, none⟩) (show w.heap.size ≤ w.heap.size + 1 + 1 by omega) _) (p := ⟨w.heap.size + 1 + 1, 2, none⟩) (show w.heap.size ≤ w.heap.size + 1 + 1 by omega) _) _
end Go.Proofs.Ytlihjhalbemfmaa
