/- The reference's disk is written to, and there is room. -/
import Derived.Test.YtlihjhalbemfmaaRefWrite
namespace Go.Proofs.Ytlihjhalbemfmaa
open Go.RowKit

set_option maxRecDepth 30000 in
set_option maxHeartbeats 8000000 in
theorem refwrite_ok (size : Int) (r : Held) (p q : Option Addr) (cn cq : Nat) (k s : ByteArray) (w : World) (hl : r.length ≤ 100000) (h0 : 0 ≤ size) (h1 : size ≤ 4194304) (hu : used r ≤ 100000000) (hk0 : 0 < k.size) (hk1 : k.size ≤ 64) (hs : s.size ≤ 100000000)
    (hN : TextsAt w p (names r)) (hB : TextsAt w q (bodies r)) (hf : ¬ size - used (dropAt r k) < k.size + s.size + 16) :
    Calls Try.prog 54 #[.agg #[.int .i64 size, .slice p r.length cn, .slice q r.length cq], .string k, .string s] w fun e w' => ∃ v, e = .returned (.tuple #[v, .int .i64 0]) ∧ RefV w' v size (insertR k s (dropAt r k)) ∧ Ext w w' := by
  have hm : (dropAt r k).length ≤ 100000 := Nat.le_trans (drop_sub r k).length_le hl
  have hum : used (dropAt r k) ≤ 1000000000 := by
    have := used_sub (drop_sub r k)
    omega
  have hW := Lib.hid (fun w hN hB => without_any size r p q cn cq k w (by omega) hN hB)
  have hR := Lib.hid (fun p q cn cq w hN hB => refroom_any size (dropAt r k) p q cn cq w (by omega) h0 h1 hum hN hB)
  have HN := Lib.hid hN
  have HB := Lib.hid hB
  obtain ⟨i0, hi, hz0, hz1, hz2⟩ := info_parts info_str
  have HI := Lib.hid hi
  have Z0 := Lib.hid hz0
  have Z1 := Lib.hid hz1
  have Z2 := Lib.hid hz2
  obtain ⟨hne, hne1⟩ := str_ne hk0
  clear hN hB hi hz0 hz1 hz2
  go_enter Try.func54, Try.ntmps54
  go_wp2_with fail
  refine (hW.out _ (HN.out.ext (by repeat (first | (with_reducible exact Ext.refl _) | (with_reducible assumption) | (with_reducible refine Ext.drewN ?_ _) | (with_reducible refine Ext.drew ?_) | (with_reducible refine Ext.alloc ?_ _) | (refine Ext.trans ?_ (by with_reducible assumption))))) (HB.out.ext (by repeat (first | (with_reducible exact Ext.refl _) | (with_reducible assumption) | (with_reducible refine Ext.drewN ?_ _) | (with_reducible refine Ext.drew ?_) | (with_reducible refine Ext.alloc ?_ _) | (refine Ext.trans ?_ (by with_reducible assumption)))))).mono ?_
  rintro e z ⟨nv, hv, rfl, hrn, hrb, hz⟩
  obtain ⟨p1, c1, rfl, ht1⟩ := texts_of_row hrn
  obtain ⟨p2, c2, rfl, ht2⟩ := texts_of_row hrb
  have hnl : (names (dropAt r k)).length = (dropAt r k).length := by simp [names]
  have hbl : (bodies (dropAt r k)).length = (dropAt r k).length := by simp [bodies]
  rw [hnl, hbl]
  have T1 := Lib.hid ht1
  have T2 := Lib.hid ht2
  have E1 : Ext w z := Ext.trans (by repeat (first | (with_reducible exact Ext.refl _) | (with_reducible assumption) | (with_reducible refine Ext.drewN ?_ _) | (with_reducible refine Ext.drew ?_) | (with_reducible refine Ext.alloc ?_ _) | (refine Ext.trans ?_ (by with_reducible assumption)))) hz
  have hcz0 := Ext.cellAt hz (b := w.heap.size) (by first | omega | (simp; done) | (simp; omega)); have hfz0 := Ext.frozenAt hz (b := w.heap.size) (by first | omega | (simp; done) | (simp; omega)); have hlz0 : w.heap.size < z.heap.size := (by have := Ext.size hz; first | omega | (simp at *; omega)); have hcz1 := Ext.cellAt hz (b := w.heap.size + 1) (by first | omega | (simp; done) | (simp; omega)); have hfz1 := Ext.frozenAt hz (b := w.heap.size + 1) (by first | omega | (simp; done) | (simp; omega)); have hlz1 : w.heap.size + 1 < z.heap.size := (by have := Ext.size hz; first | omega | (simp at *; omega))
  clear hz hrn hrb ht1 ht2 hnl hbl
  generalize hdr : dropAt r k = m at *
  have HDR := Lib.hid hdr
  clear hdr
  generalize hu2 : used m = u at *
  have HU2 := Lib.hid hu2
  clear hu2
  go_wp2_with fail
  refine (hR.out _ _ _ _ _ (T1.out.ext (by repeat (first | (with_reducible exact Ext.refl _) | (with_reducible assumption) | (with_reducible refine Ext.drewN ?_ _) | (with_reducible refine Ext.drew ?_) | (with_reducible refine Ext.alloc ?_ _) | (refine Ext.trans ?_ (by with_reducible assumption))))) (T2.out.ext (by repeat (first | (with_reducible exact Ext.refl _) | (with_reducible assumption) | (with_reducible refine Ext.drewN ?_ _) | (with_reducible refine Ext.drew ?_) | (with_reducible refine Ext.alloc ?_ _) | (refine Ext.trans ?_ (by with_reducible assumption)))))).mono ?_
  rintro e z2 ⟨rfl, hz2⟩
  have HE2 : Hid (Ext w z2) := Ext.trans (by repeat (first | (with_reducible exact E1) | (with_reducible refine Ext.drewN ?_ _) | (with_reducible refine Ext.drew ?_) | (with_reducible refine Ext.setCell ?_ (by first | omega | (simp; done) | (simp; omega)) _) | (with_reducible refine Ext.alloc ?_ _))) hz2
  have T1' := Lib.hid ((T1.out.ext (Ext.alloc (Ext.refl _) _)).ext hz2)
  have T2' := Lib.hid ((T2.out.ext (Ext.alloc (Ext.refl _) _)).ext hz2)
  have hcz20 := Ext.cellAt hz2 (b := w.heap.size) (by first | omega | (simp; done) | (simp; omega)); have hfz20 := Ext.frozenAt hz2 (b := w.heap.size) (by first | omega | (simp; done) | (simp; omega)); have hlz20 : w.heap.size < z2.heap.size := (by have := Ext.size hz2; first | omega | (simp at *; omega)); have hcz21 := Ext.cellAt hz2 (b := w.heap.size + 1) (by first | omega | (simp; done) | (simp; omega)); have hfz21 := Ext.frozenAt hz2 (b := w.heap.size + 1) (by first | omega | (simp; done) | (simp; omega)); have hlz21 : w.heap.size + 1 < z2.heap.size := (by have := Ext.size hz2; first | omega | (simp at *; omega)); have hcz22 := Ext.cellAt hz2 (b := z.heap.size) (by first | omega | (simp; done) | (simp; omega)); have hfz22 := Ext.frozenAt hz2 (b := z.heap.size) (by first | omega | (simp; done) | (simp; omega)); have hlz22 : z.heap.size < z2.heap.size := (by have := Ext.size hz2; first | omega | (simp at *; omega))
  clear hz2 T1 T2 E1
  go_wp2_with fail
  go_loopw [10, 11] (fun pb i wr => ∃ (j : Nat) (nv hv : Value), j ≤ m.length ∧ i = .int .i64 j ∧ pb = .bool (insTo k s m j).2 ∧ OutAt wr z2.heap.size (z2.heap.size + 1) size nv hv (names (insTo k s m j).1) (bodies (insTo k s m j).1) ∧ Ext z2 wr) (fun _ i _ => m.length - (intOf i).toNat)
  case atStart =>
    refine ⟨0, .slice none 0 0, .slice none 0 0, Nat.zero_le _, rfl, rfl, ⟨?_, World.ownsRow_nil _ _ _ _, World.ownsRow_nil _ _ _ _, by simp [Value.ownBlock], by omega, by simp⟩, by repeat (first | (with_reducible exact Ext.refl _) | (with_reducible assumption) | (with_reducible refine Ext.drewN ?_ _) | (with_reducible refine Ext.drew ?_) | (with_reducible refine Ext.alloc ?_ _) | (refine Ext.trans ?_ (by with_reducible assumption)))⟩
    exact heap_alloc_new _ _
  case round =>
    obtain ⟨j, nv, hv, hj, rfl, rfl, ho, hx⟩ := hrel
    have HO := Lib.hid ho
    have HX := Lib.hid hx
    have hlw : z2.heap.size < wr.heap.size := ho.olt
    have hc := hx.cellAt (b := z.heap.size) (by omega)
    have hoc := ho.cell
    have hof := ho.free
    clear ho hx
    by_cases hlt : j < m.length
    · have hst := insTo_step hlt k s
      have hil := insTo_len k s m j
      have hnl1 : (names (insTo k s m j).1).length ≤ 200000 := by simp only [names, List.length_map]; omega
      have hnl2 : (bodies (insTo k s m j).1).length ≤ 200000 := by simp only [bodies, List.length_map]; omega
      rcases T1'.out with hN | ⟨b, off, rfl, hb, hcell⟩
      · have : m.length = 0 := by have := congrArg List.length hN; simpa [names] using this
        omega
      rcases T2'.out with hB | ⟨b2, off2, rfl, hb2, hcell2⟩
      · have : m.length = 0 := by have := congrArg List.length hB; simpa [bodies] using this
        omega
      have HC1 := Lib.hid (hcell j (by simpa [names] using hlt))
      have HC2 := Lib.hid (hcell2 j (by simpa [bodies] using hlt))
      have hcl : wr.cell? ⟨b, off + j, none⟩ = some (.string ((names m).getD j ⟨#[]⟩)) := by rw [HX.out.cellAt hb]; exact HC1.out
      have hcl2 : wr.cell? ⟨b2, off2 + j, none⟩ = some (.string ((bodies m).getD j ⟨#[]⟩)) := by rw [HX.out.cellAt hb2]; exact HC2.out
      have hbw : b < wr.heap.size := by omega
      have hbw2 : b2 < wr.heap.size := by omega
      clear hcell hcell2
      have hnk0 := name_ne HDR.out hlt
      generalize (names m).getD j ⟨#[]⟩ = nm at *
      have HNK := Lib.hid hnk0
      clear hnk0
      generalize (bodies m).getD j ⟨#[]⟩ = bd at *
      generalize hinst : insTo k s m j = st at *
      obtain ⟨l, put⟩ := st
      have HST := Lib.hid hst
      clear hst hinst hil
      simp only at *
      --ROUNDS
      have hbz : z.heap.size < wr.heap.size := by omega
      have hnk : (nm.toList == k.toList) = false := by
        have : ¬ nm.toList = k.toList := fun h => HNK.out (toList_inj h)
        simpa using this
      cases put
      · cases hq : Op.bytesLess nm.toList k.toList
        · have HS2 : Hid (insTo k s m (j + 1) = (l ++ [(k, s), (nm, bd)], true)) := by
            unfold Hid; rw [HST.out]; simp [insStep, gtB, hq, hnk]
          clear HST
          have HOa1 := Lib.hid (HO.out.ext (Ext.alloc (Ext.refl wr) (.cells #[.string k] 9)))
          have HXa1 := Lib.hid (Ext.alloc HX.out (.cells #[.string k] 9))
          have hlea1 := HOa1.out.le
          go_wp2_with (at_builtin; refine wpList_append_own_at _ rfl (.tmp 55) (.tmp 57) 27 rfl (z2.heap.size + 1) 9 i0 (.string ⟨#[]⟩) 1 16 Try.underlying27 HI.out Z0.out Z1.out Z2.out rfl (by decide) _ _ _ rfl HOa1.out.nrow ⟨_, 0, none⟩ 1 1 [.string k] rfl rfl (cell_new_at _ _ _ _ (by first | rfl | (rw [size_setCell]))) (str_cell _) (by unfold maxLen; (try simp); omega) (by (try simp); omega) hlea1 ?_)
          intro v1 w1 hown' hgrow _ hat
          obtain ⟨hbca, hbf1⟩ := HOa1.out.blkN hgrow
          have HO1n := Lib.hid (HOa1.out.pushN (by first | exact hown' | (rw [List.length_append]; exact hown')) hgrow (by first | exact hat | simpa using hat))
          have HX1n := Lib.hid (Ext.setCell (ext_own HXa1.out hgrow (fun g hg => by have := (HOa1.out.nrow.lt g hg).1; omega)) (p := ⟨z2.heap.size, 1, none⟩) (by simp) v1)
          obtain ⟨pa, ca, hv'⟩ := row_form hown'
          clear hown' hgrow hat
          subst hv'
          have HOa2 := Lib.hid (HO1n.out.ext (Ext.alloc (Ext.refl (w1.setCell ⟨z2.heap.size, 1, none⟩ (.slice pa ((names l).length + 1) ca))) (.cells #[.string s] 9)))
          have HXa2 := Lib.hid (Ext.alloc HX1n.out (.cells #[.string s] 9))
          have hlea2 := HOa2.out.le
          go_wp2_with (at_builtin; refine wpList_append_own_at _ rfl (.tmp 61) (.tmp 63) 27 rfl (z2.heap.size + 1) 9 i0 (.string ⟨#[]⟩) 1 16 Try.underlying27 HI.out Z0.out Z1.out Z2.out rfl (by decide) _ _ _ rfl HOa2.out.brow ⟨_, 0, none⟩ 1 1 [.string s] rfl rfl (cell_new_at _ _ _ _ (by first | rfl | (rw [size_setCell]))) (str_cell _) (by unfold maxLen; (try simp); omega) (by (try simp); omega) hlea2 ?_)
          intro v2 w2 hown' hgrow _ hat
          obtain ⟨hbcb, hbf2⟩ := HOa2.out.blkB hgrow
          have HO2n := Lib.hid (HOa2.out.pushB (by first | exact hown' | (rw [List.length_append]; exact hown')) hgrow (by first | exact hat | simpa using hat))
          have HX2n := Lib.hid (Ext.setCell (ext_own HXa2.out hgrow (fun g hg => by have := (HOa2.out.brow.lt g hg).1; omega)) (p := ⟨z2.heap.size, 2, none⟩) (by simp) v2)
          obtain ⟨pb, cb, hv'⟩ := row_form hown'
          clear hown' hgrow hat
          subst hv'
          clear HO HX HOa1 HXa1 hlea1 HO1n HX1n HOa2 HXa2 hlea2 hoc hof hc hcl hcl2 hbw hbw2 hbz hlw
          go_wp2_with fail
          (try clear hbca); (try clear hbf1); (try clear hbcb); (try clear hbf2); (try clear hbc1); (try clear hbc2)
          generalize w2.setCell ⟨z2.heap.size, 2, none⟩ _ = zz at *
          (try clear w2); (try clear w1)
          obtain ⟨wa, rfl⟩ : ∃ q, q = zz := ⟨_, rfl⟩
          have HO := HO2n
          have HX := HX2n
          clear HO2n HX2n
          have hlw : z2.heap.size < wa.heap.size := HO.out.olt
          have hoc := HO.out.cell
          have hof := HO.out.free
          have hc := HX.out.cellAt (b := z.heap.size) (by omega)
          have hcl : wa.cell? ⟨b, off + j, none⟩ = some (.string nm) := by rw [HX.out.cellAt hb]; exact HC1.out
          have hcl2 : wa.cell? ⟨b2, off2 + j, none⟩ = some (.string bd) := by rw [HX.out.cellAt hb2]; exact HC2.out
          have hbw : b < wa.heap.size := by have := HX.out.size; omega
          have hbw2 : b2 < wa.heap.size := by have := HX.out.size; omega
          have hbz : z.heap.size < wa.heap.size := by have := HX.out.size; omega
          go_wp2_with fail
          refine wp_region_Rt Ext Ext.refl (by kernel_rfl) ?_
          repeat (refine Rt.takeU Ext.refl (fun _ _ _ => Ext.trans) rfl rfl (by kernel_rfl) (fun K hK => ?_); apply Exists.intro; refine ⟨fun x hx => ?_, ?_⟩; (next => have HX := Lib.hid hx; have hc0 := Ext.cellAt hx (b := z.heap.size) (by first | omega | (simp; done) | (simp; omega)); have hc1 := Ext.cellAt hx (b := z2.heap.size) (by first | omega | (simp; done) | (simp; omega)); have hc2 := Ext.cellAt hx (b := b) (by first | omega | (simp; done) | (simp; omega)); clear hx; go_simp; first | done | ((try go_ints); first | done | rfl | (fail))); go_simp; refine hK _ ?_; clear hK K)
          refine Rt.only rfl (by kernel_rfl) (fun x hx K hK => ?_)
          have HX1 := Lib.hid (Ext.trans (Ext.drew (Ext.refl wa)) hx)
          clear hx
          go_wp2
          refine hK _ _ (Ext.alloc (Ext.refl _) _) ?_
          clear hK K
          refine Rt.tail0 rfl (by kernel_rfl) (fun y hy K hK => ?_)
          have HY := Lib.hid (Ext.trans (Ext.alloc HX1.out _) hy)
          have hnew := Ext.cellAt hy (b := x.heap.size) (by simp) 0
          simp at hnew
          clear hy
          have HO1 := Lib.hid (HO.out.ext HY.out)
          have hsz1 : z2.heap.size + 1 ≤ y.heap.size := HO1.out.le
          go_wp2_with (at_builtin; refine wpList_append_own_at _ rfl (.tmp 67) (.tmp 73) 27 rfl (z2.heap.size + 1) 9 i0 (.string ⟨#[]⟩) 1 16 Try.underlying27 HI.out Z0.out Z1.out Z2.out rfl (by decide) _ _ _ rfl HO1.out.nrow ⟨x.heap.size, 0, none⟩ 1 1 [.string nm] rfl rfl (one_old hnew) (str_cell _) (by unfold maxLen; (try simp); omega) (by (try simp); omega) hsz1 ?_)
          intro v5 w5 hown' hgrow _ hat
          obtain ⟨hbc5, hbf5⟩ := HO1.out.blkN hgrow
          have HO5n := Lib.hid (HO1.out.pushN (by first | exact hown' | (rw [List.length_append]; exact hown')) hgrow (by first | exact hat | simpa using hat))
          have HX5n := Lib.hid (Ext.setCell (ext_own (HX.out.trans HY.out) hgrow (fun g hg => by have := (HO1.out.nrow.lt g hg).1; omega)) (p := ⟨z2.heap.size, 1, none⟩) (by simp) v5)
          obtain ⟨p5, c5, hv'⟩ := row_form hown'
          clear hown' hgrow hat
          subst hv'
          clear HX HO HO1 hoc hof hc hcl hcl2 hlw
          go_wp2
          refine hK _ _ ?_
          clear hK K hnew hsz1 HY HX1 hbc5 hbf5
          generalize w5.setCell ⟨z2.heap.size, 1, none⟩ _ = zz at *
          clear w5 y
          obtain ⟨wb, rfl⟩ : ∃ q, q = zz := ⟨_, rfl⟩
          have HO := HO5n
          have HX := HX5n
          clear HO5n HX5n
          have hlw : z2.heap.size < wb.heap.size := HO.out.olt
          have hoc := HO.out.cell
          have hof := HO.out.free
          have hc := HX.out.cellAt (b := z.heap.size) (by omega)
          have hcl : wb.cell? ⟨b, off + j, none⟩ = some (.string nm) := by rw [HX.out.cellAt hb]; exact HC1.out
          have hcl2 : wb.cell? ⟨b2, off2 + j, none⟩ = some (.string bd) := by rw [HX.out.cellAt hb2]; exact HC2.out
          have hbw : b < wb.heap.size := by have := HX.out.size; omega
          have hbw2 : b2 < wb.heap.size := by have := HX.out.size; omega
          have hbz : z.heap.size < wb.heap.size := by have := HX.out.size; omega
          go_wp2_with fail
          refine wp_region_Rt Ext Ext.refl (by kernel_rfl) ?_
          repeat (refine Rt.takeU Ext.refl (fun _ _ _ => Ext.trans) rfl rfl (by kernel_rfl) (fun K hK => ?_); apply Exists.intro; refine ⟨fun x hx => ?_, ?_⟩; (next => have HX := Lib.hid hx; have hc0 := Ext.cellAt hx (b := z.heap.size) (by first | omega | (simp; done) | (simp; omega)); have hc1 := Ext.cellAt hx (b := z2.heap.size) (by first | omega | (simp; done) | (simp; omega)); have hc2 := Ext.cellAt hx (b := b2) (by first | omega | (simp; done) | (simp; omega)); clear hx; go_simp; first | done | ((try go_ints); first | done | rfl | (fail))); go_simp; refine hK _ ?_; clear hK K)
          refine Rt.only rfl (by kernel_rfl) (fun x hx K hK => ?_)
          have HX1 := Lib.hid (Ext.trans (Ext.drew (Ext.refl wb)) hx)
          clear hx
          go_wp2
          refine hK _ _ (Ext.alloc (Ext.refl _) _) ?_
          clear hK K
          refine Rt.tail0 rfl (by kernel_rfl) (fun y hy K hK => ?_)
          have HY := Lib.hid (Ext.trans (Ext.alloc HX1.out _) hy)
          have hnew := Ext.cellAt hy (b := x.heap.size) (by simp) 0
          simp at hnew
          clear hy
          have HO1 := Lib.hid (HO.out.ext HY.out)
          have hsz1 : z2.heap.size + 1 ≤ y.heap.size := HO1.out.le
          go_wp2_with (at_builtin; refine wpList_append_own_at _ rfl (.tmp 77) (.tmp 83) 27 rfl (z2.heap.size + 1) 9 i0 (.string ⟨#[]⟩) 1 16 Try.underlying27 HI.out Z0.out Z1.out Z2.out rfl (by decide) _ _ _ rfl HO1.out.brow ⟨x.heap.size, 0, none⟩ 1 1 [.string bd] rfl rfl (one_old hnew) (str_cell _) (by unfold maxLen; (try simp); omega) (by (try simp); omega) hsz1 ?_)
          intro v6 w6 hown' hgrow _ hat
          obtain ⟨hbc6, hbf6⟩ := HO1.out.blkB hgrow
          have HO6n := Lib.hid (HO1.out.pushB (by first | exact hown' | (rw [List.length_append]; exact hown')) hgrow (by first | exact hat | simpa using hat))
          have HX6n := Lib.hid (Ext.setCell (ext_own (HX.out.trans HY.out) hgrow (fun g hg => by have := (HO1.out.brow.lt g hg).1; omega)) (p := ⟨z2.heap.size, 2, none⟩) (by simp) v6)
          obtain ⟨p6, c6, hv'⟩ := row_form hown'
          clear hown' hgrow hat
          subst hv'
          clear HX HO HO1 hoc hof hc hcl hcl2 hlw
          go_wp2
          refine hK _ _ ?_
          clear hK K hnew hsz1 HY HX1 hbc6 hbf6
          generalize w6.setCell ⟨z2.heap.size, 2, none⟩ _ = zz at *
          clear w6 y
          go_wp2
          go_roundw
          case rel => exact ⟨j + 1, _, _, by omega, by go_num, by rw [HS2.out], by rw [HS2.out]; simpa [names_append, bodies_append, names, bodies] using HO6n.out, HX6n.out⟩
          case measure => simp [intOf]; omega
        · have HS2 : Hid (insTo k s m (j + 1) = (l ++ [(nm, bd)], false)) := by
            unfold Hid; rw [HST.out]; simp [insStep, gtB, hq]
          clear HST
          go_wp2_with fail
          refine wp_region_Rt Ext Ext.refl (by kernel_rfl) ?_
          repeat (refine Rt.takeU Ext.refl (fun _ _ _ => Ext.trans) rfl rfl (by kernel_rfl) (fun K hK => ?_); apply Exists.intro; refine ⟨fun x hx => ?_, ?_⟩; (next => have HX := Lib.hid hx; have hc0 := Ext.cellAt hx (b := z.heap.size) (by first | omega | (simp; done) | (simp; omega)); have hc1 := Ext.cellAt hx (b := z2.heap.size) (by first | omega | (simp; done) | (simp; omega)); have hc2 := Ext.cellAt hx (b := b) (by first | omega | (simp; done) | (simp; omega)); clear hx; go_simp; first | done | ((try go_ints); first | done | rfl | (fail))); go_simp; refine hK _ ?_; clear hK K)
          refine Rt.only rfl (by kernel_rfl) (fun x hx K hK => ?_)
          have HX1 := Lib.hid (Ext.trans (Ext.drew (Ext.refl wr)) hx)
          clear hx
          go_wp2
          refine hK _ _ (Ext.alloc (Ext.refl _) _) ?_
          clear hK K
          refine Rt.tail0 rfl (by kernel_rfl) (fun y hy K hK => ?_)
          have HY := Lib.hid (Ext.trans (Ext.alloc HX1.out _) hy)
          have hnew := Ext.cellAt hy (b := x.heap.size) (by simp) 0
          simp at hnew
          clear hy
          have HO1 := Lib.hid (HO.out.ext HY.out)
          have hsz1 : z2.heap.size + 1 ≤ y.heap.size := HO1.out.le
          go_wp2_with (at_builtin; refine wpList_append_own_at _ rfl (.tmp 67) (.tmp 73) 27 rfl (z2.heap.size + 1) 9 i0 (.string ⟨#[]⟩) 1 16 Try.underlying27 HI.out Z0.out Z1.out Z2.out rfl (by decide) _ _ _ rfl HO1.out.nrow ⟨x.heap.size, 0, none⟩ 1 1 [.string nm] rfl rfl (one_old hnew) (str_cell _) (by unfold maxLen; (try simp); omega) (by (try simp); omega) hsz1 ?_)
          intro v5 w5 hown' hgrow _ hat
          obtain ⟨hbc5, hbf5⟩ := HO1.out.blkN hgrow
          have HO5n := Lib.hid (HO1.out.pushN (by first | exact hown' | (rw [List.length_append]; exact hown')) hgrow (by first | exact hat | simpa using hat))
          have HX5n := Lib.hid (Ext.setCell (ext_own (HX.out.trans HY.out) hgrow (fun g hg => by have := (HO1.out.nrow.lt g hg).1; omega)) (p := ⟨z2.heap.size, 1, none⟩) (by simp) v5)
          obtain ⟨p5, c5, hv'⟩ := row_form hown'
          clear hown' hgrow hat
          subst hv'
          clear HX HO HO1 hoc hof hc hcl hcl2 hlw
          go_wp2
          refine hK _ _ ?_
          clear hK K hnew hsz1 HY HX1 hbc5 hbf5
          generalize w5.setCell ⟨z2.heap.size, 1, none⟩ _ = zz at *
          clear w5 y
          obtain ⟨wb, rfl⟩ : ∃ q, q = zz := ⟨_, rfl⟩
          have HO := HO5n
          have HX := HX5n
          clear HO5n HX5n
          have hlw : z2.heap.size < wb.heap.size := HO.out.olt
          have hoc := HO.out.cell
          have hof := HO.out.free
          have hc := HX.out.cellAt (b := z.heap.size) (by omega)
          have hcl : wb.cell? ⟨b, off + j, none⟩ = some (.string nm) := by rw [HX.out.cellAt hb]; exact HC1.out
          have hcl2 : wb.cell? ⟨b2, off2 + j, none⟩ = some (.string bd) := by rw [HX.out.cellAt hb2]; exact HC2.out
          have hbw : b < wb.heap.size := by have := HX.out.size; omega
          have hbw2 : b2 < wb.heap.size := by have := HX.out.size; omega
          have hbz : z.heap.size < wb.heap.size := by have := HX.out.size; omega
          go_wp2_with fail
          refine wp_region_Rt Ext Ext.refl (by kernel_rfl) ?_
          repeat (refine Rt.takeU Ext.refl (fun _ _ _ => Ext.trans) rfl rfl (by kernel_rfl) (fun K hK => ?_); apply Exists.intro; refine ⟨fun x hx => ?_, ?_⟩; (next => have HX := Lib.hid hx; have hc0 := Ext.cellAt hx (b := z.heap.size) (by first | omega | (simp; done) | (simp; omega)); have hc1 := Ext.cellAt hx (b := z2.heap.size) (by first | omega | (simp; done) | (simp; omega)); have hc2 := Ext.cellAt hx (b := b2) (by first | omega | (simp; done) | (simp; omega)); clear hx; go_simp; first | done | ((try go_ints); first | done | rfl | (fail))); go_simp; refine hK _ ?_; clear hK K)
          refine Rt.only rfl (by kernel_rfl) (fun x hx K hK => ?_)
          have HX1 := Lib.hid (Ext.trans (Ext.drew (Ext.refl wb)) hx)
          clear hx
          go_wp2
          refine hK _ _ (Ext.alloc (Ext.refl _) _) ?_
          clear hK K
          refine Rt.tail0 rfl (by kernel_rfl) (fun y hy K hK => ?_)
          have HY := Lib.hid (Ext.trans (Ext.alloc HX1.out _) hy)
          have hnew := Ext.cellAt hy (b := x.heap.size) (by simp) 0
          simp at hnew
          clear hy
          have HO1 := Lib.hid (HO.out.ext HY.out)
          have hsz1 : z2.heap.size + 1 ≤ y.heap.size := HO1.out.le
          go_wp2_with (at_builtin; refine wpList_append_own_at _ rfl (.tmp 77) (.tmp 83) 27 rfl (z2.heap.size + 1) 9 i0 (.string ⟨#[]⟩) 1 16 Try.underlying27 HI.out Z0.out Z1.out Z2.out rfl (by decide) _ _ _ rfl HO1.out.brow ⟨x.heap.size, 0, none⟩ 1 1 [.string bd] rfl rfl (one_old hnew) (str_cell _) (by unfold maxLen; (try simp); omega) (by (try simp); omega) hsz1 ?_)
          intro v6 w6 hown' hgrow _ hat
          obtain ⟨hbc6, hbf6⟩ := HO1.out.blkB hgrow
          have HO6n := Lib.hid (HO1.out.pushB (by first | exact hown' | (rw [List.length_append]; exact hown')) hgrow (by first | exact hat | simpa using hat))
          have HX6n := Lib.hid (Ext.setCell (ext_own (HX.out.trans HY.out) hgrow (fun g hg => by have := (HO1.out.brow.lt g hg).1; omega)) (p := ⟨z2.heap.size, 2, none⟩) (by simp) v6)
          obtain ⟨p6, c6, hv'⟩ := row_form hown'
          clear hown' hgrow hat
          subst hv'
          clear HX HO HO1 hoc hof hc hcl hcl2 hlw
          go_wp2
          refine hK _ _ ?_
          clear hK K hnew hsz1 HY HX1 hbc6 hbf6
          generalize w6.setCell ⟨z2.heap.size, 2, none⟩ _ = zz at *
          clear w6 y
          go_wp2
          go_roundw
          case rel => exact ⟨j + 1, _, _, by omega, by go_num, by rw [HS2.out], by rw [HS2.out]; simpa [names_append, bodies_append, names, bodies] using HO6n.out, HX6n.out⟩
          case measure => simp [intOf]; omega
      · have HS2 : Hid (insTo k s m (j + 1) = (l ++ [(nm, bd)], true)) := by
          unfold Hid; rw [HST.out]; simp [insStep]
        clear HST
        go_wp2_with fail
        refine wp_region_Rt Ext Ext.refl (by kernel_rfl) ?_
        repeat (refine Rt.takeU Ext.refl (fun _ _ _ => Ext.trans) rfl rfl (by kernel_rfl) (fun K hK => ?_); apply Exists.intro; refine ⟨fun x hx => ?_, ?_⟩; (next => have HX := Lib.hid hx; have hc0 := Ext.cellAt hx (b := z.heap.size) (by first | omega | (simp; done) | (simp; omega)); have hc1 := Ext.cellAt hx (b := z2.heap.size) (by first | omega | (simp; done) | (simp; omega)); have hc2 := Ext.cellAt hx (b := b) (by first | omega | (simp; done) | (simp; omega)); clear hx; go_simp; first | done | ((try go_ints); first | done | rfl | (fail))); go_simp; refine hK _ ?_; clear hK K)
        refine Rt.only rfl (by kernel_rfl) (fun x hx K hK => ?_)
        have HX1 := Lib.hid (Ext.trans (Ext.drew (Ext.refl wr)) hx)
        clear hx
        go_wp2
        refine hK _ _ (Ext.alloc (Ext.refl _) _) ?_
        clear hK K
        refine Rt.tail0 rfl (by kernel_rfl) (fun y hy K hK => ?_)
        have HY := Lib.hid (Ext.trans (Ext.alloc HX1.out _) hy)
        have hnew := Ext.cellAt hy (b := x.heap.size) (by simp) 0
        simp at hnew
        clear hy
        have HO1 := Lib.hid (HO.out.ext HY.out)
        have hsz1 : z2.heap.size + 1 ≤ y.heap.size := HO1.out.le
        go_wp2_with (at_builtin; refine wpList_append_own_at _ rfl (.tmp 67) (.tmp 73) 27 rfl (z2.heap.size + 1) 9 i0 (.string ⟨#[]⟩) 1 16 Try.underlying27 HI.out Z0.out Z1.out Z2.out rfl (by decide) _ _ _ rfl HO1.out.nrow ⟨x.heap.size, 0, none⟩ 1 1 [.string nm] rfl rfl (one_old hnew) (str_cell _) (by unfold maxLen; (try simp); omega) (by (try simp); omega) hsz1 ?_)
        intro v5 w5 hown' hgrow _ hat
        obtain ⟨hbc5, hbf5⟩ := HO1.out.blkN hgrow
        have HO5n := Lib.hid (HO1.out.pushN (by first | exact hown' | (rw [List.length_append]; exact hown')) hgrow (by first | exact hat | simpa using hat))
        have HX5n := Lib.hid (Ext.setCell (ext_own (HX.out.trans HY.out) hgrow (fun g hg => by have := (HO1.out.nrow.lt g hg).1; omega)) (p := ⟨z2.heap.size, 1, none⟩) (by simp) v5)
        obtain ⟨p5, c5, hv'⟩ := row_form hown'
        clear hown' hgrow hat
        subst hv'
        clear HX HO HO1 hoc hof hc hcl hcl2 hlw
        go_wp2
        refine hK _ _ ?_
        clear hK K hnew hsz1 HY HX1 hbc5 hbf5
        generalize w5.setCell ⟨z2.heap.size, 1, none⟩ _ = zz at *
        clear w5 y
        obtain ⟨wb, rfl⟩ : ∃ q, q = zz := ⟨_, rfl⟩
        have HO := HO5n
        have HX := HX5n
        clear HO5n HX5n
        have hlw : z2.heap.size < wb.heap.size := HO.out.olt
        have hoc := HO.out.cell
        have hof := HO.out.free
        have hc := HX.out.cellAt (b := z.heap.size) (by omega)
        have hcl : wb.cell? ⟨b, off + j, none⟩ = some (.string nm) := by rw [HX.out.cellAt hb]; exact HC1.out
        have hcl2 : wb.cell? ⟨b2, off2 + j, none⟩ = some (.string bd) := by rw [HX.out.cellAt hb2]; exact HC2.out
        have hbw : b < wb.heap.size := by have := HX.out.size; omega
        have hbw2 : b2 < wb.heap.size := by have := HX.out.size; omega
        have hbz : z.heap.size < wb.heap.size := by have := HX.out.size; omega
        go_wp2_with fail
        refine wp_region_Rt Ext Ext.refl (by kernel_rfl) ?_
        repeat (refine Rt.takeU Ext.refl (fun _ _ _ => Ext.trans) rfl rfl (by kernel_rfl) (fun K hK => ?_); apply Exists.intro; refine ⟨fun x hx => ?_, ?_⟩; (next => have HX := Lib.hid hx; have hc0 := Ext.cellAt hx (b := z.heap.size) (by first | omega | (simp; done) | (simp; omega)); have hc1 := Ext.cellAt hx (b := z2.heap.size) (by first | omega | (simp; done) | (simp; omega)); have hc2 := Ext.cellAt hx (b := b2) (by first | omega | (simp; done) | (simp; omega)); clear hx; go_simp; first | done | ((try go_ints); first | done | rfl | (fail))); go_simp; refine hK _ ?_; clear hK K)
        refine Rt.only rfl (by kernel_rfl) (fun x hx K hK => ?_)
        have HX1 := Lib.hid (Ext.trans (Ext.drew (Ext.refl wb)) hx)
        clear hx
        go_wp2
        refine hK _ _ (Ext.alloc (Ext.refl _) _) ?_
        clear hK K
        refine Rt.tail0 rfl (by kernel_rfl) (fun y hy K hK => ?_)
        have HY := Lib.hid (Ext.trans (Ext.alloc HX1.out _) hy)
        have hnew := Ext.cellAt hy (b := x.heap.size) (by simp) 0
        simp at hnew
        clear hy
        have HO1 := Lib.hid (HO.out.ext HY.out)
        have hsz1 : z2.heap.size + 1 ≤ y.heap.size := HO1.out.le
        go_wp2_with (at_builtin; refine wpList_append_own_at _ rfl (.tmp 77) (.tmp 83) 27 rfl (z2.heap.size + 1) 9 i0 (.string ⟨#[]⟩) 1 16 Try.underlying27 HI.out Z0.out Z1.out Z2.out rfl (by decide) _ _ _ rfl HO1.out.brow ⟨x.heap.size, 0, none⟩ 1 1 [.string bd] rfl rfl (one_old hnew) (str_cell _) (by unfold maxLen; (try simp); omega) (by (try simp); omega) hsz1 ?_)
        intro v6 w6 hown' hgrow _ hat
        obtain ⟨hbc6, hbf6⟩ := HO1.out.blkB hgrow
        have HO6n := Lib.hid (HO1.out.pushB (by first | exact hown' | (rw [List.length_append]; exact hown')) hgrow (by first | exact hat | simpa using hat))
        have HX6n := Lib.hid (Ext.setCell (ext_own (HX.out.trans HY.out) hgrow (fun g hg => by have := (HO1.out.brow.lt g hg).1; omega)) (p := ⟨z2.heap.size, 2, none⟩) (by simp) v6)
        obtain ⟨p6, c6, hv'⟩ := row_form hown'
        clear hown' hgrow hat
        subst hv'
        clear HX HO HO1 hoc hof hc hcl hcl2 hlw
        go_wp2
        refine hK _ _ ?_
        clear hK K hnew hsz1 HY HX1 hbc6 hbf6
        generalize w6.setCell ⟨z2.heap.size, 2, none⟩ _ = zz at *
        clear w6 y
        go_wp2
        go_roundw
        case rel => exact ⟨j + 1, _, _, by omega, by go_num, by rw [HS2.out], by rw [HS2.out]; simpa [names_append, bodies_append, names, bodies] using HO6n.out, HX6n.out⟩
        case measure => simp [intOf]; omega
      --ROUNDS END
    ·
      --END
      obtain rfl : j = m.length := by omega
      have hil := insTo_len k s m m.length
      have hnl1 : (names (insTo k s m m.length).1).length ≤ 200000 := by simp only [names, List.length_map]; omega
      have hnl2 : (bodies (insTo k s m m.length).1).length ≤ 200000 := by simp only [bodies, List.length_map]; omega
      have hir : insertR k s m = if (insTo k s m m.length).2 then (insTo k s m m.length).1 else (insTo k s m m.length).1 ++ [(k, s)] := rfl
      generalize insTo k s m m.length = st at *
      obtain ⟨l, put⟩ := st
      have HIR0 := Lib.hid hir
      clear hir hil
      simp only at *
      cases put
      · have HIR : Hid (insertR k s m = l ++ [(k, s)]) := HIR0.out
        clear HIR0
        have HOa1 := Lib.hid (HO.out.ext (Ext.alloc (Ext.refl wr) (.cells #[.string k] 9)))
        have HXa1 := Lib.hid (Ext.alloc HX.out (.cells #[.string k] 9))
        have hlea1 := HOa1.out.le
        go_wp2_with (at_builtin; refine wpList_append_own_at _ rfl (.tmp 89) (.tmp 91) 27 rfl (z2.heap.size + 1) 9 i0 (.string ⟨#[]⟩) 1 16 Try.underlying27 HI.out Z0.out Z1.out Z2.out rfl (by decide) _ _ _ rfl HOa1.out.nrow ⟨_, 0, none⟩ 1 1 [.string k] rfl rfl (cell_new_at _ _ _ _ (by first | rfl | (rw [size_setCell]))) (str_cell _) (by unfold maxLen; (try simp); omega) (by (try simp); omega) hlea1 ?_)
        intro v1 w1 hown' hgrow _ hat
        obtain ⟨hbca, hbf1⟩ := HOa1.out.blkN hgrow
        have HO1n := Lib.hid (HOa1.out.pushN (by first | exact hown' | (rw [List.length_append]; exact hown')) hgrow (by first | exact hat | simpa using hat))
        have HX1n := Lib.hid (Ext.setCell (ext_own HXa1.out hgrow (fun g hg => by have := (HOa1.out.nrow.lt g hg).1; omega)) (p := ⟨z2.heap.size, 1, none⟩) (by simp) v1)
        obtain ⟨pa, ca, hv'⟩ := row_form hown'
        clear hown' hgrow hat
        subst hv'
        have HOa2 := Lib.hid (HO1n.out.ext (Ext.alloc (Ext.refl (w1.setCell ⟨z2.heap.size, 1, none⟩ (.slice pa ((names l).length + 1) ca))) (.cells #[.string s] 9)))
        have HXa2 := Lib.hid (Ext.alloc HX1n.out (.cells #[.string s] 9))
        have hlea2 := HOa2.out.le
        go_wp2_with (at_builtin; refine wpList_append_own_at _ rfl (.tmp 95) (.tmp 97) 27 rfl (z2.heap.size + 1) 9 i0 (.string ⟨#[]⟩) 1 16 Try.underlying27 HI.out Z0.out Z1.out Z2.out rfl (by decide) _ _ _ rfl HOa2.out.brow ⟨_, 0, none⟩ 1 1 [.string s] rfl rfl (cell_new_at _ _ _ _ (by first | rfl | (rw [size_setCell]))) (str_cell _) (by unfold maxLen; (try simp); omega) (by (try simp); omega) hlea2 ?_)
        intro v2 w2 hown' hgrow _ hat
        obtain ⟨hbcb, hbf2⟩ := HOa2.out.blkB hgrow
        have HO2n := Lib.hid (HOa2.out.pushB (by first | exact hown' | (rw [List.length_append]; exact hown')) hgrow (by first | exact hat | simpa using hat))
        have HX2n := Lib.hid (Ext.setCell (ext_own HXa2.out hgrow (fun g hg => by have := (HOa2.out.brow.lt g hg).1; omega)) (p := ⟨z2.heap.size, 2, none⟩) (by simp) v2)
        obtain ⟨pb, cb, hv'⟩ := row_form hown'
        clear hown' hgrow hat
        subst hv'
        clear HO HX HOa1 HXa1 hlea1 HO1n HX1n HOa2 HXa2 hlea2 hoc hof hc hlw
        have HNR : Hid (names (l ++ [(k, s)]) = names l ++ [k] ∧ bodies (l ++ [(k, s)]) = bodies l ++ [s]) := by unfold Hid; simp [names, bodies]
        rw [← HNR.out.1, ← HNR.out.2] at HO2n
        have hn9 : (names (l ++ [(k, s)])).length = (names l).length + 1 := by simp [names]
        have hc6 := HX2n.out.cellAt (b := w.heap.size + 1) (by omega)
        have hf6 := HX2n.out.frozenAt (b := w.heap.size + 1) (by omega)
        have hoc := HO2n.out.cell
        have hlz := HX2n.out.size
        go_wp2
        refine bodyPost_ret (v := .tuple #[.agg #[.int .i64 size, .slice pa ((names l).length + 1) ca, .slice pb ((bodies l).length + 1) cb], .int .i64 0]) (by simp only [results, Try.results54]; go_simp) rfl ⟨_, rfl, ?_, ?_⟩
        · (first | rw [HIR.out] | rw [HDR.out, HIR.out])
          refine refV_rows (base := z2.heap.size + 1) ?_ ?_
          · have h := HO2n.out.nrow
            exact row_set (row_set (row_set h (by omega) _ _) (by omega) _ _) (by omega) _ _
          · have h := HO2n.out.brow
            exact row_set (row_set (row_set h (by omega) _ _) (by omega) _ _) (by omega) _ _
        · have E9 := HE2.out.trans HX2n.out
          repeat (first | (with_reducible exact E9) | (with_reducible refine Ext.drewN ?_ _) | (with_reducible refine Ext.drew ?_) | (with_reducible refine Ext.setCell ?_ (by first | omega | (simp; done) | (simp; omega)) _) | (with_reducible refine Ext.alloc ?_ _))
      · have HIR : Hid (insertR k s m = l) := HIR0.out
        clear HIR0
        obtain ⟨pa, ca, rfl⟩ := row_form HO.out.nrow
        obtain ⟨pb, cb, rfl⟩ := row_form HO.out.brow
        have hc6 := HX.out.cellAt (b := w.heap.size + 1) (by omega)
        have hf6 := HX.out.frozenAt (b := w.heap.size + 1) (by omega)
        have hoc := HO.out.cell
        have hlz := HX.out.size
        go_wp2
        refine bodyPost_ret (v := .tuple #[.agg #[.int .i64 size, .slice pa (names l).length ca, .slice pb (bodies l).length cb], .int .i64 0]) (by simp only [results, Try.results54]; go_simp) rfl ⟨_, rfl, ?_, ?_⟩
        · (first | rw [HIR.out] | rw [HDR.out, HIR.out])
          refine refV_rows (base := z2.heap.size + 1) ?_ ?_
          · have h := HO.out.nrow
            exact row_set (row_set (row_set h (by omega) _ _) (by omega) _ _) (by omega) _ _
          · have h := HO.out.brow
            exact row_set (row_set (row_set h (by omega) _ _) (by omega) _ _) (by omega) _ _
        · have E9 := HE2.out.trans HX.out
          repeat (first | (with_reducible exact E9) | (with_reducible refine Ext.drewN ?_ _) | (with_reducible refine Ext.drew ?_) | (with_reducible refine Ext.setCell ?_ (by first | omega | (simp; done) | (simp; omega)) _) | (with_reducible refine Ext.alloc ?_ _))
      --END END
end Go.Proofs.Ytlihjhalbemfmaa
