/- The reference's disk without a name. -/
import Derived.Test.YtlihjhalbemfmaaRefOut
namespace Go.Proofs.Ytlihjhalbemfmaa
open Go.RowKit

theorem drop_step {r : Held} {j : Nat} (h : j < r.length) (k : ByteArray) : dropAt (r.take (j + 1)) k = if (names r).getD j ⟨#[]⟩ = k then dropAt (r.take j) k else dropAt (r.take j) k ++ [((names r).getD j ⟨#[]⟩, (bodies r).getD j ⟨#[]⟩)] := by
  have e1 : (names r).getD j ⟨#[]⟩ = r[j].1 := by simp [names, h]
  have e2 : (bodies r).getD j ⟨#[]⟩ = r[j].2 := by simp [bodies, h]
  rw [List.take_succ_eq_append_getElem h, e1, e2]
  unfold dropAt
  rw [List.filter_append]
  by_cases hk : r[j].1 = k
  · rw [if_pos hk, List.filter_cons, if_neg (by simpa using hk)]; simp
  · rw [if_neg hk, List.filter_cons, if_pos (by simpa using hk)]; simp

theorem names_append (a b : Held) : names (a ++ b) = names a ++ names b := by simp [names]
theorem bodies_append (a b : Held) : bodies (a ++ b) = bodies a ++ bodies b := by simp [bodies]

set_option maxRecDepth 30000 in
set_option maxHeartbeats 2000000 in
theorem without_full (size : Int) (r : Held) (p q : Option Addr) (cn cq : Nat) (k : ByteArray) (w : World) (hl : r.length ≤ 1000000) (hN : TextsAt w p (names r)) (hB : TextsAt w q (bodies r)) :
    Calls Try.prog 53 #[.agg #[.int .i64 size, .slice p r.length cn, .slice q r.length cq], .string k] w fun e w' => ∃ nv hv, e = .returned (.agg #[.int .i64 size, nv, hv]) ∧ w'.ownsRow w.heap.size 9 1 nv (names (dropAt r k)).length (strsV (names (dropAt r k))) ∧ w'.ownsRow w.heap.size 9 1 hv (bodies (dropAt r k)).length (strsV (bodies (dropAt r k))) ∧ Ext w w' ∧ (∀ g, nv.ownBlock = some g → hv.ownBlock ≠ some g) := by
  have HN := Lib.hid hN
  have HB := Lib.hid hB
  obtain ⟨i0, hi, hz0, hz1, hz2⟩ := info_parts info_str
  have HI := Lib.hid hi
  have Z0 := Lib.hid hz0
  have Z1 := Lib.hid hz1
  have Z2 := Lib.hid hz2
  clear hN hB hi hz0 hz1 hz2
  go_enter Try.func53, Try.ntmps53
  go_wp2_with fail
  go_loopw [6] (fun i wr => ∃ (j : Nat) (nv hv : Value), j ≤ r.length ∧ i = .int .i64 j ∧ OutAt wr (w.heap.size + 2) (w.heap.size + 3) size nv hv (names (dropAt (r.take j) k)) (bodies (dropAt (r.take j) k)) ∧
    Ext ((w.alloc (.cells #[.int .i64 size, .slice p r.length cn, .slice q r.length cq] 58)).alloc (.cells #[.int .i64 0, .slice none 0 0, .slice none 0 0] 58)) wr) (fun i _ => r.length - (intOf i).toNat)
  case atStart =>
    refine ⟨0, .slice none 0 0, .slice none 0 0, Nat.zero_le _, rfl, ⟨?_, World.ownsRow_nil _ _ _ _, World.ownsRow_nil _ _ _ _, by simp [Value.ownBlock], by omega, by simp⟩, by repeat (first | (with_reducible exact Ext.refl _) | (with_reducible assumption) | (with_reducible refine Ext.drewN ?_ _) | (with_reducible refine Ext.drew ?_) | (with_reducible refine Ext.alloc ?_ _) | (refine Ext.trans ?_ (by with_reducible assumption)))⟩
    have := heap_alloc_new ((w.alloc (.cells #[.int .i64 size, .slice p r.length cn, .slice q r.length cq] 58)).alloc (.cells #[.int .i64 0, .slice none 0 0, .slice none 0 0] 58)) (.cells #[.int .i64 size, .slice none 0 0, .slice none 0 0] 58)
    simpa using this
  case round =>
    obtain ⟨j, nv, hv, hj, rfl, ho, hx⟩ := hrel
    have HO := Lib.hid ho
    have HX := Lib.hid hx
    have hlw : w.heap.size + 2 < wr.heap.size := ho.olt
    have hc := hx.cellAt (b := w.heap.size) (by simp; omega)
    have hoc := ho.cell
    have hof := ho.free
    have E0 := Lib.hid (Ext.trans (by repeat (first | (with_reducible exact Ext.refl _) | (with_reducible assumption) | (with_reducible refine Ext.drewN ?_ _) | (with_reducible refine Ext.drew ?_) | (with_reducible refine Ext.alloc ?_ _) | (refine Ext.trans ?_ (by with_reducible assumption)))) hx : Ext w wr)
    clear ho hx
    by_cases hlt : j < r.length
    · have hst := drop_step hlt k
      have hN := HN.out
      have hB := HB.out
      rcases hN with hN | ⟨b, off, rfl, hb, hcell⟩
      · have : r.length = 0 := by have := congrArg List.length hN; simpa [names] using this
        omega
      rcases hB with hB | ⟨b2, off2, rfl, hb2, hcell2⟩
      · have : r.length = 0 := by have := congrArg List.length hB; simpa [bodies] using this
        omega
      have HC1 := Lib.hid (hcell j (by simpa [names] using hlt))
      have HC2 := Lib.hid (hcell2 j (by simpa [bodies] using hlt))
      have hcl : wr.cell? ⟨b, off + j, none⟩ = some (.string ((names r).getD j ⟨#[]⟩)) := by
        rw [E0.out.cellAt hb]; exact hcell j (by simpa [names] using hlt)
      have hcl2 : wr.cell? ⟨b2, off2 + j, none⟩ = some (.string ((bodies r).getD j ⟨#[]⟩)) := by
        rw [E0.out.cellAt hb2]; exact hcell2 j (by simpa [bodies] using hlt)
      have hbw : b < wr.heap.size := by omega
      have hbw2 : b2 < wr.heap.size := by omega
      have hnl : (names (dropAt (r.take j) k)).length ≤ 1000000 ∧ (bodies (dropAt (r.take j) k)).length ≤ 1000000 := by
        have h1 := (drop_sub (r.take j) k).length_le
        have h2 : (r.take j).length ≤ r.length := List.length_take_le' _ _
        simp only [names, bodies, List.length_map]
        omega
      obtain ⟨hnl1, hnl2⟩ := hnl
      clear hcell hcell2
      generalize (names r).getD j ⟨#[]⟩ = nm at *
      generalize (bodies r).getD j ⟨#[]⟩ = bd at *
      have HST := Lib.hid hst
      clear hst
      by_cases he : nm = k
      · have HS2 := Lib.hid (HST.out.trans (if_pos he))
        clear HST
        subst he
        go_wp2
        go_roundw
        case rel => exact ⟨j + 1, nv, hv, by omega, by go_num, by rw [HS2.out]; exact HO.out, HX.out⟩
        case measure => simp [intOf]; omega
      · have HS2 := Lib.hid (HST.out.trans (if_neg he))
        have hne2 : (nm.toList == k.toList) = false := by
          have : ¬ nm.toList = k.toList := fun h => he (toList_inj h)
          simpa using this
        have hne3 : (nm.toList != k.toList) = true := by simp [bne, hne2]
        clear HST
        go_wp2_with fail
        refine wp_region_Rt Ext Ext.refl (by kernel_rfl) ?_
        repeat (refine Rt.takeU Ext.refl (fun _ _ _ => Ext.trans) rfl rfl (by kernel_rfl) (fun K hK => ?_); apply Exists.intro; refine ⟨fun x hx => ?_, ?_⟩; (next => have HX := Lib.hid hx; have hc0 := Ext.cellAt hx (b := w.heap.size) (by first | omega | (simp; done) | (simp; omega)); have hc1 := Ext.cellAt hx (b := w.heap.size + 2) (by first | omega | (simp; done) | (simp; omega)); have hc2 := Ext.cellAt hx (b := b) (by first | omega | (simp; done) | (simp; omega)); clear hx; go_simp; first | done | ((try go_ints); first | done | rfl | (fail))); go_simp; refine hK _ ?_; clear hK K)
        refine Rt.only rfl (by kernel_rfl) (fun x hx K hK => ?_)
        have HX1 := Lib.hid (Ext.trans (Ext.drew (Ext.refl wr)) hx)
        clear hx
        go_wp2
        refine hK _ _ (Ext.alloc (Ext.refl _) _) ?_
        clear hK K
        refine Rt.tail0 rfl (by kernel_rfl) (fun y hy K hK => ?_)
        have HY := Lib.hid (Ext.trans (Ext.alloc HX1.out _) hy)
        have hnew := Ext.cellAt hy (b := x.heap.size) (by simp) 0
        simp at hnew
        clear hy
        have HO1 := Lib.hid (HO.out.ext HY.out)
        have hsz1 : w.heap.size + 3 ≤ y.heap.size := HO1.out.le
        go_wp2_with (at_builtin; refine wpList_append_own_at _ rfl (.tmp 25) (.tmp 31) 27 rfl (w.heap.size + 3) 9 i0 (.string ⟨#[]⟩) 1 16 Try.underlying27 HI.out Z0.out Z1.out Z2.out rfl (by decide) _ _ _ rfl HO1.out.nrow ⟨x.heap.size, 0, none⟩ 1 1 [.string nm] rfl rfl (one_old hnew) (str_cell _) (by unfold maxLen; omega) (by omega) hsz1 ?_)
        intro v' w1 hown' hgrow _ hat
        obtain ⟨hbc, hbf⟩ := HO1.out.blkN hgrow
        have HO2 := Lib.hid (HO1.out.pushN hown' hgrow hat)
        have HX2 := Lib.hid (Ext.setCell (ext_own (HX.out.trans HY.out) hgrow (fun g hg => by have := (HO1.out.nrow.lt g hg).1; simp; omega)) (p := ⟨w.heap.size + 2, 1, none⟩) (by simp) v')
        obtain ⟨p', c', hv'⟩ := row_form hown'
        clear hown' hgrow hat HX HO HO1 hoc hof hc hcl hcl2
        subst hv'
        go_wp2
        refine hK _ _ ?_
        clear hK K hnew hsz1 HY HX1 hbc hbf
        generalize w1.setCell ⟨w.heap.size + 2, 1, none⟩ _ = z at *
        clear w1 y
        obtain ⟨z1, rfl⟩ : ∃ z1, z1 = z := ⟨_, rfl⟩
        have HO := HO2
        have HX := HX2
        have hlw : w.heap.size + 2 < z1.heap.size := HO.out.olt
        have hc := HX.out.cellAt (b := w.heap.size) (by simp; omega)
        have hoc := HO.out.cell
        have hof := HO.out.free
        have E0 := Lib.hid (Ext.trans (by repeat (first | (with_reducible exact Ext.refl _) | (with_reducible assumption) | (with_reducible refine Ext.drewN ?_ _) | (with_reducible refine Ext.drew ?_) | (with_reducible refine Ext.alloc ?_ _) | (refine Ext.trans ?_ (by with_reducible assumption)))) HX.out : Ext w z1)
        have hcl : z1.cell? ⟨b, off + j, none⟩ = some (.string nm) := by rw [E0.out.cellAt hb]; exact HC1.out
        have hcl2 : z1.cell? ⟨b2, off2 + j, none⟩ = some (.string bd) := by rw [E0.out.cellAt hb2]; exact HC2.out
        have hbw : b < z1.heap.size := by have := E0.out.size; omega
        have hbw2 : b2 < z1.heap.size := by have := E0.out.size; omega
        clear HO2 HX2
        go_wp2_with fail
        refine wp_region_Rt Ext Ext.refl (by kernel_rfl) ?_
        repeat (refine Rt.takeU Ext.refl (fun _ _ _ => Ext.trans) rfl rfl (by kernel_rfl) (fun K hK => ?_); apply Exists.intro; refine ⟨fun x hx => ?_, ?_⟩; (next => have HX := Lib.hid hx; have hc0 := Ext.cellAt hx (b := w.heap.size) (by first | omega | (simp; done) | (simp; omega)); have hc1 := Ext.cellAt hx (b := w.heap.size + 2) (by first | omega | (simp; done) | (simp; omega)); have hc2 := Ext.cellAt hx (b := b2) (by first | omega | (simp; done) | (simp; omega)); clear hx; go_simp; first | done | ((try go_ints); first | done | rfl | (fail))); go_simp; refine hK _ ?_; clear hK K)
        refine Rt.only rfl (by kernel_rfl) (fun x hx K hK => ?_)
        have HX1 := Lib.hid (Ext.trans (Ext.drew (Ext.refl z1)) hx)
        clear hx
        go_wp2
        refine hK _ _ (Ext.alloc (Ext.refl _) _) ?_
        clear hK K
        refine Rt.tail0 rfl (by kernel_rfl) (fun y hy K hK => ?_)
        have HY := Lib.hid (Ext.trans (Ext.alloc HX1.out _) hy)
        have hnew := Ext.cellAt hy (b := x.heap.size) (by simp) 0
        simp at hnew
        clear hy
        have HO1 := Lib.hid (HO.out.ext HY.out)
        have hsz1 : w.heap.size + 3 ≤ y.heap.size := HO1.out.le
        go_wp2_with (at_builtin; refine wpList_append_own_at _ rfl (.tmp 35) (.tmp 41) 27 rfl (w.heap.size + 3) 9 i0 (.string ⟨#[]⟩) 1 16 Try.underlying27 HI.out Z0.out Z1.out Z2.out rfl (by decide) _ _ _ rfl HO1.out.brow ⟨x.heap.size, 0, none⟩ 1 1 [.string bd] rfl rfl (one_old hnew) (str_cell _) (by unfold maxLen; omega) (by omega) hsz1 ?_)
        intro v' w1 hown' hgrow _ hat
        obtain ⟨hbc, hbf⟩ := HO1.out.blkB hgrow
        have HO2 := Lib.hid (HO1.out.pushB hown' hgrow hat)
        have HX2 := Lib.hid (Ext.setCell (ext_own (HX.out.trans HY.out) hgrow (fun g hg => by have := (HO1.out.brow.lt g hg).1; simp; omega)) (p := ⟨w.heap.size + 2, 2, none⟩) (by simp) v')
        obtain ⟨p', c', hv'⟩ := row_form hown'
        clear hown' hgrow hat HX HO HO1 hoc hof hc hcl hcl2
        subst hv'
        go_wp2
        refine hK _ _ ?_
        clear hK K hnew hsz1 HY HX1 hbc hbf
        generalize w1.setCell ⟨w.heap.size + 2, 2, none⟩ _ = z at *
        clear w1 y

        go_wp2
        go_roundw
        case rel => exact ⟨j + 1, _, _, by omega, by go_num, by rw [HS2.out, names_append, bodies_append]; exact HO2.out, HX2.out⟩
        case measure => simp [intOf]; omega
    · obtain rfl : j = r.length := by omega
      rw [List.take_length] at HO
      obtain ⟨p1, c1, rfl⟩ := row_form HO.out.nrow
      obtain ⟨p2, c2, rfl⟩ := row_form HO.out.brow
      have hc1 := HX.out.cellAt (b := w.heap.size + 1) (by simp)
      have hf1 := HX.out.frozenAt (b := w.heap.size + 1) (by simp)
      generalize hnn : (names (dropAt r k)).length = n1 at *
      generalize hbb : (bodies (dropAt r k)).length = n2 at *
      have HNN := Lib.hid hnn
      have HBB := Lib.hid hbb
      clear hnn hbb
      go_wp2
      refine bodyPost_ret (v := .agg #[.int .i64 size, .slice p1 n1 c1, .slice p2 n2 c2]) (by simp only [results, Try.results53]; go_simp) rfl ⟨.slice p1 n1 c1, .slice p2 n2 c2, rfl, ?_, ?_, ?_, HO.out.apart⟩
      · have h := HO.out.nrow
        rw [HNN.out] at h ⊢
        exact row_base (row_set (row_set (row_set h (by omega) _ _) (by omega) _ _) (by omega) _ _) (by omega)
      · have h := HO.out.brow
        rw [HBB.out] at h ⊢
        exact row_base (row_set (row_set (row_set h (by omega) _ _) (by omega) _ _) (by omega) _ _) (by omega)
      · repeat (first | (with_reducible exact E0.out) | (with_reducible refine Ext.drewN ?_ _) | (with_reducible refine Ext.drew ?_) | (with_reducible refine Ext.setCell ?_ (by first | omega | (simp; done) | (simp; omega)) _) | (with_reducible refine Ext.alloc ?_ _))
theorem without_any (size : Int) (r : Held) (p q : Option Addr) (cn cq : Nat) (k : ByteArray) (w : World) (hl : r.length ≤ 1000000) (hN : TextsAt w p (names r)) (hB : TextsAt w q (bodies r)) :
    Calls Try.prog 53 #[.agg #[.int .i64 size, .slice p r.length cn, .slice q r.length cq], .string k] w fun e w' => ∃ nv hv, e = .returned (.agg #[.int .i64 size, nv, hv]) ∧ w'.ownsRow w.heap.size 9 1 nv (names (dropAt r k)).length (strsV (names (dropAt r k))) ∧ w'.ownsRow w.heap.size 9 1 hv (bodies (dropAt r k)).length (strsV (bodies (dropAt r k))) ∧ Ext w w' :=
  (without_full size r p q cn cq k w hl hN hB).mono fun _ _ ⟨nv, hv, h1, h2, h3, h4, _⟩ => ⟨nv, hv, h1, h2, h3, h4⟩
end Go.Proofs.Ytlihjhalbemfmaa
