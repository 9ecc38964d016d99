/- The contract of the greatest common divisor of points. -/
import Derived.Test.YtlihjhalbemfmaaPoint
namespace Go.Proofs.Ytlihjhalbemfmaa
open Go.RowKit
open Gs (Sm)

/-- A point lies in a block. -/
structure PtAt (w : World) (b : Nat) (p : Gs.Pt) : Prop where
  x : w.cell? ⟨b, 0, none⟩ = some (.int .i64 p.x)
  y : w.cell? ⟨b, 1, none⟩ = some (.int .i64 p.y)
  fx : w.frozen? ⟨b, 0, none⟩ = false
  fy : w.frozen? ⟨b, 1, none⟩ = false

theorem PtAt.ext {w w' : World} {b : Nat} {p : Gs.Pt} (h : PtAt w b p) (hb : b < w.heap.size) (e : Ext w w') : PtAt w' b p :=
  ⟨by rw [e.cellAt hb]; exact h.x, by rw [e.cellAt hb]; exact h.y, by rw [e.frozenAt hb]; exact h.fx, by rw [e.frozenAt hb]; exact h.fy⟩

attribute [local go_sem high] eqSpot

set_option maxHeartbeats 2000000 in
theorem Common_any (a b : Gs.Pt) (w : World) (ha : Sm a) (hb : Sm b) :
    Calls Try.prog 62 #[ptV a, ptV b] w fun e w' => e = .returned (.tuple #[ptV (Gs.common a b), .int .i64 0]) ∧ Ext w w' := by
  have hoa : spotOk a.x a.y = true := by obtain ⟨h1, h2, h3, h4⟩ := ha; simp [spotOk, h1, h2, h3, h4]
  have hob : spotOk b.x b.y = true := by obtain ⟨h1, h2, h3, h4⟩ := hb; simp [spotOk, h1, h2, h3, h4]
  go_enter Try.func62, Try.ntmps62
  unfold ptV
  go_wp2
  apply wp_scope_labelg 0 (fun k a' w' => ∃ (u0 u1 u6 u7 u8 u9 u10 u11 u12 u13 u14 u15 u16 u17 u18 u19 u20 u21 u22 u23 u24 u25 u26 u27 u28 u29 u30 u31 u32 u33 u34 u35 u36 u37 u38 u39 u40 u41 u42 u43 u44 u45 u46 u47 : Value) (p q : Gs.Pt), a' = { tmps := #[u0, u1, .pointer (some ⟨w.heap.size, 0, none⟩), .pointer (some ⟨w.heap.size + 1, 0, none⟩), .pointer (some ⟨w.heap.size + 1 + 1, 0, none⟩), .int .i64 0, u6, u7, u8, u9, u10, u11, u12, u13, u14, u15, u16, u17, u18, u19, u20, u21, u22, u23, u24, u25, u26, u27, u28, u29, u30, u31, u32, u33, u34, u35, u36, u37, u38, u39, u40, u41, u42, u43, u44, u45, u46, u47], defers := [] } ∧
    k = (Gs.norm q).toNat ∧ Sm p ∧ Sm q ∧ Gs.euclid (Gs.rounds q) p q = Gs.euclid (Gs.rounds b) a b ∧ Ext w w' ∧ PtAt w' w.heap.size p ∧ PtAt w' (w.heap.size + 1) q ∧ PtAt w' (w.heap.size + 1 + 1) Gs.zero ∧ w.heap.size + 2 < w'.heap.size)
  · rfl
  · intro K hK
    have HK := Lib.hid hK
    clear hK
    go_wp2_with fail
    refine (gaussRight_any _ _ _).mono ?_
    rintro e z1 ⟨rfl, hz1⟩
    have E1 : Ext w z1 := Ext.trans (by repeat (first | (with_reducible exact Ext.refl _) | (with_reducible assumption) | (with_reducible refine Ext.drewN ?_ _) | (with_reducible refine Ext.drew ?_) | (with_reducible refine Ext.alloc ?_ _) | (refine Ext.trans ?_ (by with_reducible assumption)))) hz1
    have hcz10 := Ext.cellAt hz1 (b := w.heap.size) (by first | omega | (simp; done) | (simp; omega)); have hfz10 := Ext.frozenAt hz1 (b := w.heap.size) (by first | omega | (simp; done) | (simp; omega)); have hlz10 : w.heap.size < z1.heap.size := (by have := Ext.size hz1; first | omega | (simp at *; omega)); have hcz11 := Ext.cellAt hz1 (b := w.heap.size + 1) (by first | omega | (simp; done) | (simp; omega)); have hfz11 := Ext.frozenAt hz1 (b := w.heap.size + 1) (by first | omega | (simp; done) | (simp; omega)); have hlz11 : w.heap.size + 1 < z1.heap.size := (by have := Ext.size hz1; first | omega | (simp at *; omega)); have hcz12 := Ext.cellAt hz1 (b := w.heap.size + 1 + 1) (by first | omega | (simp; done) | (simp; omega)); have hfz12 := Ext.frozenAt hz1 (b := w.heap.size + 1 + 1) (by first | omega | (simp; done) | (simp; omega)); have hlz12 : w.heap.size + 1 + 1 < z1.heap.size := (by have := Ext.size hz1; first | omega | (simp at *; omega))
    clear hz1
    go_wp2_with fail
    refine (gaussRight_any _ _ _).mono ?_
    rintro e z2 ⟨rfl, hz2⟩
    have E2 : Ext w z2 := E1.trans hz2
    have hcz20 := Ext.cellAt hz2 (b := w.heap.size) (by first | omega | (simp; done) | (simp; omega)); have hfz20 := Ext.frozenAt hz2 (b := w.heap.size) (by first | omega | (simp; done) | (simp; omega)); have hlz20 : w.heap.size < z2.heap.size := (by have := Ext.size hz2; first | omega | (simp at *; omega)); have hcz21 := Ext.cellAt hz2 (b := w.heap.size + 1) (by first | omega | (simp; done) | (simp; omega)); have hfz21 := Ext.frozenAt hz2 (b := w.heap.size + 1) (by first | omega | (simp; done) | (simp; omega)); have hlz21 : w.heap.size + 1 < z2.heap.size := (by have := Ext.size hz2; first | omega | (simp at *; omega)); have hcz22 := Ext.cellAt hz2 (b := w.heap.size + 1 + 1) (by first | omega | (simp; done) | (simp; omega)); have hfz22 := Ext.frozenAt hz2 (b := w.heap.size + 1 + 1) (by first | omega | (simp; done) | (simp; omega)); have hlz22 : w.heap.size + 1 + 1 < z2.heap.size := (by have := Ext.size hz2; first | omega | (simp at *; omega))
    clear hz2
    go_wp2_with fail
    rename_i Kx hKx
    refine wp_label (hKx _ _ ?_)
    have hs : w.heap.size + 2 < z2.heap.size := by omega
    exact HK.out _ _ _ ⟨_, _, _, _, _, _, _, _, _, _, _, _, _, _, _, _, _, _, _, _, _, _, _, _, _, _, _, _, _, _, _, _, _, _, _, _, _, _, _, _, _, _, _, _,  a, b, rfl, rfl, ha, hb, rfl, E2, ⟨by go_simp, by go_simp, by go_simp, by go_simp⟩, ⟨by go_simp, by go_simp, by go_simp, by go_simp⟩, ⟨by go_simp; rfl, by go_simp; rfl, by go_simp, by go_simp⟩, hs⟩
  · rintro k _ w1 ⟨u0, u1, u6, u7, u8, u9, u10, u11, u12, u13, u14, u15, u16, u17, u18, u19, u20, u21, u22, u23, u24, u25, u26, u27, u28, u29, u30, u31, u32, u33, u34, u35, u36, u37, u38, u39, u40, u41, u42, u43, u44, u45, u46, u47, p, q, rfl, rfl, hp, hq, he, hx, hp2, hq2, hr2, hs⟩ K hK
    have HE := Lib.hid he
    have HK := Lib.hid hK
    clear he hK
    obtain ⟨px, py⟩ := p
    obtain ⟨qx, qy⟩ := q
    obtain ⟨p1, p2, p3, p4⟩ := hp2
    obtain ⟨q1, q2, q3, q4⟩ := hq2
    obtain ⟨r1, r2, r3, r4⟩ := hr2
    have hl1 : w.heap.size < w1.heap.size := by omega
    have hl2 : w.heap.size + 1 < w1.heap.size := by omega
    have hl3 : w.heap.size + 1 + 1 < w1.heap.size := by omega
    dsimp only at p1 p2 q1 q2
    by_cases hz : qx = 0 ∧ qy = 0
    · obtain ⟨rfl, rfl⟩ := hz
      have hG : Gs.common a b = Gs.turned 3 ⟨px, py⟩ := by
        have h1 := HE.out
        rw [show (⟨0, 0⟩ : Gs.Pt) = Gs.zero from rfl, Gs.euclid_end] at h1
        unfold Gs.common; rw [← h1]
      have hF : Gs.First (Gs.common a b) := Gs.common_first a b
      have HG := Lib.hid hG
      have HF := Lib.hid hF
      clear HE HK hG hF
      go_wp2
      go_loopg [] 3 (fun k wr => ∃ p : Gs.Pt, Gs.turned k p = Gs.common a b ∧ Sm p ∧ Ext w wr ∧ PtAt wr w.heap.size p ∧ PtAt wr (w.heap.size + 1 + 1) Gs.zero ∧ w.heap.size + 2 < wr.heap.size)
      case atStart => exact ⟨⟨px, py⟩, HG.out.symm, hp, hx, ⟨p1, p2, p3, p4⟩, ⟨r1, r2, r3, r4⟩, hs⟩
      case round =>
        clear p1 p2 p3 p4 q1 q2 q3 q4 r1 r2 r3 r4 hl1 hl2 hl3 hs HG hx
        obtain ⟨⟨x, y⟩, ht, hsm, hx, ⟨p1, p2, p3, p4⟩, ⟨r1, r2, r3, r4⟩, hs⟩ := hrel
        have HT := Lib.hid ht
        have hst := Gs.turn_small hsm
        obtain ⟨sm1, sm2, sm3, sm4⟩ := hsm
        dsimp only at sm1 sm2 sm3 sm4
        clear ht
        dsimp only at p1 p2
        have hl1 : w.heap.size < wr.heap.size := by omega
        have hl3 : w.heap.size + 1 + 1 < wr.heap.size := by omega
        by_cases hA : x = 0 ∧ y = 0
        · obtain ⟨rfl, rfl⟩ := hA
          have HGe : Hid (Gs.common a b = ⟨0, 0⟩) := by unfold Hid; rw [← HT.out]; exact Gs.turned_of_first (.inl rfl)
          clear HT HF
          go_wp2
          refine jump_ret ?_
          refine bodyPost_ret (v := .tuple #[.agg #[.int .i64 0, .int .i64 0], .int .i64 0]) (by simp only [results, Try.results62]; go_simp) rfl ⟨by rw [HGe.out], ?_⟩
          repeat (first | (with_reducible exact hx) | (with_reducible refine Ext.drewN ?_ _) | (with_reducible refine Ext.drew ?_) | (with_reducible refine Ext.setCell ?_ (by first | omega | (simp; done) | (simp; omega)) _) | (with_reducible refine Ext.alloc ?_ _))
        · have hA' : (x == 0 && y == 0) = false := by simpa using hA
          by_cases hB : 0 < x ∧ 0 ≤ y
          · obtain ⟨hB1, hB2⟩ := hB
            have HGe : Hid (Gs.common a b = ⟨x, y⟩) := by unfold Hid; rw [← HT.out]; exact Gs.turned_of_first (.inr ⟨hB1, hB2⟩)
            clear HT HF
            go_wp2
            refine jump_ret ?_
            refine bodyPost_ret (v := .tuple #[.agg #[.int .i64 x, .int .i64 y], .int .i64 0]) (by simp only [results, Try.results62]; go_simp) rfl ⟨by rw [HGe.out], ?_⟩
            repeat (first | (with_reducible exact hx) | (with_reducible refine Ext.drewN ?_ _) | (with_reducible refine Ext.drew ?_) | (with_reducible refine Ext.setCell ?_ (by first | omega | (simp; done) | (simp; omega)) _) | (with_reducible refine Ext.alloc ?_ _))
          · obtain ⟨j, hj1, hj2⟩ := Gs.turned_step (k := gk) (a := ⟨x, y⟩) (by rintro (h | h); exact hA (by simpa [Gs.zero] using h); exact hB h) (by rw [HT.out]; exact HF.out)
            have HJ := Lib.hid hj1
            have HT2 : Hid (Gs.turned j ⟨-y, x⟩ = Gs.common a b) := by have := HT.out; rw [hj2] at this; exact this
            clear hj1 hj2 hA HT HF
            by_cases hC : x ≤ 0
            · go_wp2
              go_roundg j
              case measure => have := HJ.out; omega
              case rel => exact ⟨⟨-y, x⟩, HT2.out, hst, by repeat (first | (with_reducible exact hx) | (with_reducible refine Ext.drewN ?_ _) | (with_reducible refine Ext.drew ?_) | (with_reducible refine Ext.setCell ?_ (by first | omega | (simp; done) | (simp; omega)) _) | (with_reducible refine Ext.alloc ?_ _)), ⟨by go_simp, by go_simp, by go_simp, by go_simp⟩, ⟨by go_simp, by go_simp, by go_simp, by go_simp⟩, by simp; omega⟩
            · have hD : y < 0 := by omega
              go_wp2
              go_roundg j
              case measure => have := HJ.out; omega
              case rel => exact ⟨⟨-y, x⟩, HT2.out, hst, by repeat (first | (with_reducible exact hx) | (with_reducible refine Ext.drewN ?_ _) | (with_reducible refine Ext.drew ?_) | (with_reducible refine Ext.setCell ?_ (by first | omega | (simp; done) | (simp; omega)) _) | (with_reducible refine Ext.alloc ?_ _)), ⟨by go_simp, by go_simp, by go_simp, by go_simp⟩, ⟨by go_simp, by go_simp, by go_simp, by go_simp⟩, by simp; omega⟩
    · have hz' : (qx == 0 && qy == 0) = false := by simpa using hz
      obtain ⟨R, hR⟩ : ∃ R, Gs.rest ⟨px, py⟩ ⟨qx, qy⟩ = R := ⟨_, rfl⟩
      have hne : (⟨qx, qy⟩ : Gs.Pt) ≠ Gs.zero := by simpa [Gs.zero] using hz
      have d1 := div_any ⟨px, py⟩ ⟨qx, qy⟩ w1 hp hq hne
      have sR := Gs.rest_small ⟨px, py⟩ ⟨qx, qy⟩ hq hne
      have nR := Gs.rest_norm ⟨px, py⟩ ⟨qx, qy⟩ hne
      have eR := Gs.euclid_step ⟨px, py⟩ ⟨qx, qy⟩ hne
      have nq := Gs.norm_pos hne
      have nn := Gs.norm_nonneg (Gs.rest ⟨px, py⟩ ⟨qx, qy⟩)
      rw [hR] at d1 sR nR eR nn
      have ER := Lib.hid eR
      have DR := Lib.hid d1
      clear hR hne eR d1 hz
      obtain ⟨rx, ry⟩ := R
      go_wp2_with fail
      refine DR.out.mono ?_
      rintro e z ⟨rfl, hz1⟩
      have E1 : Ext w z := hx.trans hz1
      have hcz0 := Ext.cellAt hz1 (b := w.heap.size) (by first | omega | (simp; done) | (simp; omega)); have hfz0 := Ext.frozenAt hz1 (b := w.heap.size) (by first | omega | (simp; done) | (simp; omega)); have hlz0 : w.heap.size < z.heap.size := (by have := Ext.size hz1; first | omega | (simp at *; omega)); have hcz1 := Ext.cellAt hz1 (b := w.heap.size + 1) (by first | omega | (simp; done) | (simp; omega)); have hfz1 := Ext.frozenAt hz1 (b := w.heap.size + 1) (by first | omega | (simp; done) | (simp; omega)); have hlz1 : w.heap.size + 1 < z.heap.size := (by have := Ext.size hz1; first | omega | (simp at *; omega)); have hcz2 := Ext.cellAt hz1 (b := w.heap.size + 1 + 1) (by first | omega | (simp; done) | (simp; omega)); have hfz2 := Ext.frozenAt hz1 (b := w.heap.size + 1 + 1) (by first | omega | (simp; done) | (simp; omega)); have hlz2 : w.heap.size + 1 + 1 < z.heap.size := (by have := Ext.size hz1; first | omega | (simp at *; omega))
      clear hz1
      simp only [ptV]
      go_wp2
      go_region
      all_goals
        go_wp2
        apply wp_goto
        refine ⟨rfl, HK.out _ _ _ ?_ ⟨_, _, _, _, _, _, _, _, _, _, _, _, _, _, _, _, _, _, _, _, _, _, _, _, _, _, _, _, _, _, _, _, _, _, _, _, _, _, _, _, _, _, _, _,  ⟨qx, qy⟩, ⟨rx, ry⟩, rfl, rfl, hq, sR, by rw [← ER.out, HE.out], ?_, ⟨by go_simp, by go_simp, by go_simp, by go_simp⟩, ⟨by go_simp, by go_simp, by go_simp, by go_simp⟩, ⟨by go_simp, by go_simp, by go_simp, by go_simp⟩, ?_⟩⟩
        · omega
        · repeat (first | (with_reducible exact E1) | (with_reducible refine Ext.drewN ?_ _) | (with_reducible refine Ext.drew ?_) | (with_reducible refine Ext.setCell ?_ (by first | omega | (simp; done) | (simp; omega)) _) | (with_reducible refine Ext.alloc ?_ _))
        · simp; omega

end Go.Proofs.Ytlihjhalbemfmaa
