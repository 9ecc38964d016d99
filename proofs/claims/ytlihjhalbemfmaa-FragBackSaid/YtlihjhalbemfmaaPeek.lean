/- A number is read off a tape. -/
import Derived.Test.YtlihjhalbemfmaaTape
namespace Go.Proofs.Ytlihjhalbemfmaa
open Go.RowKit

theorem TapeAt.ext {w z : World} {b : Nat} {t : ByteArray} {a : Int} (h : TapeAt w b t a) (hx : Ext w z) : TapeAt z b t a :=
  ⟨(hx.cellAt h.lt 0).trans h.c0, (hx.cellAt h.lt 1).trans h.c1, (hx.frozenAt h.lt 0).trans h.f0, (hx.frozenAt h.lt 1).trans h.f1, Nat.lt_of_lt_of_le h.lt hx.size⟩

/-- What is read at a place. -/
def numAt (t : ByteArray) (a : Nat) (n : Nat) : Prop := a + (numB n).length ≤ t.size ∧ ∀ j, j < (numB n).length → ((t.data.toList.getD (a + j) 0).toNat : Int) = (numB n).getD j 0

theorem numAt_small {t : ByteArray} {a n : Nat} (h : numAt t a n) (hn : n < 128) : ∃ h : a < t.size, (t[a].toNat : Int) = n := by
  obtain ⟨h1, h2⟩ := h
  rw [numB_small hn] at h1 h2
  simp at h1
  have := h2 0 (by simp)
  refine ⟨by omega, ?_⟩
  rw [List.getD_eq_getElem?_getD, List.getElem?_eq_getElem (by simp; omega)] at this
  simp at this
  exact this

theorem numAt_big {t : ByteArray} {a n : Nat} (h : numAt t a n) (hn : ¬ n < 128) : (∃ h : a < t.size, (t[a].toNat : Int) = (n % 128 + 128 : Nat)) ∧ numAt t (a + 1) (n / 128) := by
  obtain ⟨h1, h2⟩ := h
  rw [numB_big hn] at h1 h2
  simp at h1
  have := h2 0 (by simp)
  refine ⟨⟨by omega, ?_⟩, by omega, fun j hj => ?_⟩
  · rw [List.getD_eq_getElem?_getD, List.getElem?_eq_getElem (by simp; omega)] at this
    simp at this
    exact this
  · have := h2 (j + 1) (by simp; omega)
    rw [show a + (j + 1) = a + 1 + j by omega] at this
    simpa using this

theorem peekSum {m r n i c : Int} (hm : 0 ≤ m) (hr : 0 ≤ r) (hi : 0 ≤ i) (hs : m + r * 2 ^ (7 * i.toNat) = n) (hn : n ≤ 9007199254740991) (hc : c % 128 = r % 128) :
    wrap64 (m + wrap64 (c % 128 * 2 ^ (7 * i).toNat)) = m + r % 128 * 2 ^ (7 * i.toNat) ∧ 0 ≤ m + r % 128 * 2 ^ (7 * i.toNat) ∧ m + r % 128 * 2 ^ (7 * i.toNat) + r / 128 * 2 ^ (7 * (i + 1).toNat) = n := by
  have e1 : (7 * i).toNat = 7 * i.toNat := by omega
  have e2 : (7 * (i + 1).toNat) = 7 * i.toNat + 7 := by omega
  rw [e1, e2, hc, Int.pow_add]
  obtain ⟨P, hP⟩ : ∃ P : Int, (2 : Int) ^ (7 * i.toNat) = P := ⟨_, rfl⟩
  have hP0 : 0 < P := by rw [← hP]; exact Int.pow_pos (by decide)
  rw [hP] at hs ⊢
  have h1 : 0 ≤ r % 128 * P := Int.mul_nonneg (by omega) (by omega)
  have h2 : 0 ≤ r / 128 * P := Int.mul_nonneg (by omega) (by omega)
  have h3 : r * P = r % 128 * P + 128 * (r / 128 * P) := by
    have h := Int.emod_add_mul_ediv r 128
    calc r * P = (r % 128 + 128 * (r / 128)) * P := by rw [h]
      _ = r % 128 * P + 128 * (r / 128 * P) := by rw [Int.add_mul, Int.mul_assoc]
  have h4 : r / 128 * (P * 2 ^ 7) = 128 * (r / 128 * P) := by
    rw [← Int.mul_assoc, Int.mul_comm _ (2 ^ 7)]; rfl
  rw [h4]
  generalize r % 128 * P = x at *
  generalize r / 128 * P = y at *
  have h5 : wrap64 x = x := by unfold wrap64; omega
  rw [h5]
  refine ⟨by unfold wrap64; omega, by omega, by omega⟩

set_option maxRecDepth 30000 in
theorem peek_any (b : Nat) (t : ByteArray) (a : Nat) (n : Nat) (w : World) (h : TapeAt w b t a) (hn : n ≤ 9007199254740991) (ht : numAt t a n) (h2 : t.size ≤ 2000000000) :
    Calls Try.prog 69 #[.pointer (some ⟨b, 0, none⟩)] w fun e w' => e = .returned (.tuple #[.int .i64 n, .int .i64 (numB n).length, .int .i64 0]) ∧ Ext w w' := by
  have hL := Lib.hid (fun w h => left_any b t a w h (by omega) (by have := ht.1; omega) h2)
  have HT := Lib.hid ht
  have HH := Lib.hid h
  have H2 := Lib.hid h2
  clear h ht h2
  go_enter Try.func69, Try.ntmps69
  go_wp2
  apply wp_scope_labelg 0 (fun k a' w' => ∃ (u1 u8 u9 u10 u11 u12 u13 u14 u15 u16 u17 u18 u19 u20 u21 u22 u23 u24 u25 u26 u27 u28 u29 u30 u31 u32 u33 u34 u35 u36 u37 u38 u39 u40 u41 u42 u43 u44 u45 u46 u47 u48 u49 u50 u51 u52 u53 u54 u55 u56 : Value) (i s m r : Int), a' = { tmps := #[.pointer (some ⟨b, 0, none⟩), u1, .int .i64 0, .int .i64 0, .int .i64 0, .int .i64 m, .int .i64 i, .int .i64 s, u8, u9, u10, u11, u12, u13, u14, u15, u16, u17, u18, u19, u20, u21, u22, u23, u24, u25, u26, u27, u28, u29, u30, u31, u32, u33, u34, u35, u36, u37, u38, u39, u40, u41, u42, u43, u44, u45, u46, u47, u48, u49, u50, u51, u52, u53, u54, u55, u56], defers := [] } ∧
    k = r.toNat ∧ 0 ≤ i ∧ i ≤ 7 ∧ s = 7 * i ∧ 0 ≤ m ∧ 0 ≤ r ∧ m + r * 2 ^ (7 * i.toNat) = n ∧ (r = 0 → i = 0) ∧ numAt t (a + i.toNat) r.toNat ∧ i + (numB r.toNat).length = (numB n).length ∧ Ext w w')
  · rfl
  · intro K hK
    have HK := Lib.hid hK
    clear hK
    go_wp2_with fail
    rename_i Kx hKx
    refine wp_label (hKx _ _ ?_)
    exact HK.out _ _ _ ⟨_, _, _, _, _, _, _, _, _, _, _, _, _, _, _, _, _, _, _, _, _, _, _, _, _, _, _, _, _, _, _, _, _, _, _, _, _, _, _, _, _, _, _, _, _, _, _, _, _, _, 0, 0, 0, n, rfl, rfl, by omega, by omega, rfl, by omega, by omega, by simp, fun _ => rfl, by simpa using HT.out, by simp, Ext.refl _⟩
  · rintro k _ w1 ⟨u1, u8, u9, u10, u11, u12, u13, u14, u15, u16, u17, u18, u19, u20, u21, u22, u23, u24, u25, u26, u27, u28, u29, u30, u31, u32, u33, u34, u35, u36, u37, u38, u39, u40, u41, u42, u43, u44, u45, u46, u47, u48, u49, u50, u51, u52, u53, u54, u55, u56, i, s, m, r, rfl, rfl, hi0, hi1, rfl, hm, hr, hs, hz, hnum, hlen, hx⟩ K hK
    have HK := Lib.hid hK
    have HS := Lib.hid hs
    have HZ := Lib.hid hz
    have HNU := Lib.hid hnum
    have HLE := Lib.hid hlen
    have HX := Lib.hid hx
    have HA := Lib.hid (HH.out.ext hx)
    clear hK hs hz hnum hlen hx
    go_wp2_with fail
    refine (hL.out _ HA.out).mono ?_
    rintro e z1 ⟨rfl, hz1⟩
    have E1 : Ext w z1 := HX.out.trans hz1
    obtain ⟨c0, c1, f0, f1, lt⟩ := HA.out.ext hz1
    clear hz1
    by_cases hb : r < 128
    · obtain ⟨hlt, hby⟩ := numAt_small HNU.out (by omega)
      obtain ⟨c, hc⟩ : ∃ c, c = r := ⟨_, rfl⟩
      obtain ⟨hw, q1, q2⟩ := peekSum (c := c) hm hr hi0 HS.out (by omega) (by rw [hc])
      have hby2 : ∀ h, ((t[((a : Int) + i).toNat]'h).toNat : Int) = c := by
        intro h
        have e : ((a : Int) + i).toNat = a + i.toNat := by omega
        simp only [e]
        rw [hby]; omega
      have hlen := HLE.out
      rw [numB_small (by omega)] at hlen
      have hil : i + 1 = ((numB n).length : Int) := by simpa using hlen
      have HIL := Lib.hid hil
      have HCR := Lib.hid hc
      clear hlen hil
      have hc128 : c < 128 := by omega
      have hc255 : c ≤ 255 := by omega
      have hc0 : 0 ≤ c := by omega
      clear hc
      have hin0 : 0 ≤ (a : Int) + i := by omega
      have hin : (a : Int) + i < t.size := by omega
      have hin2 : ((a : Int) + i).toNat < t.size := by omega
      have hwr : wrap64 ((a : Int) + i) = (a : Int) + i := by have := H2.out; unfold wrap64; omega
      have hge : ¬ ((t.size : Int) - a ≤ i) := by omega
      clear hby hlt
      generalize hM : m + r % 128 * 2 ^ (7 * i.toNat) = M at *
      have HM := Lib.hid hM
      have HQ := Lib.hid q2
      have hMle : M ≤ 9007199254740991 := by have := q2; have : 0 ≤ r / 128 * 2 ^ (7 * (i + 1).toNat) := Int.mul_nonneg (by omega) (Int.le_of_lt (Int.pow_pos (by decide))); omega
      clear hM q2
      go_wp2
      refine wp_region_Rt Ext Ext.refl (by kernel_rfl) ?_
      repeat (refine Rt.takeU Ext.refl (fun _ _ _ => Ext.trans) rfl rfl (by kernel_rfl) (fun K hK => ?_); apply Exists.intro; refine ⟨fun x hx => ?_, ?_⟩; (next => have HX := Lib.hid hx; have hc0 := Ext.cellAt hx (b := b) (by first | omega | (simp; done) | (simp; omega)); clear hx; go_simp; first | done | ((try go_ints); first | done | rfl | (fail))); go_simp; refine hK _ ?_; clear hK K)
      refine Rt.done (by kernel_rfl) (fun z hz => ?_)
      have E2 : Ext w z := Ext.trans (by repeat (first | (with_reducible exact E1) | (with_reducible refine Ext.drewN ?_ _) | (with_reducible refine Ext.drew ?_) | (with_reducible refine Ext.setCell ?_ (by first | omega | (simp; done) | (simp; omega)) _) | (with_reducible refine Ext.alloc ?_ _))) hz
      clear hz
      have hMn : M = n := by
        have h := HQ.out
        rw [Int.ediv_eq_zero_of_lt hr hb] at h
        simpa using h
      clear HQ HM
      by_cases hr0 : c = 0
      · have hi00 : i = 0 := HZ.out (by rw [← HCR.out]; exact hr0)
        subst hi00
        subst hr0
        have hw0 : wrap64 m = M := by
          rw [← hw]
          congr 1
          simp [wrap64]
        clear hw
        go_wp2
        refine jump_ret ?_
        refine bodyPost_ret (v := .tuple #[.int .i64 M, .int .i64 1, .int .i64 0]) (by simp only [results, Try.results69]; go_simp) rfl ⟨by rw [hMn, ← HIL.out]; rfl, E2⟩
      · go_wp2
        refine jump_ret ?_
        refine bodyPost_ret (v := .tuple #[.int .i64 M, .int .i64 (i + 1), .int .i64 0]) (by simp only [results, Try.results69]; go_simp) rfl ⟨by rw [hMn, HIL.out], E2⟩
    · obtain ⟨⟨hlt, hby⟩, hnum⟩ := numAt_big HNU.out (by omega)
      obtain ⟨c, hc⟩ : ∃ c, c = r % 128 + 128 := ⟨_, rfl⟩
      obtain ⟨hw, q1, q2⟩ := peekSum (c := c) hm hr hi0 HS.out (by omega) (by omega)
      have hby2 : ∀ h, ((t[((a : Int) + i).toNat]'h).toNat : Int) = c := by
        intro h
        have e : ((a : Int) + i).toNat = a + i.toNat := by omega
        simp only [e]
        rw [hby]; omega
      have hlen := HLE.out
      have h8 := numB_len8 n hn
      have hp : 1 ≤ (numB (r.toNat / 128)).length := by rw [numB]; split <;> simp
      rw [numB_big (by omega)] at hlen
      have hlen2 : i + 1 + ((numB (r / 128).toNat).length : Int) = ((numB n).length : Int) := by
        rw [← hlen, show (r / 128).toNat = r.toNat / 128 by omega]; simp; omega
      have hi6 : i ≤ 6 := by simp at hlen; omega
      have hnum2 : numAt t (a + (i + 1).toNat) (r / 128).toNat := by
        rw [show a + (i + 1).toNat = a + i.toNat + 1 by omega, show (r / 128).toNat = r.toNat / 128 by omega]; exact hnum
      have HL2 := Lib.hid hlen2
      have HN2 := Lib.hid hnum2
      have hr1 : 0 < r / 128 := by omega
      have HR1 := Lib.hid hr1
      clear hlen h8 hp hlen2 hnum hnum2 hr1
      have hc128 : 128 ≤ c := by omega
      have hc255 : c ≤ 255 := by omega
      have hc0 : 0 ≤ c := by omega
      clear hc
      have hin0 : 0 ≤ (a : Int) + i := by omega
      have hin : (a : Int) + i < t.size := by omega
      have hin2 : ((a : Int) + i).toNat < t.size := by omega
      have hwr : wrap64 ((a : Int) + i) = (a : Int) + i := by have := H2.out; unfold wrap64; omega
      have hge : ¬ ((t.size : Int) - a ≤ i) := by omega
      clear hby hlt
      generalize hM : m + r % 128 * 2 ^ (7 * i.toNat) = M at *
      have HM := Lib.hid hM
      have HQ := Lib.hid q2
      have hMle : M ≤ 9007199254740991 := by have := q2; have : 0 ≤ r / 128 * 2 ^ (7 * (i + 1).toNat) := Int.mul_nonneg (by omega) (Int.le_of_lt (Int.pow_pos (by decide))); omega
      clear hM q2
      go_wp2
      refine wp_region_Rt Ext Ext.refl (by kernel_rfl) ?_
      repeat (refine Rt.takeU Ext.refl (fun _ _ _ => Ext.trans) rfl rfl (by kernel_rfl) (fun K hK => ?_); apply Exists.intro; refine ⟨fun x hx => ?_, ?_⟩; (next => have HX := Lib.hid hx; have hc0 := Ext.cellAt hx (b := b) (by first | omega | (simp; done) | (simp; omega)); clear hx; go_simp; first | done | ((try go_ints); first | done | rfl | (fail))); go_simp; refine hK _ ?_; clear hK K)
      refine Rt.done (by kernel_rfl) (fun z hz => ?_)
      have E2 : Ext w z := Ext.trans (by repeat (first | (with_reducible exact E1) | (with_reducible refine Ext.drewN ?_ _) | (with_reducible refine Ext.drew ?_) | (with_reducible refine Ext.setCell ?_ (by first | omega | (simp; done) | (simp; omega)) _) | (with_reducible refine Ext.alloc ?_ _))) hz
      clear hz
      go_wp2
      simp only [hw]
      apply wp_goto
      refine ⟨rfl, HK.out _ _ _ ?_ ⟨_, _, _, _, _, _, _, _, _, _, _, _, _, _, _, _, _, _, _, _, _, _, _, _, _, _, _, _, _, _, _, _, _, _, _, _, _, _, _, _, _, _, _, _, _, _, _, _, _, _, i + 1, 7 * i + 7, M, r / 128, rfl, rfl, by omega, by omega, by omega, q1, by omega, HQ.out, fun h => by have := HR1.out; omega, HN2.out, HL2.out, E2⟩⟩
      omega
end Go.Proofs.Ytlihjhalbemfmaa
