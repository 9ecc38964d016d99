/- What the reference says to a call: deleting, losing, writing. -/
import Derived.Test.YtlihjhalbemfmaaPlainly
import Derived.Test.YtlihjhalbemfmaaRefWriteOk
namespace Go.Proofs.Ytlihjhalbemfmaa
open Go.RowKit

theorem refV_set {w : World} {base o : Nat} {size : Int} {nv hv : Value} {r : Held} (h1 : w.ownsRow base 9 1 nv (names r).length (strsV (names r))) (h2 : w.ownsRow base 9 1 hv (bodies r).length (strsV (bodies r))) (ho : o < base) (a b c : Value) :
    RefV (((w.setCell ⟨o, 0, none⟩ a).setCell ⟨o, 1, none⟩ b).setCell ⟨o, 2, none⟩ c) (.agg #[.int .i64 size, nv, hv]) size r :=
  refV_rows (row_set (row_set (row_set h1 ho _ _) ho _ _) ho _ _) (row_set (row_set (row_set h2 ho _ _) ho _ _) ho _ _)

theorem TextsAt.aside {w w' : World} {p : Option Addr} {ss : List ByteArray} {k : Nat} (h : TextsAt w p ss) (hns : ∀ o s, w.cell? ⟨k, o, none⟩ ≠ some (.string s)) (hx : But (· = k) w w') : TextsAt w' p ss := by
  rcases h with h | ⟨b, off, hp, hb, hc⟩
  · exact .inl h
  · cases ss with
    | nil => exact .inl rfl
    | cons s ss =>
      have hne : b ≠ k := by
        rintro rfl
        exact hns _ _ (hc 0 (by simp))
      exact .inr ⟨b, off, hp, Nat.lt_of_lt_of_le hb hx.size, fun i hi => by rw [hx.cellAt hb hne]; exact hc i hi⟩
theorem RefV.aside {w w' : World} {v : Value} {size : Int} {r : Held} {k : Nat} (h : RefV w v size r) (hns : ∀ o s, w.cell? ⟨k, o, none⟩ ≠ some (.string s)) (hx : But (· = k) w w') : RefV w' v size r := by
  obtain ⟨p, cn, q, cq, e, h1, h2⟩ := h
  exact ⟨p, cn, q, cq, e, h1.aside hns hx, h2.aside hns hx⟩
theorem but_set3 (w : World) (k : Nat) (a b c : Value) : But (· = k) w (((w.setCell ⟨k, 0, none⟩ a).setCell ⟨k, 1, none⟩ b).setCell ⟨k, 2, none⟩ c) := by
  refine But.setCell (S := (· = k)) (p := ⟨k, 2, none⟩) ?_ rfl c
  refine But.setCell (S := (· = k)) (p := ⟨k, 1, none⟩) ?_ rfl b
  exact But.setCell (S := (· = k)) (p := ⟨k, 0, none⟩) (But.refl w) rfl a
theorem no_string (size : Int) (p q : Option Addr) (m n a b : Nat) : ∀ (o : Nat) s, (#[.int .i64 size, .slice p m a, .slice q n b] : Array Value)[o]? ≠ some (.string s) := by
  intro o s
  match o with
  | 0 => simp
  | 1 => simp
  | 2 => simp
  | o + 3 => simp

set_option maxRecDepth 30000 in
theorem plainly_del_some (size : Int) (r : Held) (p q : Option Addr) (cn cq : Nat) (c : Call) (w : World) (hl : r.length ≤ 100000) (hN : TextsAt w p (names r)) (hB : TextsAt w q (bodies r)) (hk : 0 ≤ c.kind) (h5 : c.kind % 8 = 5) (o : ByteArray) (hg : getL r c.name = some o) :
    Calls Try.prog 25 #[.agg #[.int .i64 size, .slice p r.length cn, .slice q r.length cq], c.v] w fun e w' => ∃ v, e = .returned (.tuple #[v, .string ⟨#[]⟩, .int .i64 0]) ∧ RefV w' v size (dropAt r c.name) ∧ Ext w w' := by
  obtain ⟨kind, nm, s, spot, byI⟩ := c
  unfold Call.v
  simp only at *
  have hF := Lib.hid (fun w hN => find_any size r p q cn cq nm w (by omega) hN)
  have hW := Lib.hid (fun w hN hB => without_any size r p q cn cq nm w (by omega) hN hB)
  have q4 : (kind % 8 == 4) = false := by simp; omega
  obtain ⟨i, hi, hfi, hri⟩ := findR_some hg 0
  rw [hfi, Nat.zero_add] at hF
  have HN := Lib.hid hN
  have HB := Lib.hid hB
  clear hN hB hg hfi hri
  generalize hrl : r.length = n at *
  have HRL := Lib.hid hrl
  clear hrl
  go_enter Try.func25, Try.ntmps25
  go_wp2_with fail
  refine (hF.out _ (HN.out.ext (by repeat (first | (with_reducible exact Ext.refl _) | (with_reducible assumption) | (with_reducible refine Ext.drewN ?_ _) | (with_reducible refine Ext.drew ?_) | (with_reducible refine Ext.alloc ?_ _) | (refine Ext.trans ?_ (by with_reducible assumption)))))).mono ?_
  rintro e z ⟨rfl, hz⟩
  have E1 : Ext w z := Ext.trans (by repeat (first | (with_reducible exact Ext.refl _) | (with_reducible assumption) | (with_reducible refine Ext.drewN ?_ _) | (with_reducible refine Ext.drew ?_) | (with_reducible refine Ext.alloc ?_ _) | (refine Ext.trans ?_ (by with_reducible assumption)))) hz
  have hcz0 := Ext.cellAt hz (b := w.heap.size) (by first | omega | (simp; done) | (simp; omega)); have hfz0 := Ext.frozenAt hz (b := w.heap.size) (by first | omega | (simp; done) | (simp; omega)); have hlz0 : w.heap.size < z.heap.size := (by have := Ext.size hz; first | omega | (simp at *; omega)); have hcz1 := Ext.cellAt hz (b := w.heap.size + 1) (by first | omega | (simp; done) | (simp; omega)); have hfz1 := Ext.frozenAt hz (b := w.heap.size + 1) (by first | omega | (simp; done) | (simp; omega)); have hlz1 : w.heap.size + 1 < z.heap.size := (by have := Ext.size hz; first | omega | (simp at *; omega)); have hcz2 := Ext.cellAt hz (b := w.heap.size + 1 + 1) (by first | omega | (simp; done) | (simp; omega)); have hfz2 := Ext.frozenAt hz (b := w.heap.size + 1 + 1) (by first | omega | (simp; done) | (simp; omega)); have hlz2 : w.heap.size + 1 + 1 < z.heap.size := (by have := Ext.size hz; first | omega | (simp at *; omega))
  clear hz
  go_wp2_with fail
  refine (hW.out _ (HN.out.ext E1) (HB.out.ext E1)).mono ?_
  rintro e z2 ⟨nv, hv, rfl, hr1, hr2, hz2⟩
  have E2 : Ext w z2 := Ext.trans (by repeat (first | (with_reducible exact E1) | (with_reducible refine Ext.drewN ?_ _) | (with_reducible refine Ext.drew ?_) | (with_reducible refine Ext.setCell ?_ (by first | omega | (simp; done) | (simp; omega)) _) | (with_reducible refine Ext.alloc ?_ _))) hz2
  have hcz20 := Ext.cellAt hz2 (b := w.heap.size + 1 + 1) (by first | omega | (simp; done) | (simp; omega)); have hfz20 := Ext.frozenAt hz2 (b := w.heap.size + 1 + 1) (by first | omega | (simp; done) | (simp; omega)); have hlz20 : w.heap.size + 1 + 1 < z2.heap.size := (by have := Ext.size hz2; first | omega | (simp at *; omega))
  obtain ⟨p1, c1, rfl⟩ := row_form hr1
  obtain ⟨p2, c2, rfl⟩ := row_form hr2
  have HR1 := Lib.hid hr1
  have HR2 := Lib.hid hr2
  have HE2 := Lib.hid E2
  clear hz2 hr1 hr2 E1 E2
  generalize hn1 : (names (dropAt r nm)).length = n1 at *
  generalize hn2 : (bodies (dropAt r nm)).length = n2 at *
  have HN1 := Lib.hid hn1
  have HN2 := Lib.hid hn2
  clear hn1 hn2
  go_wp2
  have E2 := HE2.out
  refine bodyPost_ret (v := .tuple #[.agg #[.int .i64 size, .slice p1 n1 c1, .slice p2 n2 c2], .string ⟨#[]⟩, .int .i64 0]) (by simp only [results, Try.results25]; go_simp) rfl ⟨_, rfl, ?_, by repeat (first | (with_reducible exact E2) | (with_reducible refine Ext.drewN ?_ _) | (with_reducible refine Ext.drew ?_) | (with_reducible refine Ext.setCell ?_ (by first | omega | (simp; done) | (simp; omega)) _) | (with_reducible refine Ext.alloc ?_ _))⟩
  have h1 := HR1.out
  have h2 := HR2.out
  rw [← HN1.out] at h1 ⊢
  rw [← HN2.out] at h2 ⊢
  exact refV_set h1 h2 (by omega) _ _ _

set_option maxRecDepth 30000 in
theorem plainly_lose (size : Int) (r : Held) (p q : Option Addr) (cn cq : Nat) (c : Call) (w : World) (hl : r.length ≤ 100000) (hN : TextsAt w p (names r)) (hk : 0 ≤ c.kind) (h7 : c.kind % 8 = 7) :
    Calls Try.prog 25 #[.agg #[.int .i64 size, .slice p r.length cn, .slice q r.length cq], c.v] w fun e w' => e = .returned (.tuple #[.agg #[.int .i64 size, .slice none 0 0, .slice none 0 0], .string ⟨#[]⟩, .int .i64 r.length]) ∧ Ext w w' := by
  obtain ⟨kind, nm, s, spot, byI⟩ := c
  unfold Call.v
  simp only at *
  have hF := Lib.hid (fun w hN => find_any size r p q cn cq nm w (by omega) hN)
  have q4 : (kind % 8 == 4) = false := by simp; omega
  have q5 : (kind % 8 == 5) = false := by simp; omega
  have q6 : (kind % 8 == 6) = false := by simp; omega
  generalize findR r nm 0 = fi at *
  have HN := Lib.hid hN
  clear hN
  generalize hrl : r.length = n at *
  have HRL := Lib.hid hrl
  clear hrl
  go_enter Try.func25, Try.ntmps25
  go_wp2_with fail
  refine (hF.out _ (HN.out.ext (by repeat (first | (with_reducible exact Ext.refl _) | (with_reducible assumption) | (with_reducible refine Ext.drewN ?_ _) | (with_reducible refine Ext.drew ?_) | (with_reducible refine Ext.alloc ?_ _) | (refine Ext.trans ?_ (by with_reducible assumption)))))).mono ?_
  rintro e z ⟨rfl, hz⟩
  have E1 : Ext w z := Ext.trans (by repeat (first | (with_reducible exact Ext.refl _) | (with_reducible assumption) | (with_reducible refine Ext.drewN ?_ _) | (with_reducible refine Ext.drew ?_) | (with_reducible refine Ext.alloc ?_ _) | (refine Ext.trans ?_ (by with_reducible assumption)))) hz
  have E1H := Lib.hid E1
  have HB4 : Hid (z.heap[w.heap.size + 2]? = some (.cells #[.int .i64 0, .slice none 0 0, .slice none 0 0] 58 (0, 0))) := (Below.block hz (w.heap.size + 2) (by simp)).trans (heap_third _ _ _ _)
  have hcz0 := Ext.cellAt hz (b := w.heap.size) (by first | omega | (simp; done) | (simp; omega)); have hfz0 := Ext.frozenAt hz (b := w.heap.size) (by first | omega | (simp; done) | (simp; omega)); have hlz0 : w.heap.size < z.heap.size := (by have := Ext.size hz; first | omega | (simp at *; omega)); have hcz1 := Ext.cellAt hz (b := w.heap.size + 1) (by first | omega | (simp; done) | (simp; omega)); have hfz1 := Ext.frozenAt hz (b := w.heap.size + 1) (by first | omega | (simp; done) | (simp; omega)); have hlz1 : w.heap.size + 1 < z.heap.size := (by have := Ext.size hz; first | omega | (simp at *; omega)); have hcz2 := Ext.cellAt hz (b := w.heap.size + 1 + 1) (by first | omega | (simp; done) | (simp; omega)); have hfz2 := Ext.frozenAt hz (b := w.heap.size + 1 + 1) (by first | omega | (simp; done) | (simp; omega)); have hlz2 : w.heap.size + 1 + 1 < z.heap.size := (by have := Ext.size hz; first | omega | (simp at *; omega))
  clear hz
  have hb4 : z.heap[w.heap.size + 2]? = some (.cells #[.int .i64 0, .slice none 0 0, .slice none 0 0] 58 (0, 0)) := HB4.out
  go_wp2_with fail
  refine wp_region_Rt (Keep ((w.heap.size + 2, #[.int .i64 size, .slice none 0 0, .slice none 0 0]))) Keep.refl (by kernel_rfl) ?_
  repeat (refine Rt.takeU Keep.refl (fun _ _ _ => Keep.trans) rfl rfl (by kernel_rfl) (fun K hK => ?_); apply Exists.intro; refine ⟨fun x hx => ?_, ?_⟩; (next => have HX := Lib.hid hx; have hc0 := Keep.cellAt hx (b := w.heap.size) (by first | omega | (simp; done) | (simp; omega)) (by first | omega | (simp; done) | (simp; omega)); clear hx; go_simp; first | done | ((try go_ints); first | done | rfl | (fail))); go_simp; refine hK _ ?_; clear hK K)
  refine Rt.only rfl (by kernel_rfl) (fun x hx K hK => ?_)
  obtain ⟨d, hds, hdh⟩ := hx.but.shape (w.heap.size + 2) _ _ _ rfl hb4
  have hdc : ∀ o, x.cell? ⟨w.heap.size + 1 + 1, o, none⟩ = d[o]? := fun o => by rw [show w.heap.size + 1 + 1 = w.heap.size + 2 from rfl]; simp [World.cell?, hdh]
  have hdf : ∀ o, x.frozen? ⟨w.heap.size + 1 + 1, o, none⟩ = false := fun o => by rw [show w.heap.size + 1 + 1 = w.heap.size + 2 from rfl]; simp [World.frozen?, hdh]
  obtain ⟨d0, d1, d2, rfl⟩ := size3 d (by rw [hds]; rfl)
  have HXX := Lib.hid hx
  have HDH := Lib.hid hdh
  clear hx hdh E1
  go_wp2
  refine hK _ _ (keep_set3 HDH.out rfl _ _ _) ?_
  clear hK K
  repeat (refine Rt.takeU Keep.refl (fun _ _ _ => Keep.trans) rfl rfl (by kernel_rfl) (fun K hK => ?_); apply Exists.intro; refine ⟨fun x hx => ?_, ?_⟩; (next => have HX := Lib.hid hx; skip; clear hx; go_simp; first | done | ((try go_ints); first | done | rfl | (fail))); go_simp; refine hK _ ?_; clear hK K)
  refine Rt.done (by kernel_rfl) (fun y hy => ?_)
  have hyc := hy.fin (fun o => cell_setCell3 HDH.out rfl _ _ _ o)
  have HY := Lib.hid (HXX.out.but.trans ((keep_set3 HDH.out rfl _ _ _).but.trans hy.but))
  clear hy
  have HE9 : Hid (Ext w y) := But.ext (E1H.out.drew) HY.out (fun k hk => by omega)
  go_wp2
  exact bodyPost_ret (v := .tuple #[.agg #[.int .i64 size, .slice none 0 0, .slice none 0 0], .string ⟨#[]⟩, .int .i64 n]) (by simp only [results, Try.results25]; go_simp) rfl ⟨rfl, HE9.out⟩

set_option maxRecDepth 30000 in
theorem plainly_write (size : Int) (r r' : Held) (p q : Option Addr) (cn cq : Nat) (c : Call) (w : World) (ec : Int) (hl : r.length ≤ 100000) (hN : TextsAt w p (names r)) (hB : TextsAt w q (bodies r)) (hk : 0 ≤ c.kind) (h8 : c.kind % 8 < 4)
    (hW0 : ∀ w, TextsAt w p (names r) → TextsAt w q (bodies r) → Calls Try.prog 54 #[.agg #[.int .i64 size, .slice p r.length cn, .slice q r.length cq], .string c.name, .string c.s] w fun e w' => ∃ v, e = .returned (.tuple #[v, .int .i64 ec]) ∧ RefV w' v size r' ∧ Ext w w') :
    Calls Try.prog 25 #[.agg #[.int .i64 size, .slice p r.length cn, .slice q r.length cq], c.v] w fun e w' => ∃ v, e = .returned (.tuple #[v, .string ⟨#[]⟩, .int .i64 ec]) ∧ RefV w' v size r' ∧ Ext w w' := by
  obtain ⟨kind, nm, s, spot, byI⟩ := c
  unfold Call.v
  simp only at *
  have hF := Lib.hid (fun w hN => find_any size r p q cn cq nm w (by omega) hN)
  have hW := Lib.hid hW0
  have q4 : (kind % 8 == 4) = false := by simp; omega
  have q5 : (kind % 8 == 5) = false := by simp; omega
  have q6 : (kind % 8 == 6) = false := by simp; omega
  have q7 : (kind % 8 == 7) = false := by simp; omega
  generalize findR r nm 0 = fi at *
  have HN := Lib.hid hN
  have HB := Lib.hid hB
  clear hN hB hW0 h8
  generalize hrl : r.length = n at *
  have HRL := Lib.hid hrl
  clear hrl
  go_enter Try.func25, Try.ntmps25
  go_wp2_with fail
  refine (hF.out _ (HN.out.ext (by repeat (first | (with_reducible exact Ext.refl _) | (with_reducible assumption) | (with_reducible refine Ext.drewN ?_ _) | (with_reducible refine Ext.drew ?_) | (with_reducible refine Ext.alloc ?_ _) | (refine Ext.trans ?_ (by with_reducible assumption)))))).mono ?_
  rintro e z ⟨rfl, hz⟩
  have E1 : Ext w z := Ext.trans (by repeat (first | (with_reducible exact Ext.refl _) | (with_reducible assumption) | (with_reducible refine Ext.drewN ?_ _) | (with_reducible refine Ext.drew ?_) | (with_reducible refine Ext.alloc ?_ _) | (refine Ext.trans ?_ (by with_reducible assumption)))) hz
  have HB4 : Hid (z.heap[w.heap.size + 2]? = some (.cells #[.int .i64 0, .slice none 0 0, .slice none 0 0] 58 (0, 0))) := (Below.block hz (w.heap.size + 2) (by simp)).trans (heap_third _ _ _ _)
  have hcz0 := Ext.cellAt hz (b := w.heap.size) (by first | omega | (simp; done) | (simp; omega)); have hfz0 := Ext.frozenAt hz (b := w.heap.size) (by first | omega | (simp; done) | (simp; omega)); have hlz0 : w.heap.size < z.heap.size := (by have := Ext.size hz; first | omega | (simp at *; omega)); have hcz1 := Ext.cellAt hz (b := w.heap.size + 1) (by first | omega | (simp; done) | (simp; omega)); have hfz1 := Ext.frozenAt hz (b := w.heap.size + 1) (by first | omega | (simp; done) | (simp; omega)); have hlz1 : w.heap.size + 1 < z.heap.size := (by have := Ext.size hz; first | omega | (simp at *; omega)); have hcz2 := Ext.cellAt hz (b := w.heap.size + 1 + 1) (by first | omega | (simp; done) | (simp; omega)); have hfz2 := Ext.frozenAt hz (b := w.heap.size + 1 + 1) (by first | omega | (simp; done) | (simp; omega)); have hlz2 : w.heap.size + 1 + 1 < z.heap.size := (by have := Ext.size hz; first | omega | (simp at *; omega))
  clear hz
  go_wp2_with fail
  refine (hW.out _ (HN.out.ext E1) (HB.out.ext E1)).mono ?_
  rintro e z2 ⟨v, rfl, hv, hz2⟩
  have E2 : Ext w z2 := Ext.trans (by repeat (first | (with_reducible exact E1) | (with_reducible refine Ext.drewN ?_ _) | (with_reducible refine Ext.drew ?_) | (with_reducible refine Ext.setCell ?_ (by first | omega | (simp; done) | (simp; omega)) _) | (with_reducible refine Ext.alloc ?_ _))) hz2
  have hcz20 := Ext.cellAt hz2 (b := w.heap.size + 1 + 1) (by first | omega | (simp; done) | (simp; omega)); have hfz20 := Ext.frozenAt hz2 (b := w.heap.size + 1 + 1) (by first | omega | (simp; done) | (simp; omega)); have hlz20 : w.heap.size + 1 + 1 < z2.heap.size := (by have := Ext.size hz2; first | omega | (simp at *; omega))
  have HV := Lib.hid hv
  obtain ⟨p1, c1, p2, c2, rfl, ht1, ht2⟩ := hv
  have HE2 := Lib.hid E2
  clear hz2 E1 E2 ht1 ht2
  generalize hn1 : r'.length = n1 at *
  have HN1 := Lib.hid hn1
  clear hn1
  go_wp2
  have E2 := HE2.out
  refine bodyPost_ret (v := .tuple #[.agg #[.int .i64 size, .slice p1 n1 c1, .slice p2 n1 c2], .string ⟨#[]⟩, .int .i64 ec]) (by simp only [results, Try.results25]; go_simp) rfl ⟨_, rfl, ?_, by repeat (first | (with_reducible exact E2) | (with_reducible refine Ext.drewN ?_ _) | (with_reducible refine Ext.drew ?_) | (with_reducible refine Ext.setCell ?_ (by first | omega | (simp; done) | (simp; omega)) _) | (with_reducible refine Ext.alloc ?_ _))⟩
  rw [← HN1.out] at HV ⊢
  refine RefV.ext (RefV.aside HV.out ?_ (but_set3 _ _ _ _ _)) (Ext.alloc (Ext.refl _) _)
  intro o s
  rw [hcz20 o, show z.cell? ⟨w.heap.size + 1 + 1, o, none⟩ = (#[.int .i64 0, .slice none 0 0, .slice none 0 0] : Array Value)[o]? by rw [show w.heap.size + 1 + 1 = w.heap.size + 2 from rfl]; simp [World.cell?, HB4.out]]
  exact no_string 0 none none 0 0 0 0 o s
end Go.Proofs.Ytlihjhalbemfmaa
