/- What the reference says to a call: reading, deleting, losing. -/
import Derived.Test.YtlihjhalbemfmaaRefWrite
import Derived.Test.YtlihjhalbemfmaaFew
import Derived.Test.YtlihjhalbemfmaaKeep
namespace Go.Proofs.Ytlihjhalbemfmaa
open Go.RowKit

theorem findR_none {r : Held} {k : ByteArray} (h : getL r k = none) : ∀ i, findR r k i = -1 := by
  have hn := get_none h
  clear h
  induction r with
  | nil => intro i; rfl
  | cons p r ih =>
    intro i
    rw [findR, if_neg (hn p List.mem_cons_self)]
    exact ih (fun q hq => hn q (List.mem_cons_of_mem _ hq)) (i + 1)
theorem findR_some {r : Held} {k s : ByteArray} (h : getL r k = some s) : ∀ i, ∃ j, j < r.length ∧ findR r k i = ((i + j : Nat) : Int) ∧ r[j]? = some (k, s) := by
  induction r with
  | nil => intro i; cases h
  | cons p r ih =>
    intro i
    by_cases hp : p.1 = k
    · refine ⟨0, by simp, by rw [findR, if_pos hp]; rfl, ?_⟩
      unfold getL at h
      rw [List.find?_cons] at h
      simp only [hp, decide_true, Option.map_some, Option.some.injEq] at h
      simp [← h, ← hp]
    · unfold getL at h
      rw [List.find?_cons] at h
      simp only [hp, decide_false] at h
      obtain ⟨j, h1, h2, h3⟩ := ih h (i + 1)
      exact ⟨j + 1, by simp; omega, by rw [findR, if_neg hp, h2]; congr 1; omega, by simpa using h3⟩

set_option maxRecDepth 30000 in
theorem plainly_read_none (size : Int) (r : Held) (p q : Option Addr) (cn cq : Nat) (c : Call) (w : World) (hl : r.length ≤ 100000) (hN : TextsAt w p (names r)) (hk : 0 ≤ c.kind) (h4 : c.kind % 8 = 4) (hg : getL r c.name = none) :
    Calls Try.prog 25 #[.agg #[.int .i64 size, .slice p r.length cn, .slice q r.length cq], c.v] w fun e w' => e = .returned (.tuple #[.agg #[.int .i64 size, .slice p r.length cn, .slice q r.length cq], .string ⟨#[]⟩, .int .i64 8]) ∧ Ext w w' := by
  obtain ⟨kind, nm, s, spot, byI⟩ := c
  unfold Call.v
  simp only at *
  have hF := Lib.hid (fun w hN => find_any size r p q cn cq nm w (by omega) hN)
  rw [findR_none hg] at hF
  have HN := Lib.hid hN
  clear hN hg
  generalize r.length = n at *
  go_enter Try.func25, Try.ntmps25
  go_wp2_with fail
  refine (hF.out _ (HN.out.ext (by repeat (first | (with_reducible exact Ext.refl _) | (with_reducible assumption) | (with_reducible refine Ext.drewN ?_ _) | (with_reducible refine Ext.drew ?_) | (with_reducible refine Ext.alloc ?_ _) | (refine Ext.trans ?_ (by with_reducible assumption)))))).mono ?_
  rintro e z ⟨rfl, hz⟩
  have E1 : Ext w z := Ext.trans (by repeat (first | (with_reducible exact Ext.refl _) | (with_reducible assumption) | (with_reducible refine Ext.drewN ?_ _) | (with_reducible refine Ext.drew ?_) | (with_reducible refine Ext.alloc ?_ _) | (refine Ext.trans ?_ (by with_reducible assumption)))) hz
  have hcz0 := Ext.cellAt hz (b := w.heap.size) (by first | omega | (simp; done) | (simp; omega)); have hfz0 := Ext.frozenAt hz (b := w.heap.size) (by first | omega | (simp; done) | (simp; omega)); have hlz0 : w.heap.size < z.heap.size := (by have := Ext.size hz; first | omega | (simp at *; omega)); have hcz1 := Ext.cellAt hz (b := w.heap.size + 1) (by first | omega | (simp; done) | (simp; omega)); have hfz1 := Ext.frozenAt hz (b := w.heap.size + 1) (by first | omega | (simp; done) | (simp; omega)); have hlz1 : w.heap.size + 1 < z.heap.size := (by have := Ext.size hz; first | omega | (simp at *; omega)); have hcz2 := Ext.cellAt hz (b := w.heap.size + 1 + 1) (by first | omega | (simp; done) | (simp; omega)); have hfz2 := Ext.frozenAt hz (b := w.heap.size + 1 + 1) (by first | omega | (simp; done) | (simp; omega)); have hlz2 : w.heap.size + 1 + 1 < z.heap.size := (by have := Ext.size hz; first | omega | (simp at *; omega))
  clear hz
  go_wp2
  exact bodyPost_ret (v := .tuple #[.agg #[.int .i64 size, .slice p n cn, .slice q n cq], .string ⟨#[]⟩, .int .i64 8]) (by simp only [results, Try.results25]; go_simp) rfl ⟨rfl, by repeat (first | (with_reducible exact E1) | (with_reducible refine Ext.drewN ?_ _) | (with_reducible refine Ext.drew ?_) | (with_reducible refine Ext.setCell ?_ (by first | omega | (simp; done) | (simp; omega)) _) | (with_reducible refine Ext.alloc ?_ _))⟩
theorem heap_third (w : World) (a b c : Obj) : (((w.alloc a).alloc b).alloc c).heap[w.heap.size + 2]? = some c := by
  have := heap_alloc_new ((w.alloc a).alloc b) c
  simpa using this
--CASES

set_option maxRecDepth 30000 in
theorem plainly_del_none (size : Int) (r : Held) (p q : Option Addr) (cn cq : Nat) (c : Call) (w : World) (hl : r.length ≤ 100000) (hN : TextsAt w p (names r)) (hB : TextsAt w q (bodies r)) (hk : 0 ≤ c.kind) (h5 : c.kind % 8 = 5) (hg : getL r c.name = none) :
    Calls Try.prog 25 #[.agg #[.int .i64 size, .slice p r.length cn, .slice q r.length cq], c.v] w fun e w' => e = .returned (.tuple #[.agg #[.int .i64 size, .slice p r.length cn, .slice q r.length cq], .string ⟨#[]⟩, .int .i64 8]) ∧ Ext w w' := by
  obtain ⟨kind, nm, s, spot, byI⟩ := c
  unfold Call.v
  simp only at *
  have hF := Lib.hid (fun w hN => find_any size r p q cn cq nm w (by omega) hN)
  have q4 : (kind % 8 == 4) = false := by simp; omega
  rw [findR_none hg] at hF
  have HN := Lib.hid hN
  have HB := Lib.hid hB
  clear hN hg hB HB
  generalize hrl : r.length = n at *
  have HRL := Lib.hid hrl
  clear hrl
  go_enter Try.func25, Try.ntmps25
  go_wp2_with fail
  refine (hF.out _ (HN.out.ext (by repeat (first | (with_reducible exact Ext.refl _) | (with_reducible assumption) | (with_reducible refine Ext.drewN ?_ _) | (with_reducible refine Ext.drew ?_) | (with_reducible refine Ext.alloc ?_ _) | (refine Ext.trans ?_ (by with_reducible assumption)))))).mono ?_
  rintro e z ⟨rfl, hz⟩
  have E1 : Ext w z := Ext.trans (by repeat (first | (with_reducible exact Ext.refl _) | (with_reducible assumption) | (with_reducible refine Ext.drewN ?_ _) | (with_reducible refine Ext.drew ?_) | (with_reducible refine Ext.alloc ?_ _) | (refine Ext.trans ?_ (by with_reducible assumption)))) hz
  have E1H := Lib.hid E1
  have HB4 : Hid (z.heap[w.heap.size + 2]? = some (.cells #[.int .i64 0, .slice none 0 0, .slice none 0 0] 58 (0, 0))) := (Below.block hz (w.heap.size + 2) (by simp)).trans (heap_third _ _ _ _)
  have hcz0 := Ext.cellAt hz (b := w.heap.size) (by first | omega | (simp; done) | (simp; omega)); have hfz0 := Ext.frozenAt hz (b := w.heap.size) (by first | omega | (simp; done) | (simp; omega)); have hlz0 : w.heap.size < z.heap.size := (by have := Ext.size hz; first | omega | (simp at *; omega)); have hcz1 := Ext.cellAt hz (b := w.heap.size + 1) (by first | omega | (simp; done) | (simp; omega)); have hfz1 := Ext.frozenAt hz (b := w.heap.size + 1) (by first | omega | (simp; done) | (simp; omega)); have hlz1 : w.heap.size + 1 < z.heap.size := (by have := Ext.size hz; first | omega | (simp at *; omega)); have hcz2 := Ext.cellAt hz (b := w.heap.size + 1 + 1) (by first | omega | (simp; done) | (simp; omega)); have hfz2 := Ext.frozenAt hz (b := w.heap.size + 1 + 1) (by first | omega | (simp; done) | (simp; omega)); have hlz2 : w.heap.size + 1 + 1 < z.heap.size := (by have := Ext.size hz; first | omega | (simp at *; omega))
  clear hz
  go_wp2
  exact bodyPost_ret (v := .tuple #[.agg #[.int .i64 size, .slice p n cn, .slice q n cq], .string ⟨#[]⟩, .int .i64 8]) (by simp only [results, Try.results25]; go_simp) rfl ⟨rfl, by repeat (first | (with_reducible exact E1) | (with_reducible refine Ext.drewN ?_ _) | (with_reducible refine Ext.drew ?_) | (with_reducible refine Ext.setCell ?_ (by first | omega | (simp; done) | (simp; omega)) _) | (with_reducible refine Ext.alloc ?_ _))⟩

set_option maxRecDepth 30000 in
theorem plainly_spoil_none (size : Int) (r : Held) (p q : Option Addr) (cn cq : Nat) (c : Call) (w : World) (hl : r.length ≤ 100000) (hN : TextsAt w p (names r)) (hB : TextsAt w q (bodies r)) (hk : 0 ≤ c.kind) (h6 : c.kind % 8 = 6) (hg : getL r c.name = none) :
    Calls Try.prog 25 #[.agg #[.int .i64 size, .slice p r.length cn, .slice q r.length cq], c.v] w fun e w' => e = .returned (.tuple #[.agg #[.int .i64 size, .slice p r.length cn, .slice q r.length cq], .string ⟨#[]⟩, .int .i64 0]) ∧ Ext w w' := by
  obtain ⟨kind, nm, s, spot, byI⟩ := c
  unfold Call.v
  simp only at *
  have hF := Lib.hid (fun w hN => find_any size r p q cn cq nm w (by omega) hN)
  have q4 : (kind % 8 == 4) = false := by simp; omega
  have q5 : (kind % 8 == 5) = false := by simp; omega
  rw [findR_none hg] at hF
  have HN := Lib.hid hN
  have HB := Lib.hid hB
  clear hN hg hB HB
  generalize hrl : r.length = n at *
  have HRL := Lib.hid hrl
  clear hrl
  go_enter Try.func25, Try.ntmps25
  go_wp2_with fail
  refine (hF.out _ (HN.out.ext (by repeat (first | (with_reducible exact Ext.refl _) | (with_reducible assumption) | (with_reducible refine Ext.drewN ?_ _) | (with_reducible refine Ext.drew ?_) | (with_reducible refine Ext.alloc ?_ _) | (refine Ext.trans ?_ (by with_reducible assumption)))))).mono ?_
  rintro e z ⟨rfl, hz⟩
  have E1 : Ext w z := Ext.trans (by repeat (first | (with_reducible exact Ext.refl _) | (with_reducible assumption) | (with_reducible refine Ext.drewN ?_ _) | (with_reducible refine Ext.drew ?_) | (with_reducible refine Ext.alloc ?_ _) | (refine Ext.trans ?_ (by with_reducible assumption)))) hz
  have E1H := Lib.hid E1
  have HB4 : Hid (z.heap[w.heap.size + 2]? = some (.cells #[.int .i64 0, .slice none 0 0, .slice none 0 0] 58 (0, 0))) := (Below.block hz (w.heap.size + 2) (by simp)).trans (heap_third _ _ _ _)
  have hcz0 := Ext.cellAt hz (b := w.heap.size) (by first | omega | (simp; done) | (simp; omega)); have hfz0 := Ext.frozenAt hz (b := w.heap.size) (by first | omega | (simp; done) | (simp; omega)); have hlz0 : w.heap.size < z.heap.size := (by have := Ext.size hz; first | omega | (simp at *; omega)); have hcz1 := Ext.cellAt hz (b := w.heap.size + 1) (by first | omega | (simp; done) | (simp; omega)); have hfz1 := Ext.frozenAt hz (b := w.heap.size + 1) (by first | omega | (simp; done) | (simp; omega)); have hlz1 : w.heap.size + 1 < z.heap.size := (by have := Ext.size hz; first | omega | (simp at *; omega)); have hcz2 := Ext.cellAt hz (b := w.heap.size + 1 + 1) (by first | omega | (simp; done) | (simp; omega)); have hfz2 := Ext.frozenAt hz (b := w.heap.size + 1 + 1) (by first | omega | (simp; done) | (simp; omega)); have hlz2 : w.heap.size + 1 + 1 < z.heap.size := (by have := Ext.size hz; first | omega | (simp at *; omega))
  clear hz
  go_wp2
  exact bodyPost_ret (v := .tuple #[.agg #[.int .i64 size, .slice p n cn, .slice q n cq], .string ⟨#[]⟩, .int .i64 0]) (by simp only [results, Try.results25]; go_simp) rfl ⟨rfl, by repeat (first | (with_reducible exact E1) | (with_reducible refine Ext.drewN ?_ _) | (with_reducible refine Ext.drew ?_) | (with_reducible refine Ext.setCell ?_ (by first | omega | (simp; done) | (simp; omega)) _) | (with_reducible refine Ext.alloc ?_ _))⟩

set_option maxRecDepth 30000 in
theorem plainly_read_some (size : Int) (r : Held) (p q : Option Addr) (cn cq : Nat) (c : Call) (w : World) (hl : r.length ≤ 100000) (hN : TextsAt w p (names r)) (hB : TextsAt w q (bodies r)) (hk : 0 ≤ c.kind) (h4 : c.kind % 8 = 4) (o : ByteArray) (hg : getL r c.name = some o) :
    Calls Try.prog 25 #[.agg #[.int .i64 size, .slice p r.length cn, .slice q r.length cq], c.v] w fun e w' => e = .returned (.tuple #[.agg #[.int .i64 size, .slice p r.length cn, .slice q r.length cq], .string o, .int .i64 0]) ∧ Ext w w' := by
  obtain ⟨kind, nm, s, spot, byI⟩ := c
  unfold Call.v
  simp only at *
  have hF := Lib.hid (fun w hN => find_any size r p q cn cq nm w (by omega) hN)
  obtain ⟨i, hi, hfi, hri⟩ := findR_some hg 0
  rw [hfi, Nat.zero_add] at hF
  have hbi : (bodies r).getD i ⟨#[]⟩ = o := by simp [bodies, hri]
  have HRI := Lib.hid hri
  have HN := Lib.hid hN
  have HB := Lib.hid hB
  rcases hB with h | ⟨b2, off2, rfl, hb2, hcell2⟩
  · have : r.length = 0 := by have := congrArg List.length h; simpa [bodies] using this
    omega
  have hc2 := hcell2 i (by simpa [bodies] using hi)
  rw [hbi] at hc2
  clear hN hg hfi hri hbi hcell2
  generalize hrl : r.length = n at *
  have HRL := Lib.hid hrl
  clear hrl
  go_enter Try.func25, Try.ntmps25
  go_wp2_with fail
  refine (hF.out _ (HN.out.ext (by repeat (first | (with_reducible exact Ext.refl _) | (with_reducible assumption) | (with_reducible refine Ext.drewN ?_ _) | (with_reducible refine Ext.drew ?_) | (with_reducible refine Ext.alloc ?_ _) | (refine Ext.trans ?_ (by with_reducible assumption)))))).mono ?_
  rintro e z ⟨rfl, hz⟩
  have E1 : Ext w z := Ext.trans (by repeat (first | (with_reducible exact Ext.refl _) | (with_reducible assumption) | (with_reducible refine Ext.drewN ?_ _) | (with_reducible refine Ext.drew ?_) | (with_reducible refine Ext.alloc ?_ _) | (refine Ext.trans ?_ (by with_reducible assumption)))) hz
  have E1H := Lib.hid E1
  have HB4 : Hid (z.heap[w.heap.size + 2]? = some (.cells #[.int .i64 0, .slice none 0 0, .slice none 0 0] 58 (0, 0))) := (Below.block hz (w.heap.size + 2) (by simp)).trans (heap_third _ _ _ _)
  have hcz0 := Ext.cellAt hz (b := w.heap.size) (by first | omega | (simp; done) | (simp; omega)); have hfz0 := Ext.frozenAt hz (b := w.heap.size) (by first | omega | (simp; done) | (simp; omega)); have hlz0 : w.heap.size < z.heap.size := (by have := Ext.size hz; first | omega | (simp at *; omega)); have hcz1 := Ext.cellAt hz (b := w.heap.size + 1) (by first | omega | (simp; done) | (simp; omega)); have hfz1 := Ext.frozenAt hz (b := w.heap.size + 1) (by first | omega | (simp; done) | (simp; omega)); have hlz1 : w.heap.size + 1 < z.heap.size := (by have := Ext.size hz; first | omega | (simp at *; omega)); have hcz2 := Ext.cellAt hz (b := w.heap.size + 1 + 1) (by first | omega | (simp; done) | (simp; omega)); have hfz2 := Ext.frozenAt hz (b := w.heap.size + 1 + 1) (by first | omega | (simp; done) | (simp; omega)); have hlz2 : w.heap.size + 1 + 1 < z.heap.size := (by have := Ext.size hz; first | omega | (simp at *; omega))
  clear hz
  have hcz : z.cell? ⟨b2, off2 + i, none⟩ = some (.string o) := by rw [E1.cellAt hb2]; exact hc2
  have hbz : b2 < z.heap.size := by have := E1.size; omega
  have hlw2 : w.heap.size + 2 < z.heap.size := by omega
  have hb4 : z.heap[w.heap.size + 2]? = some (.cells #[.int .i64 0, .slice none 0 0, .slice none 0 0] 58 (0, 0)) := HB4.out
  go_wp2_with fail
  refine wp_region_Rt (Keep ((w.heap.size + 2, #[.int .i64 size, .slice p n cn, .slice (some ⟨b2, off2, none⟩) n cq]))) Keep.refl (by kernel_rfl) ?_
  repeat (refine Rt.takeU Keep.refl (fun _ _ _ => Keep.trans) rfl rfl (by kernel_rfl) (fun K hK => ?_); apply Exists.intro; refine ⟨fun x hx => ?_, ?_⟩; (next => have HX := Lib.hid hx; have hc0 := Keep.cellAt hx (b := w.heap.size) (by first | omega | (simp; done) | (simp; omega)) (by first | omega | (simp; done) | (simp; omega)); have hc1 := Keep.cellAt hx (b := b2) (by first | omega | (simp; done) | (simp; omega)) (by first | omega | (simp; done) | (simp; omega)); clear hx; go_simp; first | done | ((try go_ints); first | done | rfl | (fail))); go_simp; refine hK _ ?_; clear hK K)
  refine Rt.only rfl (by kernel_rfl) (fun x hx K hK => ?_)
  obtain ⟨d, hds, hdh⟩ := hx.but.shape (w.heap.size + 2) _ _ _ rfl hb4
  have hdc : ∀ o, x.cell? ⟨w.heap.size + 1 + 1, o, none⟩ = d[o]? := fun o => by rw [show w.heap.size + 1 + 1 = w.heap.size + 2 from rfl]; simp [World.cell?, hdh]
  have hdf : ∀ o, x.frozen? ⟨w.heap.size + 1 + 1, o, none⟩ = false := fun o => by rw [show w.heap.size + 1 + 1 = w.heap.size + 2 from rfl]; simp [World.frozen?, hdh]
  obtain ⟨d0, d1, d2, rfl⟩ := size3 d (by rw [hds]; rfl)
  have HXX := Lib.hid hx
  have HDH := Lib.hid hdh
  clear hx hdh E1
  go_wp2
  refine hK _ _ (keep_set3 HDH.out rfl _ _ _) ?_
  clear hK K
  repeat (refine Rt.takeU Keep.refl (fun _ _ _ => Keep.trans) rfl rfl (by kernel_rfl) (fun K hK => ?_); apply Exists.intro; refine ⟨fun x hx => ?_, ?_⟩; (next => have HX := Lib.hid hx; skip; clear hx; go_simp; first | done | ((try go_ints); first | done | rfl | (fail))); go_simp; refine hK _ ?_; clear hK K)
  refine Rt.done (by kernel_rfl) (fun y hy => ?_)
  have hyc := hy.fin (fun o => cell_setCell3 HDH.out rfl _ _ _ o)
  have HY := Lib.hid (HXX.out.but.trans ((keep_set3 HDH.out rfl _ _ _).but.trans hy.but))
  clear hy
  have HE9 : Hid (Ext w y) := But.ext (E1H.out.drew) HY.out (fun k hk => by omega)
  go_wp2
  exact bodyPost_ret (v := .tuple #[.agg #[.int .i64 size, .slice p n cn, .slice (some ⟨b2, off2, none⟩) n cq], .string o, .int .i64 0]) (by simp only [results, Try.results25]; go_simp) rfl ⟨rfl, HE9.out⟩

set_option maxRecDepth 30000 in
theorem plainly_spoil_empty (size : Int) (r : Held) (p q : Option Addr) (cn cq : Nat) (c : Call) (w : World) (hl : r.length ≤ 100000) (hN : TextsAt w p (names r)) (hB : TextsAt w q (bodies r)) (hk : 0 ≤ c.kind) (h6 : c.kind % 8 = 6) (o : ByteArray) (hg : getL r c.name = some o) (ho : o.size = 0) :
    Calls Try.prog 25 #[.agg #[.int .i64 size, .slice p r.length cn, .slice q r.length cq], c.v] w fun e w' => e = .returned (.tuple #[.agg #[.int .i64 size, .slice p r.length cn, .slice q r.length cq], .string ⟨#[]⟩, .int .i64 0]) ∧ Ext w w' := by
  obtain ⟨kind, nm, s, spot, byI⟩ := c
  unfold Call.v
  simp only at *
  have hF := Lib.hid (fun w hN => find_any size r p q cn cq nm w (by omega) hN)
  have q4 : (kind % 8 == 4) = false := by simp; omega
  have q5 : (kind % 8 == 5) = false := by simp; omega
  obtain ⟨i, hi, hfi, hri⟩ := findR_some hg 0
  rw [hfi, Nat.zero_add] at hF
  have hbi : (bodies r).getD i ⟨#[]⟩ = o := by simp [bodies, hri]
  have HRI := Lib.hid hri
  have HN := Lib.hid hN
  have HB := Lib.hid hB
  rcases hB with h | ⟨b2, off2, rfl, hb2, hcell2⟩
  · have : r.length = 0 := by have := congrArg List.length h; simpa [bodies] using this
    omega
  have hc2 := hcell2 i (by simpa [bodies] using hi)
  rw [hbi] at hc2
  clear hN hg hfi hri hbi hcell2
  obtain rfl : o = ByteArray.empty := by
    apply ByteArray.ext; exact Array.eq_empty_of_size_eq_zero ho
  generalize hrl : r.length = n at *
  have HRL := Lib.hid hrl
  clear hrl
  go_enter Try.func25, Try.ntmps25
  go_wp2_with fail
  refine (hF.out _ (HN.out.ext (by repeat (first | (with_reducible exact Ext.refl _) | (with_reducible assumption) | (with_reducible refine Ext.drewN ?_ _) | (with_reducible refine Ext.drew ?_) | (with_reducible refine Ext.alloc ?_ _) | (refine Ext.trans ?_ (by with_reducible assumption)))))).mono ?_
  rintro e z ⟨rfl, hz⟩
  have E1 : Ext w z := Ext.trans (by repeat (first | (with_reducible exact Ext.refl _) | (with_reducible assumption) | (with_reducible refine Ext.drewN ?_ _) | (with_reducible refine Ext.drew ?_) | (with_reducible refine Ext.alloc ?_ _) | (refine Ext.trans ?_ (by with_reducible assumption)))) hz
  have E1H := Lib.hid E1
  have HB4 : Hid (z.heap[w.heap.size + 2]? = some (.cells #[.int .i64 0, .slice none 0 0, .slice none 0 0] 58 (0, 0))) := (Below.block hz (w.heap.size + 2) (by simp)).trans (heap_third _ _ _ _)
  have hcz0 := Ext.cellAt hz (b := w.heap.size) (by first | omega | (simp; done) | (simp; omega)); have hfz0 := Ext.frozenAt hz (b := w.heap.size) (by first | omega | (simp; done) | (simp; omega)); have hlz0 : w.heap.size < z.heap.size := (by have := Ext.size hz; first | omega | (simp at *; omega)); have hcz1 := Ext.cellAt hz (b := w.heap.size + 1) (by first | omega | (simp; done) | (simp; omega)); have hfz1 := Ext.frozenAt hz (b := w.heap.size + 1) (by first | omega | (simp; done) | (simp; omega)); have hlz1 : w.heap.size + 1 < z.heap.size := (by have := Ext.size hz; first | omega | (simp at *; omega)); have hcz2 := Ext.cellAt hz (b := w.heap.size + 1 + 1) (by first | omega | (simp; done) | (simp; omega)); have hfz2 := Ext.frozenAt hz (b := w.heap.size + 1 + 1) (by first | omega | (simp; done) | (simp; omega)); have hlz2 : w.heap.size + 1 + 1 < z.heap.size := (by have := Ext.size hz; first | omega | (simp at *; omega))
  clear hz
  have hcz : z.cell? ⟨b2, off2 + i, none⟩ = some (.string ByteArray.empty) := by rw [E1.cellAt hb2]; exact hc2
  have hbz : b2 < z.heap.size := by have := E1.size; omega
  go_wp2
  exact bodyPost_ret (v := .tuple #[.agg #[.int .i64 size, .slice p n cn, .slice (some ⟨b2, off2, none⟩) n cq], .string ⟨#[]⟩, .int .i64 0]) (by simp only [results, Try.results25]; go_simp) rfl ⟨rfl, by repeat (first | (with_reducible exact E1) | (with_reducible refine Ext.drewN ?_ _) | (with_reducible refine Ext.drew ?_) | (with_reducible refine Ext.setCell ?_ (by first | omega | (simp; done) | (simp; omega)) _) | (with_reducible refine Ext.alloc ?_ _))⟩

set_option maxRecDepth 30000 in
theorem plainly_spoil_zero (size : Int) (r : Held) (p q : Option Addr) (cn cq : Nat) (c : Call) (w : World) (hl : r.length ≤ 100000) (hN : TextsAt w p (names r)) (hB : TextsAt w q (bodies r)) (hk : 0 ≤ c.kind) (h6 : c.kind % 8 = 6) (o : ByteArray) (hg : getL r c.name = some o) (ho : 0 < o.size) (hb0 : c.by' = 0) :
    Calls Try.prog 25 #[.agg #[.int .i64 size, .slice p r.length cn, .slice q r.length cq], c.v] w fun e w' => e = .returned (.tuple #[.agg #[.int .i64 size, .slice p r.length cn, .slice q r.length cq], .string ⟨#[]⟩, .int .i64 0]) ∧ Ext w w' := by
  obtain ⟨kind, nm, s, spot, byI⟩ := c
  unfold Call.v
  simp only at *
  have hF := Lib.hid (fun w hN => find_any size r p q cn cq nm w (by omega) hN)
  have q4 : (kind % 8 == 4) = false := by simp; omega
  have q5 : (kind % 8 == 5) = false := by simp; omega
  obtain ⟨i, hi, hfi, hri⟩ := findR_some hg 0
  rw [hfi, Nat.zero_add] at hF
  have hbi : (bodies r).getD i ⟨#[]⟩ = o := by simp [bodies, hri]
  have HRI := Lib.hid hri
  have HN := Lib.hid hN
  have HB := Lib.hid hB
  rcases hB with h | ⟨b2, off2, rfl, hb2, hcell2⟩
  · have : r.length = 0 := by have := congrArg List.length h; simpa [bodies] using this
    omega
  have hc2 := hcell2 i (by simpa [bodies] using hi)
  rw [hbi] at hc2
  clear hN hg hfi hri hbi hcell2
  obtain ⟨hne0, hne1⟩ := str_ne ho
  subst hb0
  generalize hrl : r.length = n at *
  have HRL := Lib.hid hrl
  clear hrl
  go_enter Try.func25, Try.ntmps25
  go_wp2_with fail
  refine (hF.out _ (HN.out.ext (by repeat (first | (with_reducible exact Ext.refl _) | (with_reducible assumption) | (with_reducible refine Ext.drewN ?_ _) | (with_reducible refine Ext.drew ?_) | (with_reducible refine Ext.alloc ?_ _) | (refine Ext.trans ?_ (by with_reducible assumption)))))).mono ?_
  rintro e z ⟨rfl, hz⟩
  have E1 : Ext w z := Ext.trans (by repeat (first | (with_reducible exact Ext.refl _) | (with_reducible assumption) | (with_reducible refine Ext.drewN ?_ _) | (with_reducible refine Ext.drew ?_) | (with_reducible refine Ext.alloc ?_ _) | (refine Ext.trans ?_ (by with_reducible assumption)))) hz
  have E1H := Lib.hid E1
  have HB4 : Hid (z.heap[w.heap.size + 2]? = some (.cells #[.int .i64 0, .slice none 0 0, .slice none 0 0] 58 (0, 0))) := (Below.block hz (w.heap.size + 2) (by simp)).trans (heap_third _ _ _ _)
  have hcz0 := Ext.cellAt hz (b := w.heap.size) (by first | omega | (simp; done) | (simp; omega)); have hfz0 := Ext.frozenAt hz (b := w.heap.size) (by first | omega | (simp; done) | (simp; omega)); have hlz0 : w.heap.size < z.heap.size := (by have := Ext.size hz; first | omega | (simp at *; omega)); have hcz1 := Ext.cellAt hz (b := w.heap.size + 1) (by first | omega | (simp; done) | (simp; omega)); have hfz1 := Ext.frozenAt hz (b := w.heap.size + 1) (by first | omega | (simp; done) | (simp; omega)); have hlz1 : w.heap.size + 1 < z.heap.size := (by have := Ext.size hz; first | omega | (simp at *; omega)); have hcz2 := Ext.cellAt hz (b := w.heap.size + 1 + 1) (by first | omega | (simp; done) | (simp; omega)); have hfz2 := Ext.frozenAt hz (b := w.heap.size + 1 + 1) (by first | omega | (simp; done) | (simp; omega)); have hlz2 : w.heap.size + 1 + 1 < z.heap.size := (by have := Ext.size hz; first | omega | (simp at *; omega))
  clear hz
  have hcz : z.cell? ⟨b2, off2 + i, none⟩ = some (.string o) := by rw [E1.cellAt hb2]; exact hc2
  have hbz : b2 < z.heap.size := by have := E1.size; omega
  go_wp2
  exact bodyPost_ret (v := .tuple #[.agg #[.int .i64 size, .slice p n cn, .slice (some ⟨b2, off2, none⟩) n cq], .string ⟨#[]⟩, .int .i64 0]) (by simp only [results, Try.results25]; go_simp) rfl ⟨rfl, by repeat (first | (with_reducible exact E1) | (with_reducible refine Ext.drewN ?_ _) | (with_reducible refine Ext.drew ?_) | (with_reducible refine Ext.setCell ?_ (by first | omega | (simp; done) | (simp; omega)) _) | (with_reducible refine Ext.alloc ?_ _))⟩
--CASES END
end Go.Proofs.Ytlihjhalbemfmaa
