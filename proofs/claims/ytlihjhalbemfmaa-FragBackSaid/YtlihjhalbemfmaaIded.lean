/- An id is read off a tape. -/
import Derived.Test.YtlihjhalbemfmaaTapeRead
namespace Go.Proofs.Ytlihjhalbemfmaa
open Go.RowKit

theorem grown_own {a x y : World} {row own : Option Nat} (h : a.grownBy x row) (k : x.grownBy y own) (hk : ∀ j, own = some j → a.heap.size ≤ j) : a.grownBy y row :=
  ⟨k.os.trans h.os, k.tape.trans h.tape, k.output.trans h.output, Nat.le_trans h.size k.size, fun i hi hr => (k.block i (Nat.lt_of_lt_of_le hi h.size) (fun e => by have := hk i e.symm; omega)).trans (h.block i hi hr)⟩
theorem TapeAt.grown {x y : World} {b : Nat} {t : ByteArray} {a : Int} {own : Option Nat} (h : TapeAt x b t a) (k : x.grownBy y own) (hk : some b ≠ own) : TapeAt y b t a :=
  ⟨(World.cell?_of_block (k.block b h.lt hk)).trans h.c0, (World.cell?_of_block (k.block b h.lt hk)).trans h.c1, (World.frozen?_of_block (k.block b h.lt hk)).trans h.f0, (World.frozen?_of_block (k.block b h.lt hk)).trans h.f1, Nat.lt_of_lt_of_le h.lt k.size⟩

theorem info_int : (Try.prog.info? 3).map (fun i => (i.zero, i.size, i.bytes)) = some (some (.int .i64 0), 1, 8) := by kernel_rfl

/-- All but one block stays; once that block holds its last cells, it holds them. -/
structure Keep (p : Nat × Array Value) (w w' : World) : Prop where
  but : But (fun i => i = p.1) w w'
  fin : (∀ o, w.cell? ⟨p.1, o, none⟩ = p.2[o]?) → ∀ o, w'.cell? ⟨p.1, o, none⟩ = p.2[o]?
theorem Keep.refl {p : Nat × Array Value} (w : World) : Keep p w w := ⟨But.refl w, fun h => h⟩
theorem Keep.trans {p : Nat × Array Value} {a b c : World} (h : Keep p a b) (k : Keep p b c) : Keep p a c := ⟨h.but.trans k.but, fun f => k.fin (h.fin f)⟩
theorem Keep.cellAt {p : Nat × Array Value} {w w' : World} (h : Keep p w w') {b : Nat} (hb : b < w.heap.size) (hs : ¬ b = p.1) (o : Nat) : w'.cell? ⟨b, o, none⟩ = w.cell? ⟨b, o, none⟩ := But.cellAt h.but hb hs o
theorem cell_setCell4 {x : World} {k : Nat} {t : TypeId} {d : Array Value} (h : x.heap[k]? = some (.cells d t (0, 0))) (hd : d.size = 4) (a b c e : Value) (o : Nat) :
    ((((x.setCell ⟨k, 0, none⟩ a).setCell ⟨k, 1, none⟩ b).setCell ⟨k, 2, none⟩ c).setCell ⟨k, 3, none⟩ e).cell? ⟨k, o, none⟩ = (#[a, b, c, e] : Array Value)[o]? := by
  obtain ⟨l⟩ := d
  match l, hd with
  | [d0, d1, d2, d3], _ =>
    rw [setCell_eq_setRow _ _ _ _ _ _ _ h]
    rw [setCell_eq_setRow _ _ _ _ _ _ _ (setRow_heap _ _ _ _ _ _ h), setRow_setRow]
    rw [setCell_eq_setRow _ _ _ _ _ _ _ (setRow_heap _ _ _ _ _ _ h), setRow_setRow]
    rw [setCell_eq_setRow _ _ _ _ _ _ _ (setRow_heap _ _ _ _ _ _ h), setRow_setRow]
    rw [cell_setRow_same _ _ _ _ _ _ _ h]
    rfl

theorem keep_set4 {x : World} {k : Nat} {t : TypeId} {d : Array Value} (h : x.heap[k]? = some (.cells d t (0, 0))) (hd : d.size = 4) (a b c e : Value) :
    Keep (k, #[a, b, c, e]) x ((((x.setCell ⟨k, 0, none⟩ a).setCell ⟨k, 1, none⟩ b).setCell ⟨k, 2, none⟩ c).setCell ⟨k, 3, none⟩ e) := by
  refine ⟨?_, fun _ o => cell_setCell4 h hd a b c e o⟩
  refine But.setCell (S := fun i => i = k) (p := ⟨k, 3, none⟩) ?_ rfl e
  refine But.setCell (S := fun i => i = k) (p := ⟨k, 2, none⟩) ?_ rfl c
  refine But.setCell (S := fun i => i = k) (p := ⟨k, 1, none⟩) ?_ rfl b
  exact But.setCell (S := fun i => i = k) (p := ⟨k, 0, none⟩) (But.refl x) rfl a

theorem grown_of_but {k : Nat} {w w' : World} (h : But (fun i => i = k) w w') : w.grownBy w' (some k) :=
  ⟨h.os, h.tape, h.output, h.size, fun i hi hr => h.block i hi (fun e => hr (by rw [e]))⟩

theorem size4 (c : Array Value) (h : c.size = 4) : ∃ a b d e, c = #[a, b, d, e] := by
  obtain ⟨l⟩ := c
  match l, h with
  | [a, b, d, e], _ => exact ⟨a, b, d, e, rfl⟩

def nums (num : Nat → Nat) (i : Nat) : List Value := (List.range i).map fun j => .int .i64 (num j)

set_option maxRecDepth 30000 in
theorem ided_any (b : Nat) (t : ByteArray) (off num : Nat → Nat) (w : World) (h : TapeAt w b t (off 0)) (hn : ∀ i, num i ≤ 9007199254740991) (hat : ∀ i, i < 4 → numAt t (off i) (num i))
    (ho : ∀ i, off (i + 1) = off i + (numB (num i)).length) (h2 : t.size ≤ 2000000000) :
    Calls Try.prog 43 #[.pointer (some ⟨b, 0, none⟩)] w fun e w' => e = .returned (.tuple #[.agg #[.int .i64 (num 0), .int .i64 (num 1), .int .i64 (num 2), .int .i64 (num 3)], .int .i64 0]) ∧ w.grownBy w' (some b) ∧ TapeAt w' b t (off 4) := by
  obtain ⟨i0, hi, hz0, hz1, hz2⟩ := info_parts info_int
  have hN : ∀ i, i < 4 → ∀ w, TapeAt w b t (off i) → Calls Try.prog 68 #[.pointer (some ⟨b, 0, none⟩)] w fun e w' => e = .returned (.tuple #[.int .i64 (num i), .int .i64 0]) ∧ w.grownBy w' (some b) ∧ TapeAt w' b t (off (i + 1)) := fun i hi w h => by
    have := num_any b t (off i) (num i) w h (hn i) (hat i hi) h2
    rw [ho i]; exact this
  have HN := Lib.hid hN
  have HI := Lib.hid hi
  have Z0 := Lib.hid hz0
  have Z1 := Lib.hid hz1
  have Z2 := Lib.hid hz2
  have HH := Lib.hid h
  have hlt := h.lt
  have HLT := Lib.hid hlt
  clear hN hi hz0 hz1 hz2 h hat ho hn h2 hlt
  go_enter Try.func43, Try.ntmps43
  go_wp2_with fail
  go_loopw [4, 7] (fun v x wr => ∃ i : Nat, i ≤ 4 ∧ x = .int .i64 i ∧ wr.ownsRow (w.heap.size + 1) 3 1 v i (nums num i) ∧ (w.alloc (.cells #[.int .i64 0, .int .i64 0, .int .i64 0, .int .i64 0] 36)).grownBy wr (some b) ∧ TapeAt wr b t (off i)) (fun _ x _ => 4 - (intOf x).toNat)
  case atStart => exact ⟨0, by omega, rfl, World.ownsRow_nil _ _ _ _, World.grownBy.refl _ _, HH.out.ext (by repeat (first | (with_reducible exact Ext.refl _) | (with_reducible assumption) | (with_reducible refine Ext.drewN ?_ _) | (with_reducible refine Ext.drew ?_) | (with_reducible refine Ext.alloc ?_ _) | (refine Ext.trans ?_ (by with_reducible assumption))))⟩
  case round =>
    obtain ⟨i, hi4, rfl, hown, hgr, htp⟩ := hrel
    have HO := Lib.hid hown
    have HG := Lib.hid hgr
    have HT := Lib.hid htp
    clear hown hgr htp
    by_cases hlt : i < 4
    · go_wp2_with fail
      refine (HN.out i hlt _ HT.out).mono ?_
      rintro e z ⟨rfl, hg1, ht1⟩
      have hob : u4.ownBlock = none ∨ u4.ownBlock ≠ some b := by
        right; intro e
        have := (HO.out.lt b e).1
        have := HLT.out
        omega
      have HO1 := Lib.hid (HO.out.kept hg1 hob)
      have HG1 := Lib.hid (grown_trans HG.out hg1)
      have HT1 := Lib.hid ht1
      clear hg1 ht1
      go_wp2_with (at_builtin; refine wpList_append_own _ rfl (.tmp 18) (.tmp 20) 72 rfl (w.heap.size + 1) 3 i0 (.int .i64 0) 1 8 Try.underlying72 HI.out Z0.out Z1.out Z2.out rfl (by decide) _ _ _ rfl (HO1.out.alloc _) ⟨z.heap.size, 0, none⟩ 1 1 [.int .i64 (num i)] rfl rfl (one_at _ _ _) (one_cell _ _) (by unfold maxLen; omega) (by omega) (by have := HG1.out.size; simp at this ⊢; omega) ?_)
      intro v' w1 hown' hgrow _
      have hg2 : z.grownBy w1 u4.ownBlock := grown_trans (World.grownBy_alloc _ _ _) hgrow
      have HT2 := Lib.hid (HT1.out.grown hg2 (by
        intro e
        have := (HO1.out.lt b e.symm).1
        have := HLT.out
        omega))
      have HG2 := Lib.hid (grown_own HG1.out hg2 (fun j hj => by have := (HO1.out.lt j hj).1; simp; omega))
      have HO2 : Hid (w1.ownsRow (w.heap.size + 1) 3 1 v' (i + 1) (nums num (i + 1))) := by
        unfold Hid nums
        rw [List.range_succ, List.map_append]
        exact hown'
      clear hown' hgrow hg2
      go_wp2
      go_roundw
      case rel => exact ⟨i + 1, by omega, by go_num, HO2.out, HG2.out, HT2.out⟩
      case measure => simp [intOf]; omega
    · obtain rfl : i = 4 := by omega
      obtain ⟨g, cap, rfl⟩ := Go.Joins.ownsRow_form HO.out (by omega)
      have hg := (HO.out.lt g rfl).1
      have hgs := (HO.out.lt g rfl).2
      have k0 : wr.cell? ⟨g, 0, none⟩ = some (.int .i64 (num 0)) := (HO.out.cellAt 0 (by omega)).trans rfl
      have k1 : wr.cell? ⟨g, 1, none⟩ = some (.int .i64 (num 1)) := (HO.out.cellAt 1 (by omega)).trans rfl
      have k2 : wr.cell? ⟨g, 2, none⟩ = some (.int .i64 (num 2)) := (HO.out.cellAt 2 (by omega)).trans rfl
      have k3 : wr.cell? ⟨g, 3, none⟩ = some (.int .i64 (num 3)) := (HO.out.cellAt 3 (by omega)).trans rfl
      have hb2 := HG.out.block w.heap.size (by simp) (fun e => by have := HLT.out; injection e with e; omega)
      have hwl : w.heap.size < wr.heap.size := by have := HG.out.size; simp at this; omega
      rw [heap_alloc_new] at hb2
      have z0 : ∀ o, wr.cell? ⟨w.heap.size, o, none⟩ = (#[.int .i64 0, .int .i64 0, .int .i64 0, .int .i64 0] : Array Value)[o]? := fun o => by simp [World.cell?, hb2]
      have zf : ∀ o, wr.frozen? ⟨w.heap.size, o, none⟩ = false := fun o => by simp [World.frozen?, hb2]
      go_wp2
      refine wp_region_Rt (Keep ((w.heap.size, #[.int .i64 (num 0), .int .i64 (num 1), .int .i64 (num 2), .int .i64 (num 3)]))) Keep.refl (by kernel_rfl) ?_
      repeat (refine Rt.takeU Keep.refl (fun _ _ _ => Keep.trans) rfl rfl (by kernel_rfl) (fun K hK => ?_); apply Exists.intro; refine ⟨fun x hx => ?_, ?_⟩; (next => have HX := Lib.hid hx; have hc0 := Keep.cellAt hx (b := g) (by first | omega | (simp; done) | (simp; omega)) (by first | omega | (simp; done) | (simp; omega)); clear hx; go_simp; first | done | ((try go_ints); first | done | rfl | (fail))); go_simp; refine hK _ ?_; clear hK K)
      refine Rt.only rfl (by kernel_rfl) (fun x hx K hK => ?_)
      have hxs := hx.but.size
      have hcg := Keep.cellAt hx (b := g) (by first | omega | (simp; done) | (simp; omega)) (by first | omega | (simp; done) | (simp; omega))
      obtain ⟨d, hds, hdh⟩ := hx.but.shape w.heap.size _ _ _ rfl hb2
      have hdc : ∀ o, x.cell? ⟨w.heap.size, o, none⟩ = d[o]? := fun o => by simp [World.cell?, hdh]
      have hdf : ∀ o, x.frozen? ⟨w.heap.size, o, none⟩ = false := fun o => by simp [World.frozen?, hdh]
      obtain ⟨d0, d1, d2, d3, rfl⟩ := size4 d (by rw [hds]; rfl)
      have HXX := Lib.hid hx
      have HDH := Lib.hid hdh
      clear hx hdh
      go_wp2
      refine hK _ _ (keep_set4 HDH.out rfl _ _ _ _) ?_
      clear hK K
      repeat (refine Rt.takeU Keep.refl (fun _ _ _ => Keep.trans) rfl rfl (by kernel_rfl) (fun K hK => ?_); apply Exists.intro; refine ⟨fun x hx => ?_, ?_⟩; (next => have HX := Lib.hid hx; skip; clear hx; go_simp; first | done | ((try go_ints); first | done | rfl | (fail))); go_simp; refine hK _ ?_; clear hK K)
      refine Rt.done (by kernel_rfl) (fun y hy => ?_)
      have hyc := hy.fin (fun o => cell_setCell4 HDH.out rfl _ _ _ _ o)
      have HY := Lib.hid hy
      clear hy
      have h2 : wr.grownBy y (some w.heap.size) := grown_trans (grown_of_ext (Ext.refl wr).drew _) (grown_of_but (HXX.out.but.trans ((keep_set4 HDH.out rfl _ _ _ _).but.trans HY.out.but)))
      have HG3 := Lib.hid (grown_own (grown_trans (World.grownBy_alloc w _ (some b)) HG.out) h2 (fun j hj => by injection hj with hj; omega))
      have HT3 := Lib.hid (HT.out.grown h2 (fun e => by have := HLT.out; injection e with e; omega))
      clear h2
      go_wp2
      refine bodyPost_ret (v := .tuple #[.agg #[.int .i64 (num 0), .int .i64 (num 1), .int .i64 (num 2), .int .i64 (num 3)], .int .i64 0]) (by simp only [results, Try.results43]; go_simp) rfl ⟨rfl, HG3.out, HT3.out⟩
end Go.Proofs.Ytlihjhalbemfmaa
