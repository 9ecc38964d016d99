/- One block that is written while others are read. -/
import Derived.Test.YtlihjhalbemfmaaKit
namespace Go.Proofs.Ytlihjhalbemfmaa
open Go.RowKit

/-- All but one block stays; once that block holds its last cells, it holds them. -/
structure Keep (p : Nat × Array Value) (w w' : World) : Prop where
  but : But (fun i => i = p.1) w w'
  fin : (∀ o, w.cell? ⟨p.1, o, none⟩ = p.2[o]?) → ∀ o, w'.cell? ⟨p.1, o, none⟩ = p.2[o]?
theorem Keep.refl {p : Nat × Array Value} (w : World) : Keep p w w := ⟨But.refl w, fun h => h⟩
theorem Keep.trans {p : Nat × Array Value} {a b c : World} (h : Keep p a b) (k : Keep p b c) : Keep p a c := ⟨h.but.trans k.but, fun f => k.fin (h.fin f)⟩
theorem Keep.cellAt {p : Nat × Array Value} {w w' : World} (h : Keep p w w') {b : Nat} (hb : b < w.heap.size) (hs : ¬ b = p.1) (o : Nat) : w'.cell? ⟨b, o, none⟩ = w.cell? ⟨b, o, none⟩ := But.cellAt h.but hb hs o
theorem cell_setCell4 {x : World} {k : Nat} {t : TypeId} {d : Array Value} (h : x.heap[k]? = some (.cells d t (0, 0))) (hd : d.size = 4) (a b c e : Value) (o : Nat) :
    ((((x.setCell ⟨k, 0, none⟩ a).setCell ⟨k, 1, none⟩ b).setCell ⟨k, 2, none⟩ c).setCell ⟨k, 3, none⟩ e).cell? ⟨k, o, none⟩ = (#[a, b, c, e] : Array Value)[o]? := by
  obtain ⟨l⟩ := d
  match l, hd with
  | [d0, d1, d2, d3], _ =>
    rw [setCell_eq_setRow _ _ _ _ _ _ _ h]
    rw [setCell_eq_setRow _ _ _ _ _ _ _ (setRow_heap _ _ _ _ _ _ h), setRow_setRow]
    rw [setCell_eq_setRow _ _ _ _ _ _ _ (setRow_heap _ _ _ _ _ _ h), setRow_setRow]
    rw [setCell_eq_setRow _ _ _ _ _ _ _ (setRow_heap _ _ _ _ _ _ h), setRow_setRow]
    rw [cell_setRow_same _ _ _ _ _ _ _ h]
    rfl

theorem keep_set4 {x : World} {k : Nat} {t : TypeId} {d : Array Value} (h : x.heap[k]? = some (.cells d t (0, 0))) (hd : d.size = 4) (a b c e : Value) :
    Keep (k, #[a, b, c, e]) x ((((x.setCell ⟨k, 0, none⟩ a).setCell ⟨k, 1, none⟩ b).setCell ⟨k, 2, none⟩ c).setCell ⟨k, 3, none⟩ e) := by
  refine ⟨?_, fun _ o => cell_setCell4 h hd a b c e o⟩
  refine But.setCell (S := fun i => i = k) (p := ⟨k, 3, none⟩) ?_ rfl e
  refine But.setCell (S := fun i => i = k) (p := ⟨k, 2, none⟩) ?_ rfl c
  refine But.setCell (S := fun i => i = k) (p := ⟨k, 1, none⟩) ?_ rfl b
  exact But.setCell (S := fun i => i = k) (p := ⟨k, 0, none⟩) (But.refl x) rfl a

theorem cell_setCell3 {x : World} {k : Nat} {t : TypeId} {d : Array Value} (h : x.heap[k]? = some (.cells d t (0, 0))) (hd : d.size = 3) (a b c : Value) (o : Nat) :
    (((x.setCell ⟨k, 0, none⟩ a).setCell ⟨k, 1, none⟩ b).setCell ⟨k, 2, none⟩ c).cell? ⟨k, o, none⟩ = (#[a, b, c] : Array Value)[o]? := by
  obtain ⟨l⟩ := d
  match l, hd with
  | [d0, d1, d2], _ =>
    rw [setCell_eq_setRow _ _ _ _ _ _ _ h]
    rw [setCell_eq_setRow _ _ _ _ _ _ _ (setRow_heap _ _ _ _ _ _ h), setRow_setRow]
    rw [setCell_eq_setRow _ _ _ _ _ _ _ (setRow_heap _ _ _ _ _ _ h), setRow_setRow]
    rw [cell_setRow_same _ _ _ _ _ _ _ h]
    rfl

theorem keep_set3 {x : World} {k : Nat} {t : TypeId} {d : Array Value} (h : x.heap[k]? = some (.cells d t (0, 0))) (hd : d.size = 3) (a b c : Value) :
    Keep (k, #[a, b, c]) x (((x.setCell ⟨k, 0, none⟩ a).setCell ⟨k, 1, none⟩ b).setCell ⟨k, 2, none⟩ c) := by
  refine ⟨?_, fun _ o => cell_setCell3 h hd a b c o⟩
  refine But.setCell (S := fun i => i = k) (p := ⟨k, 2, none⟩) ?_ rfl c
  refine But.setCell (S := fun i => i = k) (p := ⟨k, 1, none⟩) ?_ rfl b
  exact But.setCell (S := fun i => i = k) (p := ⟨k, 0, none⟩) (But.refl x) rfl a

theorem size3 (c : Array Value) (h : c.size = 3) : ∃ a b d, c = #[a, b, d] := by
  obtain ⟨l⟩ := c
  match l, h with
  | [a, b, d], _ => exact ⟨a, b, d, rfl⟩
end Go.Proofs.Ytlihjhalbemfmaa
