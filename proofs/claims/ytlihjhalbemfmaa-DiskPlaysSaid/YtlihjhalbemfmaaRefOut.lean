/- The reference's disk under way: two lists that grow in a struct of the call's own. -/
import Derived.Test.YtlihjhalbemfmaaRefDisk
import Derived.Maps.AppendAt
namespace Go.Proofs.Ytlihjhalbemfmaa
open Go.RowKit

theorem grown_ext {w w' : World} (h : Ext w w') (row : Option Nat) : w.grownBy w' row := ⟨Below.os h, Below.tape h, Below.output h, h.size, fun k hk _ => Below.block h k hk⟩
theorem ext_own {a x y : World} {own : Option Nat} (h : Ext a x) (hg : x.grownBy y own) (hb : ∀ j, own = some j → a.heap.size ≤ j) : Ext a y :=
  Below.grown h hg h.size hb
theorem grown_set {w : World} {b o : Nat} {v : Value} : w.grownBy (w.setCell ⟨b, o, none⟩ v) (some b) :=
  ⟨rfl, rfl, rfl, by simp [World.setCell], fun k _ hne => Below.heap_setCell _ _ _ _ (fun e => hne (by rw [e]))⟩
theorem str_cell (s : ByteArray) : ∀ u ∈ [Value.string s], u.oneCell' = true := by
  intro u hu
  simp at hu
  subst hu; rfl

theorem one_old {y : World} {g : Nat} {v : Value} (h : y.cell? ⟨g, 0, none⟩ = some v) : ∀ j u, [v][j]? = some u → y.cell? ((⟨g, 0, none⟩ : Addr).add j) = some u := by
  intro j u hj
  cases j with
  | zero => simp at hj; subst hj; exact h
  | succ j => simp at hj
theorem cell_new_at (w : World) (x : Value) (t : TypeId) (n : Nat) (hn : n = w.heap.size) : ∀ j u, [x][j]? = some u → (w.alloc (.cells #[x] t)).cell? ((⟨n, 0, none⟩ : Addr).add j) = some u := by
  subst hn; exact cell_one_new w x t
theorem size_setCell (w : World) (a : Addr) (v : Value) : (w.setCell a v).heap.size = w.heap.size := by simp [World.setCell]
def strsV (l : List ByteArray) : List Value := l.map .string
theorem info_str : (Try.prog.info? 9).map (fun i => (i.zero, i.size, i.bytes)) = some (some (.string ⟨#[]⟩), 1, 16) := by kernel_rfl

structure OutAt (w : World) (o base : Nat) (size : Int) (nv hv : Value) (ns bs : List ByteArray) : Prop where
  blk : w.heap[o]? = some (.cells #[.int .i64 size, nv, hv] 58 (0, 0))
  nrow : w.ownsRow base 9 1 nv ns.length (strsV ns)
  brow : w.ownsRow base 9 1 hv bs.length (strsV bs)
  apart : ∀ g, nv.ownBlock = some g → hv.ownBlock ≠ some g
  lt : o < base
  le : base ≤ w.heap.size

theorem OutAt.olt {w : World} {o base : Nat} {size : Int} {nv hv : Value} {ns bs : List ByteArray} (h : OutAt w o base size nv hv ns bs) : o < w.heap.size := Nat.lt_of_lt_of_le h.lt h.le
theorem OutAt.ext {w w' : World} {o base : Nat} {size : Int} {nv hv : Value} {ns bs : List ByteArray} (h : OutAt w o base size nv hv ns bs) (hx : Ext w w') : OutAt w' o base size nv hv ns bs :=
  ⟨(Below.block hx o h.olt).trans h.blk, h.nrow.kept (grown_ext hx none) (by cases nv.ownBlock <;> simp), h.brow.kept (grown_ext hx none) (by cases hv.ownBlock <;> simp), h.apart, h.lt, Nat.le_trans h.le hx.size⟩
theorem OutAt.cell {w : World} {o base : Nat} {size : Int} {nv hv : Value} {ns bs : List ByteArray} (h : OutAt w o base size nv hv ns bs) (i : Nat) : w.cell? ⟨o, i, none⟩ = (#[.int .i64 size, nv, hv] : Array Value)[i]? := by simp [World.cell?, h.blk]
theorem OutAt.free {w : World} {o base : Nat} {size : Int} {nv hv : Value} {ns bs : List ByteArray} (h : OutAt w o base size nv hv ns bs) (i : Nat) : w.frozen? ⟨o, i, none⟩ = false := by simp [World.frozen?, h.blk]

theorem not_own {w : World} {base : Nat} {e : TypeId} {z : Nat} {v : Value} {n : Nat} {xs : List Value} (h : w.ownsRow base e z v n xs) {o : Nat} (ho : o < base) : v.ownBlock = none ∨ v.ownBlock ≠ some o := by
  right
  intro e
  have := (h.lt o e).1
  omega

theorem row_form {w : World} {base : Nat} {e : TypeId} {z : Nat} {v : Value} {n : Nat} {xs : List Value} (h : w.ownsRow base e z v n xs) : ∃ p c, v = .slice p n c := by
  obtain ⟨_, ⟨hv, hn⟩ | ⟨g, cap, cur, hv, _⟩⟩ := h
  · exact ⟨none, 0, by rw [hv, hn]⟩
  · exact ⟨_, _, hv⟩
theorem row_base {w : World} {base base' : Nat} {e : TypeId} {z : Nat} {v : Value} {n : Nat} {xs : List Value} (h : w.ownsRow base e z v n xs) (hb : base' ≤ base) : w.ownsRow base' e z v n xs := by
  obtain ⟨h1, h2 | ⟨g, cap, cur, hv, hg, r⟩⟩ := h
  · exact ⟨h1, .inl h2⟩
  · exact ⟨h1, .inr ⟨g, cap, cur, hv, Nat.le_trans hb hg, r⟩⟩
theorem row_set {w : World} {base o : Nat} {e : TypeId} {z : Nat} {v : Value} {n : Nat} {xs : List Value} (h : w.ownsRow base e z v n xs) (ho : o < base) (i : Nat) (u : Value) : (w.setCell ⟨o, i, none⟩ u).ownsRow base e z v n xs := h.kept grown_set (not_own h ho)
theorem OutAt.blkN {x w1 : World} {o base : Nat} {size : Int} {nv hv : Value} {ns bs : List ByteArray} (h : OutAt x o base size nv hv ns bs) (hg : x.grownBy w1 nv.ownBlock) :
    (∀ i, w1.cell? ⟨o, i, none⟩ = (#[.int .i64 size, nv, hv] : Array Value)[i]?) ∧ ∀ i, w1.frozen? ⟨o, i, none⟩ = false := by
  have hno := not_own h.nrow h.lt
  have hne : some o ≠ nv.ownBlock := by rcases hno with e | e <;> (intro q; rw [← q] at e; simp at e)
  have hb1 := (hg.block o h.olt hne).trans h.blk
  exact ⟨fun i => by simp [World.cell?, hb1], fun i => by simp [World.frozen?, hb1]⟩
theorem OutAt.blkB {x w1 : World} {o base : Nat} {size : Int} {nv hv : Value} {ns bs : List ByteArray} (h : OutAt x o base size nv hv ns bs) (hg : x.grownBy w1 hv.ownBlock) :
    (∀ i, w1.cell? ⟨o, i, none⟩ = (#[.int .i64 size, nv, hv] : Array Value)[i]?) ∧ ∀ i, w1.frozen? ⟨o, i, none⟩ = false := by
  have hno := not_own h.brow h.lt
  have hne : some o ≠ hv.ownBlock := by rcases hno with e | e <;> (intro q; rw [← q] at e; simp at e)
  have hb1 := (hg.block o h.olt hne).trans h.blk
  exact ⟨fun i => by simp [World.cell?, hb1], fun i => by simp [World.frozen?, hb1]⟩

/-- A name is laid down. -/
theorem OutAt.pushN {x w1 : World} {o base : Nat} {size : Int} {nv hv nv' : Value} {ns bs : List ByteArray} {s : ByteArray} (h : OutAt x o base size nv hv ns bs)
    (hown : w1.ownsRow base 9 1 nv' (ns.length + 1) (strsV ns ++ [.string s])) (hg : x.grownBy w1 nv.ownBlock) (hat : nv'.ownBlock = nv.ownBlock ∨ nv'.ownBlock = some x.heap.size) :
    OutAt (w1.setCell ⟨o, 1, none⟩ nv') o base size nv' hv (ns ++ [s]) bs := by
  have hy := h
  have hno := not_own h.nrow h.lt
  have hno' := not_own hown h.lt
  have hbo := not_own h.brow h.lt
  have hne : some o ≠ nv.ownBlock := by rcases hno with e | e <;> (intro q; rw [← q] at e; simp at e)
  have hb1 : w1.heap[o]? = some (.cells #[.int .i64 size, nv, hv] 58 (0, 0)) := (hg.block o hy.olt hne).trans hy.blk
  refine ⟨?_, ?_, ?_, ?_, h.lt, ?_⟩
  · simp [World.setCell, Array.getElem?_modify, hb1]
  · rw [show (ns ++ [s]).length = ns.length + 1 by simp, show strsV (ns ++ [s]) = strsV ns ++ [.string s] by simp [strsV]]
    exact hown.kept grown_set hno'
  · refine (hy.brow.kept hg ?_).kept grown_set hbo
    cases hb : hv.ownBlock with
    | none => exact .inl rfl
    | some g => right; intro e; exact h.apart g e.symm hb
  · intro g hgn hgh
    rcases hat with e | e
    · exact h.apart g (e ▸ hgn) hgh
    · rw [e] at hgn
      injection hgn with hgn
      have := (hy.brow.lt g hgh).2
      omega
  · have := hg.size
    have := h.le
    simp [World.setCell] at *
    omega
theorem OutAt.pushB {x w1 : World} {o base : Nat} {size : Int} {nv hv hv' : Value} {ns bs : List ByteArray} {s : ByteArray} (h : OutAt x o base size nv hv ns bs)
    (hown : w1.ownsRow base 9 1 hv' (bs.length + 1) (strsV bs ++ [.string s])) (hg : x.grownBy w1 hv.ownBlock) (hat : hv'.ownBlock = hv.ownBlock ∨ hv'.ownBlock = some x.heap.size) :
    OutAt (w1.setCell ⟨o, 2, none⟩ hv') o base size nv hv' ns (bs ++ [s]) := by
  have hy := h
  have hno := not_own h.brow h.lt
  have hno' := not_own hown h.lt
  have hbo := not_own h.nrow h.lt
  have hne : some o ≠ hv.ownBlock := by rcases hno with e | e <;> (intro q; rw [← q] at e; simp at e)
  have hb1 : w1.heap[o]? = some (.cells #[.int .i64 size, nv, hv] 58 (0, 0)) := (hg.block o hy.olt hne).trans hy.blk
  refine ⟨?_, ?_, ?_, ?_, h.lt, ?_⟩
  · simp [World.setCell, Array.getElem?_modify, hb1]
  · refine (hy.nrow.kept hg ?_).kept grown_set hbo
    cases hb : nv.ownBlock with
    | none => exact .inl rfl
    | some g => right; intro e; exact h.apart g hb e.symm
  · rw [show (bs ++ [s]).length = bs.length + 1 by simp, show strsV (bs ++ [s]) = strsV bs ++ [.string s] by simp [strsV]]
    exact hown.kept grown_set hno'
  · intro g hgn hgh
    rcases hat with e | e
    · exact h.apart g hgn (e ▸ hgh)
    · rw [e] at hgh
      injection hgh with hgh
      have := (hy.nrow.lt g hgn).2
      omega
  · have := hg.size
    have := h.le
    simp [World.setCell] at *
    omega

theorem texts_of_row {w : World} {base : Nat} {v : Value} {ss : List ByteArray} (h : w.ownsRow base 9 1 v ss.length (strsV ss)) : ∃ p c, v = .slice p ss.length c ∧ TextsAt w p ss := by
  obtain ⟨_, ⟨hv, hn⟩ | ⟨g, cap, cur, hv, hg, hb, hc1, hc2, hcs, hct⟩⟩ := h
  · exact ⟨none, 0, by rw [hv, hn], .inl (List.length_eq_zero_iff.1 hn)⟩
  · refine ⟨_, cap, hv, .inr ⟨g, 0, rfl, (Array.getElem?_eq_some_iff.1 hb).1, fun k hk => ?_⟩⟩
    rw [Nat.mul_one] at hct
    have h1 : cur.toList[k]? = (cur.toList.take ss.length)[k]? := by rw [List.getElem?_take_of_lt (by omega)]
    have h2 : w.cell? ⟨g, k, none⟩ = cur[k]? := by simp [World.cell?, hb]
    rw [Nat.zero_add, h2, ← Array.getElem?_toList, h1, hct]
    unfold strsV
    rw [List.getD_eq_getElem?_getD, List.getElem?_map, List.getElem?_eq_getElem hk]
    rfl
end Go.Proofs.Ytlihjhalbemfmaa
