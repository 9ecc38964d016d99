/- A disk: made, read, written, deleted from. -/
import Derived.Test.YtlihjhalbemfmaaDisk
namespace Go.Proofs.Ytlihjhalbemfmaa
open Go.RowKit

def getL (l : Held) (k : ByteArray) : Option ByteArray := (l.find? (fun p => decide (p.1 = k))).map (·.2)
def putL (l : Held) (k s : ByteArray) : Held := if (getL l k).isSome then l.map (fun p => if p.1 = k then (k, s) else p) else l ++ [(k, s)]
theorem look_vals (l : Held) (k : ByteArray) : lookAt (vals l) k = (getL l k).map .string := by
  unfold lookAt vals getL
  rw [List.find?_map, Option.map_map]
  rw [show ((fun p : ByteArray × Value => decide (p.1 = k)) ∘ fun p : ByteArray × ByteArray => (p.1, Value.string p.2)) = fun p => decide (p.1 = k) from rfl]
  rw [Option.map_map]; rfl
theorem put_vals (l : Held) (k s : ByteArray) : putAt (vals l) k (.string s) = vals (putL l k s) := by
  unfold putAt putL
  rw [look_vals]
  cases h : getL l k with
  | none => simp [vals]
  | some o =>
    simp only [Option.map_some, Option.isSome_some, if_true, vals, List.map_map]
    congr 1
    funext p
    simp only [Function.comp]
    split <;> rfl
theorem get_mem {l : Held} {k s : ByteArray} (h : getL l k = some s) : (k, s) ∈ l := by
  unfold getL at h
  cases hf : l.find? (fun p => decide (p.1 = k)) with
  | none => rw [hf] at h; cases h
  | some p =>
    rw [hf] at h
    have h1 := List.mem_of_find?_eq_some hf
    have h2 := List.find?_some hf
    simp at h h2
    rw [← h, ← h2]; exact h1
theorem get_none {l : Held} {k : ByteArray} (h : getL l k = none) : ∀ p ∈ l, p.1 ≠ k := by
  unfold getL at h
  rw [Option.map_eq_none_iff, List.find?_eq_none] at h
  simpa using h
theorem used_cons (p : ByteArray × ByteArray) (l : Held) : used (p :: l) = takes p + used l := by simp [used]
theorem used_append (l m : Held) : used (l ++ m) = used l + used m := by simp [used]
theorem map_other {l : Held} {k s : ByteArray} (h : ∀ p ∈ l, p.1 ≠ k) : l.map (fun p => if p.1 = k then (k, s) else p) = l := by
  induction l with
  | nil => rfl
  | cons p l ih => rw [List.map_cons, ih (fun q hq => h q (List.mem_cons_of_mem _ hq)), if_neg (h p List.mem_cons_self)]
theorem used_put_new {l : Held} {k s : ByteArray} (h : getL l k = none) : used (putL l k s) = used l + (k.size + s.size + 16) := by
  unfold putL
  rw [h]
  simp [used, takes]
theorem used_put_old {l : Held} (hn : (l.map (·.1)).Nodup) {k s o : ByteArray} (h : getL l k = some o) : used (putL l k s) + (k.size + o.size + 16) = used l + (k.size + s.size + 16) := by
  have hm := get_mem h
  unfold putL
  rw [h]
  simp only [Option.isSome_some, if_true]
  clear h
  induction l with
  | nil => simp at hm
  | cons p l ih =>
    rw [List.map_cons, List.nodup_cons] at hn
    rw [List.map_cons, used_cons, used_cons]
    rcases List.mem_cons.1 hm with e | hm'
    · subst e
      rw [if_pos rfl, map_other (fun q hq e => hn.1 (List.mem_map.2 ⟨q, hq, e⟩))]
      have t1 : takes (k, o) = k.size + o.size + 16 := rfl
      have t2 : takes (k, s) = k.size + s.size + 16 := rfl
      omega
    · have : p.1 ≠ k := fun e => hn.1 (List.mem_map.2 ⟨_, hm', e.symm⟩)
      have := ih hn.2 hm'
      rw [if_neg (by assumption)]
      omega

theorem new_disk (size : Int) (w : World) (h0 : 0 ≤ size) (h1 : size ≤ 4194304) :
    Calls Try.prog 17 #[.int .i64 size] w fun e w' => ∃ d b, e = .returned (.tuple #[.pointer (some ⟨d, 0, none⟩), .int .i64 0]) ∧ DiskAt w' d b size [] ∧ Ext w w' ∧ w.heap.size ≤ d ∧ w.heap.size ≤ b := by
  have hmm := @run_makeMap Try.prog
  go_enter Try.func17, Try.ntmps17
  go_wp2
  refine bodyPost_ret (v := .tuple #[.pointer (some ⟨w.heap.size + 1, 0, none⟩), .int .i64 0]) (by simp only [results, Try.results17]; go_simp) rfl ⟨_, w.heap.size, rfl, ?_, by repeat (first | (with_reducible exact Ext.refl _) | (with_reducible assumption) | (with_reducible refine Ext.drewN ?_ _) | (with_reducible refine Ext.drew ?_) | (with_reducible refine Ext.alloc ?_ _) | (refine Ext.trans ?_ (by with_reducible assumption))), by simp, by simp⟩
  exact ⟨by go_simp, by go_simp, by simp, MapAt.ext (MapAt.made w) (Ext.alloc (Ext.refl _) _), h0, h1, by simp [used]; omega⟩

theorem new_wrong (size : Int) (w : World) (h : size < 0 ∨ 4194304 < size) :
    Calls Try.prog 17 #[.int .i64 size] w fun e w' => e = .returned (.tuple #[.pointer none, .int .i64 1]) ∧ w = w' := by
  rcases h with h | h <;>
  (go_enter Try.func17, Try.ntmps17
   go_wp2
   all_goals exact bodyPost_ret (v := .tuple #[.pointer none, .int .i64 1]) (by simp only [results, Try.results17]; go_simp) rfl ⟨rfl, rfl⟩)

theorem zeroStr (w : World) : (zeroValue 9).run Try.prog w = .ok (.string ⟨#[]⟩) w := by kernel_rfl

theorem DiskAt.look {w : World} {d b : Nat} {size : Int} {l : Held} (h : DiskAt w d b size l) (k : ByteArray) :
    (Instr.lookup 87 (.map (some b)) (.string k) true).run Try.prog w = .ok (.tuple #[.string ((getL l k).getD ⟨#[]⟩), .bool (getL l k).isSome]) w := by
  have := MapAt.lookup_ok (P := Try.prog) h.map Try.underlying87 Try.underlying9 (zeroStr w) k
  rw [look_vals] at this
  cases hg : getL l k <;> rw [hg] at this <;> exact this

def readOf (l : Held) (k : ByteArray) : Value := match getL l k with | some s => .tuple #[.string s, .int .i64 0] | none => .tuple #[.string ⟨#[]⟩, .int .i64 8]
theorem read_any (d b : Nat) (size : Int) (l : Held) (k : ByteArray) (w : World) (h : DiskAt w d b size l) :
    Calls Try.prog 19 #[.pointer (some ⟨d, 0, none⟩), .string k] w fun e w' => e = .returned (readOf l k) ∧ w = w' := by
  have hlook := h.look k
  have hc1 := h.c1
  have hlt := h.lt
  unfold readOf
  clear h
  cases hg : getL l k
  · rw [hg] at hlook
    simp only [Option.getD_none, Option.isSome_none] at hlook
    clear hg
    go_enter Try.func19, Try.ntmps19
    go_wp2
    exact bodyPost_ret (v := .tuple #[.string ⟨#[]⟩, .int .i64 8]) (by simp only [results, Try.results19]; go_simp) rfl ⟨rfl, rfl⟩
  · rename_i s
    rw [hg] at hlook
    simp only [Option.getD_some, Option.isSome_some] at hlook
    clear hg
    go_enter Try.func19, Try.ntmps19
    go_wp2
    exact bodyPost_ret (v := .tuple #[.string s, .int .i64 0]) (by simp only [results, Try.results19]; go_simp) rfl ⟨rfl, rfl⟩
end Go.Proofs.Ytlihjhalbemfmaa
