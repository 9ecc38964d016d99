/- The kit of these proofs: worlds that only grew; a region that draws its order, whose operations keep an invariant: taken one by one, each as soon as it may come up and gives one value, or when it is the only one that may. -/
import Derived.Test.YtlihjhalbemfmaaProg
import Derived.WalkKit
import Derived.WalkSpells
import Derived.WalkLawsBesides
import Derived.Lib.Hide
import Derived.BigQuiet
import Derived.Deep.QuietTactic
import Derived.Deep.LoopGhost
namespace Go.Proofs.Ytlihjhalbemfmaa
open Go.RowKit

/-- What there was is as it was; there may be more. -/
def Ext (w w' : World) : Prop := Below w.heap.size w w'
theorem Ext.below {w w' : World} (h : Ext w w') : Below w.heap.size w w' := h
theorem Ext.size {w w' : World} (h : Ext w w') : w.heap.size ≤ w'.heap.size := Below.size h
theorem Ext.refl (w : World) : Ext w w := Below.refl _ _
theorem Ext.trans {a b c : World} (h : Ext a b) (k : Ext b c) : Ext a c := Below.trans h (Below.mono k h.size)
theorem Ext.alloc {a w : World} (h : Ext a w) (o : Obj) : Ext a (w.alloc o) := Below.alloc h h.size o
theorem Ext.drew {a w : World} (h : Ext a w) : Ext a w.drew := Below.drew h
theorem Ext.drewN {a w : World} (h : Ext a w) (n : Nat) : Ext a (w.drewN n) := below_drewN h n
theorem Ext.setCell {a w : World} (h : Ext a w) {p : Addr} (hp : a.heap.size ≤ p.block) (u : Value) : Ext a (w.setCell p u) := Below.setCell h hp u
theorem Ext.of_below {B : Nat} {a b : World} (h : Below B a b) (hB : a.heap.size ≤ B) : Ext a b := Below.mono h hB
theorem Ext.trans' {a b c : World} (h : Ext a b) (k : Below a.heap.size b c) : Ext a c := Below.trans h k
theorem Ext.cell {w w' : World} (h : Ext w w') {p : Addr} (hp : p.block < w.heap.size) : w'.cell? p = w.cell? p := Below.cell h hp
theorem Ext.frozen {w w' : World} (h : Ext w w') {p : Addr} (hp : p.block < w.heap.size) : w'.frozen? p = w.frozen? p := Below.frozen h hp
theorem Ext.cellAt {w w' : World} (h : Ext w w') {b : Nat} (hb : b < w.heap.size) (o : Nat) : w'.cell? ⟨b, o, none⟩ = w.cell? ⟨b, o, none⟩ := h.cell (p := ⟨b, o, none⟩) hb
theorem Ext.frozenAt {w w' : World} (h : Ext w w') {b : Nat} (hb : b < w.heap.size) (o : Nat) : w'.frozen? ⟨b, o, none⟩ = w.frozen? ⟨b, o, none⟩ := h.frozen (p := ⟨b, o, none⟩) hb
theorem Ext.cells {w w' : World} (h : Ext w w') : (∀ b o, b < w.heap.size → w'.cell? ⟨b, o, none⟩ = w.cell? ⟨b, o, none⟩) ∧ (∀ b o, b < w.heap.size → w'.frozen? ⟨b, o, none⟩ = w.frozen? ⟨b, o, none⟩) :=
  ⟨fun _ _ hb => h.cell (p := ⟨_, _, none⟩) hb, fun _ _ hb => h.frozen (p := ⟨_, _, none⟩) hb⟩

/-- What there was, but for what lies in some blocks, is as it was; there may be more. -/
structure But (S : Nat → Prop) (w w' : World) : Prop where
  os : w'.os = w.os
  tape : w'.tape = w.tape
  output : w'.output = w.output
  size : w.heap.size ≤ w'.heap.size
  block : ∀ k, k < w.heap.size → ¬ S k → w'.heap[k]? = w.heap[k]?
  shape : ∀ k c t f, S k → w.heap[k]? = some (.cells c t f) → ∃ c', c'.size = c.size ∧ w'.heap[k]? = some (.cells c' t f)
theorem But.refl {S : Nat → Prop} (w : World) : But S w w := ⟨rfl, rfl, rfl, Nat.le_refl _, fun _ _ _ => rfl, fun _ c _ _ _ h => ⟨c, rfl, h⟩⟩
theorem But.trans {S : Nat → Prop} {a b c : World} (h : But S a b) (k : But S b c) : But S a c :=
  ⟨k.os.trans h.os, k.tape.trans h.tape, k.output.trans h.output, Nat.le_trans h.size k.size, fun i hi hs => (k.block i (Nat.lt_of_lt_of_le hi h.size) hs).trans (h.block i hi hs),
   fun i d t f hs hd => by
    obtain ⟨d1, e1, h1⟩ := h.shape i d t f hs hd
    obtain ⟨d2, e2, h2⟩ := k.shape i d1 t f hs h1
    exact ⟨d2, e2.trans e1, h2⟩⟩
theorem But.of_ext {S : Nat → Prop} {a b : World} (h : Ext a b) : But S a b :=
  ⟨Below.os h, Below.tape h, Below.output h, h.size, fun k hk _ => Below.block h k hk, fun k c t f _ hc => ⟨c, rfl, by
    have hk : k < a.heap.size := by
      rcases Nat.lt_or_ge k a.heap.size with h | h
      · exact h
      · rw [Array.getElem?_eq_none h] at hc; cases hc
    rw [Below.block h k hk]; exact hc⟩⟩
theorem But.setCell {S : Nat → Prop} {a w : World} (h : But S a w) {p : Addr} (hp : S p.block) (u : Value) : But S a (w.setCell p u) :=
  h.trans ⟨rfl, rfl, rfl, by simp [World.setCell], fun k _ hs => Below.heap_setCell _ _ _ _ (fun e => hs (e ▸ hp)), fun k c t f _ hc => by
    by_cases e : k = p.block
    · subst e
      refine ⟨if p.spot.isSome then c else c.setIfInBounds p.off u, by split <;> simp, ?_⟩
      simp only [World.setCell, Array.getElem?_modify, hc, if_true]
      rfl
    · exact ⟨c, rfl, by rw [Below.heap_setCell _ _ _ _ e]; exact hc⟩⟩
theorem But.cellAt {S : Nat → Prop} {w w' : World} (h : But S w w') {b : Nat} (hb : b < w.heap.size) (hs : ¬ S b) (o : Nat) : w'.cell? ⟨b, o, none⟩ = w.cell? ⟨b, o, none⟩ :=
  World.cell?_of_block (w := w) (h.block b hb hs)
theorem But.frozenAt {S : Nat → Prop} {w w' : World} (h : But S w w') {b : Nat} (hb : b < w.heap.size) (hs : ¬ S b) (o : Nat) : w'.frozen? ⟨b, o, none⟩ = w.frozen? ⟨b, o, none⟩ :=
  World.frozen?_of_block (w := w) (h.block b hb hs)
/-- A block that may have turned has its cells still. -/
theorem But.open {S : Nat → Prop} {w w' : World} (h : But S w w') {b : Nat} {c : Array Value} {t : TypeId} (hc : w.heap[b]? = some (.cells c t (0, 0))) :
    ∃ c' : Array Value, c'.size = c.size ∧ (∀ o, w'.cell? ⟨b, o, none⟩ = c'[o]?) ∧ ∀ o, w'.frozen? ⟨b, o, none⟩ = false := by
  by_cases hs : S b
  · obtain ⟨c', e, h'⟩ := h.shape b c t _ hs hc
    exact ⟨c', e, fun o => by simp [World.cell?, h'], fun o => by simp [World.frozen?, h']⟩
  · have hk : b < w.heap.size := by
      rcases Nat.lt_or_ge b w.heap.size with h | h
      · exact h
      · rw [Array.getElem?_eq_none h] at hc; cases hc
    have h' := h.block b hk hs
    rw [hc] at h'
    exact ⟨c, rfl, fun o => by simp [World.cell?, h'], fun o => by simp [World.frozen?, h']⟩
theorem size5 (c : Array Value) (h : c.size = 5) : ∃ a b d e f, c = #[a, b, d, e, f] := by
  obtain ⟨l⟩ := c
  match l, h with
  | [a, b, d, e, f], _ => exact ⟨a, b, d, e, f, rfl⟩
theorem size2 (c : Array Value) (h : c.size = 2) : ∃ a b, c = #[a, b] := by
  obtain ⟨l⟩ := c
  match l, h with
  | [a, b], _ => exact ⟨a, b, rfl⟩
theorem But.ext {S : Nat → Prop} {a b c : World} (e : Ext a b) (h : But S b c) (hs : ∀ k, S k → a.heap.size ≤ k) : Ext a c :=
  e.trans' ⟨h.os, h.tape, h.output, h.size, fun k hk => h.block k (Nat.lt_of_lt_of_le hk e.size) (fun q => by have := hs k q; omega)⟩

section
variable {P : Program} {ops : Array Oper} {M S U : List Nat} {Q : Exit → Act → World → Prop} {R : World → World → Prop}

/-- It waits for all others. -/
def sinkB (ops : Array Oper) (i : Nat) : Bool :=
  (List.range ops.size).all fun t => t == i || ((ops[i]?).map fun o => o.after.any fun e => Region.binds .any e && e.on == t).getD false

theorem sinkB_listed {listed : Array Bool} {i t : Nat} (hs : sinkB ops i = true) (hi : i ∈ Region.ready .any ops listed) (ht : t < ops.size) (hne : t ≠ i) : listed.getD t true = true := by
  obtain ⟨_, oi, hoi, hall⟩ := mem_ready.1 hi
  unfold sinkB at hs
  have h := List.all_eq_true.1 hs t (by simpa using ht)
  simp only [hoi, Option.map_some, Option.getD_some, Bool.or_eq_true, beq_iff_eq] at h
  rcases h with h | h
  · exact absurd h hne
  · obtain ⟨e, he, hb⟩ := Array.any_eq_true'.1 h
    simp only [Bool.and_eq_true, beq_iff_eq] at hb
    have := hall e he hb.1
    rw [hb.2] at this
    rcases Nat.lt_or_ge t listed.size with h' | h'
    · simp [h'] at this ⊢; exact this
    · simp [Array.getElem?_eq_none h'] at this

theorem sinkB_ready {listed : Array Bool} {i : Nat} (hs : sinkB ops i = true) (hi : i ∈ Region.ready .any ops listed) : Region.ready .any ops (listed.setIfInBounds i true) = [] := by
  cases hr : Region.ready .any ops (listed.setIfInBounds i true) with
  | nil => rfl
  | cons k l =>
    have hk : k ∈ Region.ready .any ops (listed.setIfInBounds i true) := by rw [hr]; exact List.mem_cons_self
    obtain ⟨hun, o, ho, _⟩ := mem_ready.1 hk
    have hlt : k < ops.size := by
      rcases Nat.lt_or_ge k ops.size with h | h
      · exact h
      · rw [Array.getElem?_eq_none h] at ho; cases ho
    by_cases e : k = i
    · subst e
      rcases Nat.lt_or_ge k listed.size with h' | h'
      · simp [h'] at hun
      · simp at hun
    · rw [getD_set_ne true (Ne.symm e)] at hun
      rw [sinkB_listed hs hi hlt e] at hun
      cases hun

/-- What one operation waits for. -/
def deps (ops : Array Oper) (i : Nat) : List Nat := ((ops[i]?).map fun o => (o.after.toList.filter fun e => Region.binds .any e).map fun e => e.on).getD []
/-- What has come up waited for nothing that has not. -/
def Closed (ops : Array Oper) (L : Array Bool) : Prop := ∀ t, t < ops.size → L.getD t true = true → ∀ d ∈ deps ops t, L.getD d false = true
/-- Each of S leads to operation j, be it through others that have come up (but not through those of U). -/
def TailAt (ops : Array Oper) (S U : List Nat) (listed : Array Bool) (j : Nat) : Prop := ∀ i ∈ S, i ≠ j → ∃ s, (s = j ∨ listed.getD s false = true ∧ s ∉ U ∧ s ≠ i ∧ s < ops.size) ∧ i ∈ deps ops s

theorem deps_of {i : Nat} {o : Oper} (ho : ops[i]? = some o) {d : Nat} : d ∈ deps ops i ↔ ∃ e ∈ o.after, Region.binds .any e = true ∧ e.on = d := by
  unfold deps
  rw [ho]
  simp [and_assoc]
theorem ready_deps {L : Array Bool} {j : Nat} (h : j ∈ Region.ready .any ops L) : ∀ d ∈ deps ops j, L.getD d false = true := by
  obtain ⟨_, o, ho, hall⟩ := mem_ready.1 h
  intro d hd
  obtain ⟨e, he, hb, rfl⟩ := (deps_of ho).1 hd
  exact hall e he hb
theorem Closed.set {L : Array Bool} {j : Nat} (h : Closed ops L) (hj : j ∈ Region.ready .any ops L) : Closed ops (L.setIfInBounds j true) := by
  intro t ht hl d hd
  refine getD_set_true ?_
  by_cases e : t = j
  · subst e; exact ready_deps hj d hd
  · rw [getD_set_ne true (Ne.symm e)] at hl; exact h t ht hl d hd
theorem sink_tail {S U : List Nat} {listed : Array Bool} {j : Nat} (hs : sinkB ops j = true) (hS : ∀ i ∈ S, i < ops.size) : TailAt ops S U listed j := by
  intro i hi hne
  refine ⟨j, .inl rfl, ?_⟩
  unfold sinkB at hs
  have h := List.all_eq_true.1 hs i (by simpa using hS i hi)
  rw [Bool.or_eq_true] at h
  rcases h with h | h
  · exact absurd (by simpa using h) hne
  · cases ho : ops[j]? with
    | none => rw [ho] at h; simp at h
    | some o =>
      rw [ho] at h
      simp only [Option.map_some, Option.getD_some] at h
      obtain ⟨e, he, hb⟩ := Array.any_eq_true'.1 h
      simp only [Bool.and_eq_true, beq_iff_eq] at hb
      exact (deps_of ho).2 ⟨e, he, hb.1, hb.2⟩

/-- Whatever order is picked from here on; between two operations the world may go on by R; behind one that all that has come up is ahead of, it may be taken as it is. -/
def AnyR (P : Program) (ops : Array Oper) (S U : List Nat) (Q : Exit → Act → World → Prop) (R : World → World → Prop) : Nat → Array Bool → Act → World → Prop
  | 0, listed, a, w => Region.ready .any ops listed = [] ∧ Q .normal a w
  | fuel + 1, listed, a, w =>
    (Region.ready .any ops listed = [] → Q .normal a w) ∧
    ∀ i ∈ Region.ready .any ops listed, wpOp P ops Q i (fun a' w' => (R w w' ∧ ∀ x, R w' x → AnyR P ops S U Q R fuel (listed.setIfInBounds i true) a' x) ∨ (TailAt ops S U listed i ∧ wpAny P .any ops Q fuel (listed.setIfInBounds i true) a' w')) a w

/-- The same, from every world that comes of this one. -/
def Rg (P : Program) (ops : Array Oper) (S U : List Nat) (Q : Exit → Act → World → Prop) (R : World → World → Prop) (fuel : Nat) (listed : Array Bool) (a : Act) (w : World) : Prop :=
  ∀ x, R w x → AnyR P ops S U Q R fuel listed a x

/-- No panic. -/
def noPanic (Q : Exit → Act → World → Prop) : Exit → Act → World → Prop
  | .normal, a, w => Q .normal a w
  | .outgrown, a, w => Q .outgrown a w
  | _, _, _ => False

theorem wpOp_noPanic {i : Nat} {K K' : Act → World → Prop} {a : Act} {w : World} (hK : ∀ a w, K a w → K' a w) (h : wpOp P ops (noPanic Q) i K a w) : wpOp P ops Q i K' a w := by
  unfold wpOp at *
  split
  · rename_i ho; simp only [ho] at h; exact hK _ _ h
  · rename_i o ho
    simp only [ho] at h
    split
    · rename_i hw
      simp only [hw, if_true] at h
      refine h.imp ?_ (fun h => ⟨h.1, h.2⟩)
      intro h
      unfold Oper.wp at *
      generalize (execOp a.eval o).run P w = r at *
      cases r with
      | ok n w' =>
        cases n <;> simp only [Oper.upon] at h ⊢ <;>
          first
            | exact hK _ _ h
            | (refine Calls.mono h (fun e w'' he => ?_)
               cases e with
               | returned v => exact hK _ _ he
               | panicked c => exact he.elim
               | outgrown => exact he)
            | exact Rows.mono h (fun _ _ he => hK _ _ he)
      | halt x w' => cases x <;> simp only [Oper.upon] at h ⊢ <;> exact h.elim
    · rename_i hw; simp only [hw] at h; exact hK _ _ h

theorem wpAny_noPanic : ∀ (fuel : Nat) (listed : Array Bool) (a : Act) (w : World), wpAny P .any ops (noPanic Q) fuel listed a w → wpAny P .any ops Q fuel listed a w
  | 0, _, _, _, h => h
  | fuel + 1, _, _, _, h => ⟨h.1, fun i hi => wpOp_noPanic (fun a w hh => wpAny_noPanic fuel _ a w hh) (h.2 i hi)⟩

theorem wpAny_of_anyR (hrefl : ∀ w, R w w) : ∀ (fuel : Nat) (listed : Array Bool) (a : Act) (w : World), AnyR P ops S U (noPanic Q) R fuel listed a w → wpAny P .any ops Q fuel listed a w
  | 0, _, _, _, h => h
  | fuel + 1, listed, _, _, h => ⟨h.1, fun i hi => wpOp_noPanic (fun a w hh => by
    rcases hh with hh | ⟨_, hq⟩
    · exact wpAny_of_anyR hrefl fuel _ a w (hh.2 w (hrefl w))
    · exact wpAny_noPanic fuel _ a w hq) (h.2 i hi)⟩

/-- All have come up. -/
theorem Rg.done {fuel : Nat} {listed : Array Bool} {a : Act} {w : World} (hr : Region.ready .any ops listed = []) (h : ∀ x, R w x → Q .normal a x) : Rg P ops S U Q R fuel listed a w := by
  intro w hw
  cases fuel with
  | zero => exact ⟨hr, h w hw⟩
  | succ fuel => exact ⟨fun _ => h w hw, fun i hi => absurd (hr ▸ hi : i ∈ ([] : List Nat)) List.not_mem_nil⟩

/-- Only one may come up. -/
theorem Rg.only {fuel : Nat} {listed : Array Bool} {a : Act} {w : World} (i : Nat) (hr : Region.ready .any ops listed = [i])
    (h : ∀ x, R w x → wpOp P ops Q i (fun a' x' => R x x' ∧ Rg P ops S U Q R fuel (listed.setIfInBounds i true) a' x') a x) : Rg P ops S U Q R (fuel + 1) listed a w := by
  intro x hx
  refine ⟨fun h0 => absurd (hr ▸ h0 : [i] = []) (by simp), fun j hj => ?_⟩
  have e : j = i := by rw [hr] at hj; simpa using hj
  subst e
  exact wpOp_mono (fun _ _ hh => .inl hh) (h x hx)

/-- Only one may come up, and it is the last. -/
theorem Rg.last {fuel : Nat} {listed : Array Bool} {a : Act} {w : World} (i : Nat) (hr : Region.ready .any ops listed = [i]) (hs : sinkB ops i = true) (hS : ∀ i ∈ S, i < ops.size)
    (h : ∀ x, R w x → wpOp P ops Q i (fun a' x' => Q .normal a' x') a x) : Rg P ops S U Q R (fuel + 1) listed a w := by
  intro x hx
  refine ⟨fun h0 => absurd (hr ▸ h0 : [i] = []) (by simp), fun j hj => ?_⟩
  have e : j = i := by rw [hr] at hj; simpa using hj
  subst e
  refine wpOp_mono (fun a' w' hh => .inr ⟨?_, ?_⟩) (h x hx)
  · exact sink_tail hs hS
  · have hr2 := sinkB_ready hs hj
    cases fuel with
    | zero => exact ⟨hr2, hh⟩
    | succ n => exact ⟨fun _ => hh, fun i hi => absurd (hr2 ▸ hi : i ∈ ([] : List Nat)) List.not_mem_nil⟩

/-- In state 'a', in every world that comes of this one, operation 'o' leaves 'v' in its temporary, and the world goes on by R. -/
def YieldsR (P : Program) (ops : Array Oper) (R : World → World → Prop) (o : Oper) (v : Value) (a : Act) (w : World) : Prop :=
  (Region.wanted o (yielded ops a.tmps) = true ∧ ∀ x, R w x → o.quietAt P a (R x) x v) ∨
  (Region.wanted o (yielded ops a.tmps) = false ∧ v = undef)

theorem YieldsR.of_same {o : Oper} {v : Value} {a a' : Act} {w : World} (hy : YieldsR P ops R o v a w) (he : execOp a'.eval o = execOp a.eval o)
    (hw : Region.wanted o (yielded ops a'.tmps) = Region.wanted o (yielded ops a.tmps)) : YieldsR P ops R o v a' w := by
  unfold YieldsR Oper.quietAt at *
  rw [he, hw]
  exact hy

theorem YieldsR.later {o : Oper} {v : Value} {a : Act} {w x : World} (htrans : ∀ a b c, R a b → R b c → R a c) (hy : YieldsR P ops R o v a w) (h : R w x) : YieldsR P ops R o v a x :=
  hy.imp (fun ⟨h1, h2⟩ => ⟨h1, fun y hy => h2 y (htrans _ _ _ h hy)⟩) id

theorem wpOp_putR {j : Nat} {oi oj : Oper} {v : Value} (hj : ops[j]? = some oj) (hap : oi.apart ops oj = true)
    (hsi : ∀ cs b, oi.op ≠ .select cs b) (hsj : ∀ cs b, oj.op ≠ .select cs b)
    {K : Act → World → Prop} {a : Act} {w w0 : World}
    (hy : YieldsR P ops R oi v a w0) (h : wpOp P ops (noPanic Q) j K (a.put oi.dst v) w) :
    wpOp P ops (noPanic Q) j (fun a' w' => YieldsR P ops R oi v a' w0 ∧ K (a'.put oi.dst v) w') a w := by
  obtain ⟨h1, h2, h3⟩ := Oper.apart_spec hap
  have keep : ∀ (a : Act), YieldsR P ops R oi v a w0 → ∀ u, YieldsR P ops R oi v (a.put oj.dst u) w0 := fun a hy u =>
    hy.of_same (execOp_put oi hsi a oj.dst u h3) (wanted_put oi a oj.dst u h3)
  have keepD : ∀ d, YieldsR P ops R oi v { a with defers := d :: a.defers } w0 := fun d => hy.of_same rfl rfl
  unfold wpOp at *
  simp only [hj] at *
  rw [wanted_put oj a oi.dst v h1] at h
  split
  · rename_i hw
    simp only [hw, if_true] at h
    rcases h with h | ⟨hasks, hlets⟩
    case inr => exact .inr ⟨by unfold Oper.asks at *; rw [execOp_put oj hsj a oi.dst v h1] at hasks; exact hasks, hlets⟩
    refine .inl ?_
    unfold Oper.wp at *
    rw [execOp_put oj hsj a oi.dst v h1] at h
    generalize (execOp a.eval oj).run P w = r at *
    cases r with
    | ok n w' =>
      cases n <;> simp only [Oper.upon] at h ⊢
      case value u => exact ⟨keep a hy u, by rw [← Act.put_comm a v u h2]; exact h⟩
      case skip => exact ⟨keep a hy _, by rw [← Act.put_comm a v undef h2]; exact h⟩
      case defer d =>
        refine ⟨keep _ (keepD d) _, ?_⟩
        rw [Act.put_defers, Act.put_comm _ v undef h2] at h
        exact h
      case enter f args =>
        refine h.mono fun e w'' he => ?_
        cases e with
        | returned u => exact ⟨keep a hy u, by rw [← Act.put_comm a v u h2]; exact he⟩
        | panicked c => exact he.elim
        | outgrown => exact he
      case row r args => exact h.mono fun u w'' he => ⟨keep a hy u, by rw [← Act.put_comm a v u h2]; exact he⟩
    | halt x w' => cases x <;> simp only [Oper.upon] at h ⊢ <;> exact h.elim
  · rename_i hw
    simp only [hw] at h
    exact ⟨keep a hy _, by rw [← Act.put_comm a v undef h2]; exact h⟩

theorem AnyR.fewer {S' U' : List Nat} (hT : ∀ L j, TailAt ops S' U' L j → TailAt ops S U L j) : ∀ (fuel : Nat) (listed : Array Bool) (a : Act) (w : World), AnyR P ops S' U' Q R fuel listed a w → AnyR P ops S U Q R fuel listed a w
  | 0, _, _, _, h => h
  | fuel + 1, _, _, _, h => ⟨h.1, fun i hi => wpOp_mono (fun _ _ hh => hh.imp (fun h => ⟨h.1, fun x hx => AnyR.fewer hT fuel _ _ _ (h.2 x hx)⟩) (fun h => ⟨hT _ _ h.1, h.2⟩)) (h.2 i hi)⟩
theorem tail_less {i : Nat} (L : Array Bool) (j : Nat) (h : TailAt ops (i :: S) U L j) : TailAt ops S U L j := fun k hk hne => h k (List.mem_cons_of_mem _ hk) hne
theorem tail_pure {i : Nat} (L : Array Bool) (j : Nat) (h : TailAt ops S (i :: U) L j) : TailAt ops S U L j := fun k hk hne => by
  obtain ⟨s, hs, hd⟩ := h k hk hne
  exact ⟨s, hs.imp id (fun ⟨h1, h2, h3⟩ => ⟨h1, fun h => h2 (List.mem_cons_of_mem _ h), h3⟩), hd⟩

/-- One that may come up, and gives one value in every world that comes of this one, may be taken first. -/
theorem Rg.first (hrefl : ∀ w, R w w) (htrans : ∀ a b c, R a b → R b c → R a c) {i : Nat} {oi : Oper} {v : Value} (hi : ops[i]? = some oi) (hsel : ∀ (j : Nat) (o : Oper) cs b, ops[j]? = some o → o.op ≠ .select cs b) :
    ∀ (fuel : Nat) (listed : Array Bool) (a : Act) (w : World),
      (∀ j oj, ops[j]? = some oj → j ≠ i → listed.getD j true = false → (∀ e ∈ oj.after, Region.binds .any e = true → e.on ≠ i) → oi.apart ops oj = true) →
      Closed ops listed → i ∈ Region.ready .any ops listed → YieldsR P ops R oi v a w →
      Rg P ops (i :: S) U (noPanic Q) R fuel (listed.setIfInBounds i true) (a.put oi.dst v) w → Rg P ops S U (noPanic Q) R (fuel + 1) listed a w := by
  have now : ∀ (fuel : Nat) (listed : Array Bool) (a : Act) (w x : World), R w x → YieldsR P ops R oi v a w → Rg P ops (i :: S) U (noPanic Q) R fuel (listed.setIfInBounds i true) (a.put oi.dst v) w → (R x x) →
      wpOp P ops (noPanic Q) i (fun a' w' => (R x w' ∧ ∀ y, R w' y → AnyR P ops S U (noPanic Q) R fuel (listed.setIfInBounds i true) a' y) ∨ (TailAt ops S U listed i ∧ wpAny P .any ops (noPanic Q) fuel (listed.setIfInBounds i true) a' w')) a x := by
    intro fuel listed a w x hx hy H0 hxx
    have H : ∀ y, R w y → AnyR P ops S U (noPanic Q) R fuel (listed.setIfInBounds i true) (a.put oi.dst v) y := fun y hy => AnyR.fewer (fun L j h => tail_less L j h) _ _ _ _ (H0 y hy)
    unfold wpOp
    simp only [hi]
    rcases hy with ⟨hwant, hv⟩ | ⟨hwant, rfl⟩
    · simp only [hwant, if_true]
      refine .inl ?_
      have h3 := hv x hx
      unfold Oper.quietAt at h3
      unfold Oper.wp
      generalize (execOp a.eval oi).run P x = r at *
      cases r with
      | ok n w' =>
        cases n <;> simp only [Oper.quietUpon] at h3 <;> simp only [Oper.upon]
        case value u => obtain ⟨e1, e2⟩ := h3; rw [e1, e2]; exact .inl ⟨hxx, fun y hy => H y (htrans _ _ _ hx hy)⟩
        case skip => obtain ⟨e1, e2⟩ := h3; rw [e1, ← e2]; exact .inl ⟨hxx, fun y hy => H y (htrans _ _ _ hx hy)⟩
        case enter f args =>
          obtain ⟨e1, hc⟩ := h3
          rw [e1]
          exact hc.mono fun e w'' ⟨he, hw''⟩ => by subst he; exact .inl ⟨hw'', fun y hy => H y (htrans _ _ _ hx (htrans _ _ _ hw'' hy))⟩
      | halt h w' => simp only [Oper.quietUpon] at h3
    · simp only [hwant]
      exact .inl ⟨hxx, fun y hy => H y (htrans _ _ _ hx hy)⟩
  intro fuel
  induction fuel with
  | zero =>
    intro listed a w _ _ hr hy H x hx
    refine ⟨fun h => absurd (h ▸ hr : i ∈ ([] : List Nat)) List.not_mem_nil, fun j hj => ?_⟩
    by_cases hji : j = i
    · subst hji; exact now 0 listed a w x hx hy H (hrefl x)
    · have := ready_mono hj hji
      rw [(H x hx).1] at this
      cases this
  | succ fuel ih =>
    intro listed a w hfree hcl hr hy H x hx
    refine ⟨fun h => absurd (h ▸ hr : i ∈ ([] : List Nat)) List.not_mem_nil, fun j hj => ?_⟩
    by_cases hji : j = i
    · subst hji; exact now (fuel + 1) listed a w x hx hy H (hrefl x)
    · have h1 := (H x hx).2 j (ready_mono hj hji)
      obtain ⟨hjun, oj, hoj, hall⟩ := mem_ready.1 hj
      have hnot : ∀ e ∈ oj.after, Region.binds .any e = true → e.on ≠ i := fun e he hb heq => by
        have h1 := hall e he hb
        have h0 := (mem_ready.1 hr).1
        rw [heq] at h1
        rcases Nat.lt_or_ge i listed.size with h' | h'
        · simp [h'] at h0 h1; rw [h0] at h1; cases h1
        · simp [Array.getElem?_eq_none h'] at h1
      have h2 := wpOp_putR hoj (hfree j oj hoj hji hjun hnot) (fun cs b => hsel i oi cs b hi) (fun cs b => hsel j oj cs b hoj) hy h1
      have hfree' : ∀ k ok, ops[k]? = some ok → k ≠ i → (listed.setIfInBounds j true).getD k true = false →
          (∀ e ∈ ok.after, Region.binds .any e = true → e.on ≠ i) → oi.apart ops ok = true := fun k ok hk hki hun hno => by
        refine hfree k ok hk hki ?_ hno
        by_cases hjk : j = k
        · subst hjk; exact hjun
        · rw [getD_set_ne true hjk] at hun; exact hun
      refine wpOp_mono (fun a' w' h3 => ?_) h2
      rcases h3 with ⟨hy3, h3 | ⟨hs3, _⟩⟩
      · refine .inl ⟨h3.1, ih (listed.setIfInBounds j true) a' w' hfree' (hcl.set hj) (ready_mono hr (Ne.symm hji)) (hy3.later htrans (htrans _ _ _ hx h3.1)) ?_⟩
        rw [Array.setIfInBounds_comm _ _ hji]
        exact h3.2
      · exfalso
        have h0 := (mem_ready.1 hr).1
        have no : listed.getD i false = true → False := fun h4 => by
          have hil : i < listed.size := by
            rcases Nat.lt_or_ge i listed.size with h' | h'
            · exact h'
            · rw [Array.getD_eq_getD_getElem?, Array.getElem?_eq_none h'] at h0; cases h0
          simp [hil] at h0 h4
          rw [h0] at h4
          cases h4
        obtain ⟨s, hs | ⟨hs1, _, hs2, hs4⟩, hd⟩ := hs3 i List.mem_cons_self (Ne.symm hji)
        · subst hs; exact no (ready_deps hj i hd)
        · rw [getD_set_ne false (Ne.symm hs2)] at hs1
          have hlt : s < listed.size := by
            rcases Nat.lt_or_ge s listed.size with h' | h'
            · exact h'
            · rw [Array.getD_eq_getD_getElem?, Array.getElem?_eq_none h'] at hs1; cases hs1
          exact no (hcl s hs4 (by simp [hlt] at hs1 ⊢; exact hs1) i hd)

/-- One that gives one value wherever it comes up may be taken first, whatever comes behind. -/
theorem Rg.firstP (hrefl : ∀ w, R w w) (htrans : ∀ a b c, R a b → R b c → R a c) {i : Nat} {oi : Oper} {v : Value} (hi : ops[i]? = some oi) (hsel : ∀ (j : Nat) (o : Oper) cs b, ops[j]? = some o → o.op ≠ .select cs b) :
    ∀ (fuel : Nat) (listed : Array Bool) (a : Act) (w : World),
      (∀ j oj, ops[j]? = some oj → j ≠ i → listed.getD j true = false → (∀ e ∈ oj.after, Region.binds .any e = true → e.on ≠ i) → oi.apart ops oj = true) →
      i ∈ Region.ready .any ops listed → Yields P ops oi v a →
      Rg P ops S (i :: U) (noPanic Q) R fuel (listed.setIfInBounds i true) (a.put oi.dst v) w → Rg P ops S U (noPanic Q) R (fuel + 1) listed a w := by
  have now : ∀ (fuel : Nat) (listed : Array Bool) (a : Act) (w x : World), R w x → Yields P ops oi v a → Rg P ops S (i :: U) (noPanic Q) R fuel (listed.setIfInBounds i true) (a.put oi.dst v) w →
      wpOp P ops (noPanic Q) i (fun a' w' => (R x w' ∧ ∀ y, R w' y → AnyR P ops S U (noPanic Q) R fuel (listed.setIfInBounds i true) a' y) ∨ (TailAt ops S U listed i ∧ wpAny P .any ops (noPanic Q) fuel (listed.setIfInBounds i true) a' w')) a x := by
    intro fuel listed a w x hx hy H0
    refine hy.wpOp hi (.inl ⟨hrefl x, fun y hy => ?_⟩)
    exact AnyR.fewer (fun L j h => tail_pure L j h) _ _ _ _ (H0 y (htrans _ _ _ hx hy))
  intro fuel
  induction fuel with
  | zero =>
    intro listed a w _ hr hy H x hx
    refine ⟨fun h => absurd (h ▸ hr : i ∈ ([] : List Nat)) List.not_mem_nil, fun j hj => ?_⟩
    by_cases hji : j = i
    · subst hji; exact now 0 listed a w x hx hy H
    · have := ready_mono hj hji
      rw [(H x hx).1] at this
      cases this
  | succ fuel ih =>
    intro listed a w hfree hr hy H x hx
    refine ⟨fun h => absurd (h ▸ hr : i ∈ ([] : List Nat)) List.not_mem_nil, fun j hj => ?_⟩
    by_cases hji : j = i
    · subst hji; exact now (fuel + 1) listed a w x hx hy H
    · have h1 := (H x hx).2 j (ready_mono hj hji)
      obtain ⟨hjun, oj, hoj, hall⟩ := mem_ready.1 hj
      have hnot : ∀ e ∈ oj.after, Region.binds .any e = true → e.on ≠ i := fun e he hb heq => by
        have h1 := hall e he hb
        have h0 := (mem_ready.1 hr).1
        rw [heq] at h1
        rcases Nat.lt_or_ge i listed.size with h' | h'
        · simp [h'] at h0 h1; rw [h0] at h1; cases h1
        · simp [Array.getElem?_eq_none h'] at h1
      have h2 := wpOp_put hoj (hfree j oj hoj hji hjun hnot) (fun cs b => hsel i oi cs b hi) (fun cs b => hsel j oj cs b hoj) (fun _ _ _ h => h) hy h1
      have hfree' : ∀ k ok, ops[k]? = some ok → k ≠ i → (listed.setIfInBounds j true).getD k true = false →
          (∀ e ∈ ok.after, Region.binds .any e = true → e.on ≠ i) → oi.apart ops ok = true := fun k ok hk hki hun hno => by
        refine hfree k ok hk hki ?_ hno
        by_cases hjk : j = k
        · subst hjk; exact hjun
        · rw [getD_set_ne true hjk] at hun; exact hun
      refine wpOp_mono (fun a' w' h3 => ?_) h2
      rcases h3 with ⟨hy3, h3 | ⟨hs3, hw3⟩⟩
      · refine .inl ⟨h3.1, ih (listed.setIfInBounds j true) a' w' hfree' (ready_mono hr (Ne.symm hji)) hy3 ?_⟩
        rw [Array.setIfInBounds_comm _ _ hji]
        exact h3.2
      · refine .inr ⟨?_, ?_⟩
        · intro k hk hne
          obtain ⟨s, hs, hd⟩ := hs3 k hk hne
          refine ⟨s, hs.imp id (fun ⟨h1, h2, h3⟩ => ⟨?_, fun h => h2 (List.mem_cons_of_mem _ h), h3⟩), hd⟩
          have : s ≠ i := fun e => h2 (e ▸ List.mem_cons_self)
          rw [getD_set_ne false (Ne.symm this)] at h1
          exact h1
        · refine wpAny_first hi hsel (fun _ _ _ h => h) fuel (listed.setIfInBounds j true) a' w' hfree' (ready_mono hr (Ne.symm hji)) hy3 ?_
          rw [Array.setIfInBounds_comm _ _ hji]
          exact hw3

/-- What is left by a jump, weakened. -/
theorem wp_jump_mono {c : Code} {l : Nat} {J J' : Act → World → Prop} {a : Act} {w : World} (hJ : ∀ a w, J' a w → J a w) (h : c.wp P (Exit.jump l J' Q) a w) : c.wp P (Exit.jump l J Q) a w :=
  Code.wp_mono (fun e a w q => by cases e <;> first | exact q | exact ⟨q.1, hJ _ _ q.2⟩) h

/-- A scope with one label, come to once from above, and jumped back to. -/
theorem wp_scope_label {c X : Code} {a : Act} {w : World} (l : Nat) (J : Act → World → Prop) (μ : Act → World → Nat) (hf : findLabel c l = some (Code.skip.seq X))
    (first : (∀ a w, J a w → X.wp P (Exit.jump l J Q) a w) → c.wp P (Exit.jump l J Q) a w)
    (pass : ∀ a w, J a w → X.wp P (Exit.jump l (fun a' w' => J a' w' ∧ μ a' w' < μ a w) Q) a w) : (Code.scope c).wp P Q a w :=
  wp_scope_jumps l J μ hf (first fun a w hj => wp_jump_mono (fun _ _ h => h.1) (pass a w hj)) fun a w hj =>
    wp_seq_k fun _ hK => wp_skip (hK _ _ (pass a w hj))

/-- The same, with a number that every jump lowers; what holds at the jumps behind a name. -/
theorem wp_scope_labelg {c X : Code} {a : Act} {w : World} (l : Nat) (J : Nat → Act → World → Prop) (hf : findLabel c l = some (Code.skip.seq X))
    (first : ∀ K : Act → World → Prop, (∀ k a w, J k a w → X.wp P (Exit.jump l K Q) a w) → c.wp P (Exit.jump l K Q) a w)
    (pass : ∀ k a w, J k a w → ∀ K : Act → World → Prop, (∀ k' a' w', k' < k → J k' a' w' → K a' w') → X.wp P (Exit.jump l K Q) a w) : (Code.scope c).wp P Q a w := by
  have hl : ∀ a w, (∃ k, J k a w) → J (leastOf fun k => J k a w) a w ∧ ∀ m, J m a w → (leastOf fun k => J k a w) ≤ m := fun a w h => leastOf_spec h
  refine wp_scope_label l (fun a w => ∃ k, J k a w) (fun a w => leastOf fun k => J k a w) hf (fun h => first _ fun k a w hj => h a w ⟨k, hj⟩) ?_
  intro a w hj
  obtain ⟨h1, h2⟩ := hl a w hj
  exact pass _ a w h1 _ fun k' a' w' hk hJ => ⟨⟨k', hJ⟩, Nat.lt_of_le_of_lt ((hl a' w' ⟨k', hJ⟩).2 k' hJ) hk⟩

theorem jump_ret {l : Nat} {J : Act → World → Prop} {a : Act} {w : World} (h : Q .ret a w) : Exit.jump l J Q .ret a w := h

/-- At the label, from above. -/
theorem wp_at_label {X : Code} {l : Nat} {a : Act} {w : World} (h : X.wp P Q a w) : ((Code.label l).seq X).wp P Q a w :=
  wp_seq_k fun _ hK => wp_label (hK _ _ h)

/-- In the text's order: k have come up, n are still to come; those of M have come up first. -/
def upTo (M : List Nat) (k n : Nat) : Array Bool := ((List.range (k + n)).map fun t => decide (t < k) || M.contains t).toArray
/-- How many are still to come. -/
def toCome (M : List Nat) : Nat → Nat → Nat
  | _, 0 => 0
  | k, n + 1 => (if M.contains k then 0 else 1) + toCome M (k + 1) n
def Rt (P : Program) (ops : Array Oper) (M S U : List Nat) (Q : Exit → Act → World → Prop) (R : World → World → Prop) (k : Nat) (l : List Oper) (a : Act) (w : World) : Prop :=
  Rg P ops S U Q R (toCome M k l.length) (upTo M k l.length) a w

theorem upTo_get {k n t : Nat} (h : t < k + n) : (upTo M k n)[t]? = some (decide (t < k) || M.contains t) := by
  unfold upTo
  simp [h]
theorem upTo_set (k n : Nat) : (upTo M k (n + 1)).setIfInBounds k true = upTo M (k + 1) n := by
  apply Array.ext_getElem?
  intro t
  by_cases ht : t < k + (n + 1)
  · rw [upTo_get (k := k + 1) (n := n) (by omega), Array.getElem?_setIfInBounds]
    by_cases e : k = t
    · subst e
      have hs : k < (upTo M k (n + 1)).size := by simp [upTo]
      simp [hs]
    · rw [if_neg e, upTo_get ht]
      have : decide (t < k) = decide (t < k + 1) := by
        by_cases h : t < k
        · simp [h]; omega
        · simp [h]; omega
      rw [this]
  · rw [Array.getElem?_eq_none (by simp [upTo]; omega), Array.getElem?_eq_none (by simp [upTo]; omega)]
theorem upTo_skip {k n : Nat} (h : M.contains k = true) : upTo M k (n + 1) = upTo M (k + 1) n := by
  rw [← upTo_set]
  apply Array.ext_getElem?
  intro t
  rw [Array.getElem?_setIfInBounds]
  by_cases e : k = t
  · subst e
    have hs : k < (upTo M k (n + 1)).size := by simp [upTo]
    have h' : k ∈ M := by simpa using h
    rw [upTo_get (by omega)]
    simp [hs, h']
  · rw [if_neg e]

/-- May it be taken first? -/
def closedB (ops : Array Oper) (M : List Nat) (k : Nat) : Bool := (List.range ops.size).all fun t => (!(decide (t < k) || M.contains t)) || (deps ops t).all fun d => decide (d < ops.size) && (decide (d < k) || M.contains d)
def takeB (ops : Array Oper) (M : List Nat) (k n : Nat) : Bool := closedB ops M k && decide (ops.size = k + n) && (M.all fun m => decide (m < ops.size)) && !M.contains k && Region.noSelect ops && ((Region.ready .any ops (upTo M k n)).contains k && Region.free .any ops (upTo M k n) k)
/-- May only it come up? -/
def onlyB (ops : Array Oper) (M : List Nat) (k n : Nat) : Bool := !M.contains k && Region.ready .any ops (upTo M k n) == [k]

theorem upTo_getD {k n t : Nat} (h : t < k + n) (b : Bool) : (upTo M k n).getD t b = (decide (t < k) || M.contains t) := by
  rw [Array.getD_eq_getD_getElem?, upTo_get h]; rfl
theorem closed_upTo {k n : Nat} (h : closedB ops M k = true) (hn : ops.size = k + n) : Closed ops (upTo M k n) := by
  intro t ht hl d hd
  rw [upTo_getD (by omega)] at hl
  have h1 := List.all_eq_true.1 h t (by simpa using ht)
  rw [hl] at h1
  have h2 := List.all_eq_true.1 (by simpa using h1 : (deps ops t).all (fun d => decide (d < ops.size) && (decide (d < k) || M.contains d)) = true) d hd
  simp only [Bool.and_eq_true, decide_eq_true_eq] at h2
  rw [upTo_getD (by omega)]
  exact h2.2
theorem toCome_take {k n : Nat} (h : M.contains k = false) : toCome M k (n + 1) = toCome M (k + 1) n + 1 := by
  rw [toCome, h]; simp; omega
theorem toCome_skip {k n : Nat} (h : M.contains k = true) : toCome M k (n + 1) = toCome M (k + 1) n := by
  rw [toCome, h]; simp

/-- It came first. -/
theorem Rt.skip {k : Nat} {o : Oper} {l : List Oper} {a : Act} {w : World} (hM : M.contains k = true) (h : Rt P ops M S U Q R (k + 1) l a w) : Rt P ops M S U Q R k (o :: l) a w := by
  unfold Rt at *
  rw [List.length_cons, toCome_skip hM, upTo_skip hM]
  exact h

theorem hM_upTo {k n : Nat} (hML : (M.all fun m => decide (m < ops.size)) = true) (hsz : ops.size = k + n) : ∀ m ∈ M, (upTo M k n).getD m false = true := fun m hm => by
  have h1 := List.all_eq_true.1 hML m hm
  simp only [decide_eq_true_eq] at h1
  rw [upTo_getD (by omega)]
  simp [hm]

theorem Rt.take {k : Nat} {o : Oper} {l : List Oper} {a : Act} {w : World} (hrefl : ∀ w, R w w) (htrans : ∀ a b c, R a b → R b c → R a c) (ho : ops[k]? = some o) (hB : takeB ops M k (l.length + 1) = true)
    (h : ∀ K : Act → Prop, (∀ a, Rt P ops M (k :: S) U (noPanic Q) R (k + 1) l a w → K a) → if Region.wanted o (yielded ops a.tmps) then ∃ v, (∀ x, R w x → o.quietAt P a (R x) x v) ∧ K (a.put o.dst v) else K (a.put o.dst undef)) :
    Rt P ops M S U (noPanic Q) R k (o :: l) a w := by
  simp only [takeB, Bool.and_eq_true, decide_eq_true_eq, Bool.not_eq_true'] at hB
  obtain ⟨⟨⟨⟨⟨hcl, hsz⟩, hML⟩, hMk⟩, hs⟩, hr, hf⟩ := hB
  have h' := h _ (fun _ h => h)
  have go : ∀ v, YieldsR P ops R o v a w → Rt P ops M (k :: S) U (noPanic Q) R (k + 1) l (a.put o.dst v) w → Rt P ops M S U (noPanic Q) R k (o :: l) a w := fun v hy hK => by
    unfold Rt at hK ⊢
    rw [List.length_cons, toCome_take hMk]
    exact Rg.first hrefl htrans ho (Region.noSelect_spec hs) _ _ a w (Region.free_spec ho hf) (closed_upTo hcl hsz) (by simpa using hr) hy (by rw [upTo_set]; exact hK)
  by_cases hw : Region.wanted o (yielded ops a.tmps) = true
  · rw [if_pos hw] at h'
    obtain ⟨v, h1, h2⟩ := h'
    exact go v (.inl ⟨hw, h1⟩) h2
  · rw [if_neg hw] at h'
    exact go undef (.inr ⟨by simpa using hw, rfl⟩) h'

theorem Rt.takeU {k : Nat} {o : Oper} {l : List Oper} {a : Act} {w : World} (hrefl : ∀ w, R w w) (htrans : ∀ a b c, R a b → R b c → R a c) (ho : ops[k]? = some o) (hg : o.guard = none) (hB : takeB ops M k (l.length + 1) = true)
    (h : ∀ K : Act → Prop, (∀ a, Rt P ops M (k :: S) U (noPanic Q) R (k + 1) l a w → K a) → ∃ v, (∀ x, R w x → o.quietAt P a (R x) x v) ∧ K (a.put o.dst v)) :
    Rt P ops M S U (noPanic Q) R k (o :: l) a w :=
  Rt.take hrefl htrans ho hB fun K hK => by rw [if_pos (by simp [Region.wanted, hg])]; exact h K hK

/-- One that gives one value wherever it comes up. -/
theorem Rt.takeP {k : Nat} {o : Oper} {l : List Oper} {a : Act} {w : World} (hrefl : ∀ w, R w w) (htrans : ∀ a b c, R a b → R b c → R a c) (ho : ops[k]? = some o) (hg : o.guard = none) (hB : takeB ops M k (l.length + 1) = true)
    (h : ∀ K : Act → Prop, (∀ a, Rt P ops M S (k :: U) (noPanic Q) R (k + 1) l a w → K a) → ∃ v, (∀ x, (execOp a.eval o).run P x = .ok (.value v) x) ∧ K (a.put o.dst v)) :
    Rt P ops M S U (noPanic Q) R k (o :: l) a w := by
  simp only [takeB, Bool.and_eq_true, decide_eq_true_eq, Bool.not_eq_true'] at hB
  obtain ⟨⟨⟨⟨⟨_, hsz⟩, hML⟩, hMk⟩, hs⟩, hr, hf⟩ := hB
  obtain ⟨v, h1, h2⟩ := h _ (fun _ h => h)
  unfold Rt at h2 ⊢
  rw [List.length_cons, toCome_take hMk]
  exact Rg.firstP hrefl htrans ho (Region.noSelect_spec hs) _ _ a w (Region.free_spec ho hf) (by simpa using hr) (.inl ⟨by simp [Region.wanted, hg], h1⟩) (by rw [upTo_set]; exact h2)

/-- One that stands later in the text is taken first. -/
def earlyB (ops : Array Oper) (M : List Nat) (k n m : Nat) : Bool := closedB ops M k && decide (ops.size = k + n) && Region.noSelect ops && (Region.ready .any ops (upTo M k n)).contains m && Region.free .any ops (upTo M k n) m && (upTo M k n).setIfInBounds m true == upTo (m :: M) k n && toCome M k n == toCome (m :: M) k n + 1
theorem Rt.early {k : Nat} (m : Nat) {om : Oper} {l : List Oper} {a : Act} {w : World} (hrefl : ∀ w, R w w) (htrans : ∀ a b c, R a b → R b c → R a c) (ho : ops[m]? = some om) (hB : earlyB ops M k l.length m = true)
    (h : ∀ K : Act → Prop, (∀ a, Rt P ops (m :: M) (m :: S) U (noPanic Q) R k l a w → K a) → if Region.wanted om (yielded ops a.tmps) then ∃ v, (∀ x, R w x → om.quietAt P a (R x) x v) ∧ K (a.put om.dst v) else K (a.put om.dst undef)) :
    Rt P ops M S U (noPanic Q) R k l a w := by
  simp only [earlyB, Bool.and_eq_true, decide_eq_true_eq, beq_iff_eq] at hB
  obtain ⟨⟨⟨⟨⟨⟨hcl, hsz⟩, hs⟩, hr⟩, hf⟩, hu⟩, ht⟩ := hB
  have h' := h _ (fun _ h => h)
  have go : ∀ v, YieldsR P ops R om v a w → Rt P ops (m :: M) (m :: S) U (noPanic Q) R k l (a.put om.dst v) w → Rt P ops M S U (noPanic Q) R k l a w := fun v hy hK => by
    unfold Rt at hK ⊢
    rw [ht]
    exact Rg.first hrefl htrans ho (Region.noSelect_spec hs) _ _ a w (Region.free_spec ho hf) (closed_upTo hcl hsz) (by simpa using hr) hy (by rw [hu]; exact hK)
  by_cases hw : Region.wanted om (yielded ops a.tmps) = true
  · rw [if_pos hw] at h'
    obtain ⟨v, h1, h2⟩ := h'
    exact go v (.inl ⟨hw, h1⟩) h2
  · rw [if_neg hw] at h'
    exact go undef (.inr ⟨by simpa using hw, rfl⟩) h'
/-- Two may come up: this one, or one that stands later. -/
def forkB (ops : Array Oper) (M : List Nat) (k n m : Nat) : Bool := !M.contains k && Region.ready .any ops (upTo M k n) == [k, m] && (upTo M k n).setIfInBounds m true == upTo (m :: M) k n && toCome M k n == toCome (m :: M) k n + 1

/-- What stands behind one operation. -/
def behind (Q : Exit → Act → World → Prop) (K : Act → World → Prop) : Exit → Act → World → Prop
  | .normal, a, w => K a w
  | .outgrown, a, w => Q .outgrown a w
  | _, _, _ => False

theorem wpOp_behind {k : Nat} {o : Oper} {K : Act → World → Prop} {a : Act} {x : World} (ho : ops[k]? = some o) (h' : wpList P ops (behind Q K) [o] a x) : wpOp P ops (noPanic Q) k K a x := by
  unfold wpOp
  simp only [ho]
  unfold wpList at h'
  split
  · rename_i hw
    rw [if_pos hw] at h'
    refine h'.imp ?_ (fun h => ⟨h.1, h.2⟩)
    intro h
    unfold Oper.wp at *
    generalize (execOp a.eval o).run P x = r at *
    cases r with
    | ok n w' =>
      cases n <;> simp only [Oper.upon] at h ⊢ <;>
        first
          | exact h
          | (refine Calls.mono h (fun e w'' he => ?_)
             cases e with
             | returned v => exact he
             | panicked c => exact he.elim
             | outgrown => exact he)
          | exact Rows.mono h (fun _ _ he => he)
    | halt x w' => cases x <;> simp only [Oper.upon] at h ⊢ <;> exact h.elim
  · rename_i hw
    rw [if_neg hw] at h'
    exact h'

theorem Rt.only {k : Nat} {o : Oper} {l : List Oper} {a : Act} {w : World} (ho : ops[k]? = some o) (hB : onlyB ops M k (l.length + 1) = true)
    (h : ∀ x, R w x → ∀ K : Act → World → Prop, (∀ a' x', R x x' → Rt P ops M S U (noPanic Q) R (k + 1) l a' x' → K a' x') → wpList P ops (behind Q K) [o] a x) :
    Rt P ops M S U (noPanic Q) R k (o :: l) a w := by
  simp only [onlyB, Bool.and_eq_true, Bool.not_eq_true', beq_iff_eq] at hB
  unfold Rt
  rw [List.length_cons, toCome_take hB.1]
  exact Rg.only k hB.2 fun x hx => wpOp_behind ho (h x hx _ (fun a' x' h1 h2 => ⟨h1, by rw [upTo_set]; exact h2⟩))

theorem Rt.fork {k : Nat} (m : Nat) {o om : Oper} {l : List Oper} {a : Act} {w : World} (ho : ops[k]? = some o) (hom : ops[m]? = some om) (hB : forkB ops M k (l.length + 1) m = true)
    (h1 : ∀ x, R w x → ∀ K : Act → World → Prop, (∀ a' x', R x x' → Rt P ops M S U (noPanic Q) R (k + 1) l a' x' → K a' x') → wpList P ops (behind Q K) [o] a x)
    (h2 : ∀ x, R w x → ∀ K : Act → World → Prop, (∀ a' x', R x x' → Rt P ops (m :: M) S U (noPanic Q) R k (o :: l) a' x' → K a' x') → wpList P ops (behind Q K) [om] a x) :
    Rt P ops M S U (noPanic Q) R k (o :: l) a w := by
  simp only [forkB, Bool.and_eq_true, Bool.not_eq_true', beq_iff_eq] at hB
  obtain ⟨⟨⟨hk, hr⟩, hu⟩, ht⟩ := hB
  intro x hx
  rw [List.length_cons, ht]
  refine ⟨fun h0 => absurd (hr ▸ h0 : [k, m] = []) (by simp), fun j hj => ?_⟩
  have e : j = k ∨ j = m := by rw [hr] at hj; simpa using hj
  have hc : toCome (m :: M) k (l.length + 1) = toCome M (k + 1) l.length := by
    have := toCome_take (n := l.length) hk
    omega
  by_cases hjk : j = k
  · subst hjk
    refine wpOp_mono (fun _ _ hh => .inl hh) (wpOp_behind ho (h1 x hx _ (fun a' x' h1 h2 => ⟨h1, ?_⟩)))
    rw [upTo_set, hc]; exact h2
  · obtain rfl : j = m := by
      rcases e with e | e
      · exact absurd e hjk
      · exact e
    refine wpOp_mono (fun _ _ hh => .inl hh) (wpOp_behind hom (h2 x hx _ (fun a' x' h1 h2 => ⟨h1, ?_⟩)))
    rw [hu]; exact h2

theorem Rt.last {k : Nat} {o : Oper} {a : Act} {w : World} (ho : ops[k]? = some o) (hB : onlyB ops M k 1 = true) (hS : (sinkB ops k && S.all fun i => decide (i < ops.size)) = true)
    (h : ∀ x, R w x → ∀ K : Act → World → Prop, (∀ a' x', Q .normal a' x' → K a' x') → wpList P ops (behind Q K) [o] a x) :
    Rt P ops M S U (noPanic Q) R k [o] a w := by
  simp only [onlyB, Bool.and_eq_true, Bool.not_eq_true', beq_iff_eq] at hB
  unfold Rt
  rw [List.length_cons, toCome_take hB.1]
  rw [Bool.and_eq_true] at hS
  exact Rg.last k hB.2 hS.1 (fun i hi => by have := List.all_eq_true.1 hS.2 i hi; simpa using this) fun x hx => wpOp_behind ho (h x hx _ (fun a' x' h1 => h1))

/-- What is still to come, in the text's order. -/
def isOf (M : List Nat) : Nat → Nat → List Nat
  | _, 0 => []
  | k, n + 1 => if M.contains k then isOf M (k + 1) n else k :: isOf M (k + 1) n
/-- Does everything up to k lead to k, and is all behind it forced? -/
def tailB (ops : Array Oper) (M S U : List Nat) (k n : Nat) : Bool :=
  decide (ops.size = k + n) && (S.all fun i => i == k || (List.range ops.size).any fun s => (s == k || (decide (s < k) || M.contains s) && !U.contains s && s != i) && (deps ops s).contains i) && ((List.range n).all fun j => M.contains (k + j) || onlyB ops M (k + j) (n - j)) && (Region.ready .any ops (upTo M (k + n) 0) == []) && !M.contains k && decide (0 < n)

theorem wpOp_of_wpList {i : Nat} {o : Oper} {l : List Oper} {a : Act} {x : World} (ho : ops[i]? = some o) (h : wpList P ops Q (o :: l) a x) : wpOp P ops Q i (fun a' x' => wpList P ops Q l a' x') a x := by
  unfold wpOp
  simp only [ho]
  unfold wpList at h
  exact h

theorem wpAny_of_wpList : ∀ (n k : Nat) (a : Act) (x : World), ops.size = k + n → ((List.range n).all fun j => M.contains (k + j) || onlyB ops M (k + j) (n - j)) = true → Region.ready .any ops (upTo M (k + n) 0) = [] → wpList P ops Q ((isOf M k n).filterMap fun i => ops[i]?) a x → wpAny P .any ops Q (toCome M k n) (upTo M k n) a x
  | 0, k, a, x, _, _, h0, h => ⟨by simpa using h0, h⟩
  | n + 1, k, a, x, hs, hB, h0, h => by
    have hB1 : ((List.range n).all fun j => M.contains (k + 1 + j) || onlyB ops M (k + 1 + j) (n - j)) = true := by
      refine List.all_eq_true.2 fun j hj => ?_
      have hj' : j < n := by simpa using hj
      have := List.all_eq_true.1 hB (j + 1) (by simp; omega)
      rw [show k + 1 + j = k + (j + 1) by omega, show n - j = n + 1 - (j + 1) by omega]
      exact this
    have h01 : Region.ready .any ops (upTo M (k + 1 + n) 0) = [] := by rw [show k + 1 + n = k + (n + 1) by omega]; exact h0
    by_cases hM : M.contains k = true
    · rw [toCome_skip hM, upTo_skip hM]
      refine wpAny_of_wpList n (k + 1) a x (by omega) hB1 h01 ?_
      rw [isOf, if_pos hM] at h
      exact h
    · have hM' : M.contains k = false := by simpa using hM
      have hb := List.all_eq_true.1 hB 0 (by simp)
      simp only [Nat.add_zero, Nat.sub_zero, hM', Bool.false_or, onlyB, Bool.and_eq_true, beq_iff_eq] at hb
      have hr := hb.2
      rw [isOf, if_neg hM, List.filterMap_cons] at h
      have hk : k < ops.size := by omega
      rw [Array.getElem?_eq_getElem hk] at h
      rw [toCome_take hM']
      refine ⟨fun h1 => absurd (hr ▸ h1 : [k] = []) (by simp), fun i hi => ?_⟩
      have e : i = k := by rw [hr] at hi; simpa using hi
      subst e
      refine wpOp_mono (fun a' x' hh => ?_) (wpOp_of_wpList (Array.getElem?_eq_getElem hk) h)
      rw [upTo_set]
      exact wpAny_of_wpList n (i + 1) a' x' (by omega) hB1 h01 hh

/-- From here on all is forced: it is walked as it stands. -/
theorem Rt.tail {k : Nat} {o : Oper} {l l' : List Oper} {a : Act} {w : World} (hd : ((isOf M k (l.length + 1)).filterMap fun i => ops[i]?) = l') (hB : tailB ops M S U k (l.length + 1) = true)
    (h : ∀ x, R w x → ∀ K : Act → World → Prop, (∀ a' x', Q .normal a' x' → K a' x') → wpList P ops (behind Q K) l' a x) : Rt P ops M S U (noPanic Q) R k (o :: l) a w := by
  simp only [tailB, Bool.and_eq_true, decide_eq_true_eq, beq_iff_eq, Bool.not_eq_true'] at hB
  obtain ⟨⟨⟨⟨⟨hsz, hT⟩, hC⟩, h0⟩, hMk⟩, _⟩ := hB
  have hbeh : behind Q (fun a w => Q .normal a w) = noPanic Q := by
    funext e a w
    cases e <;> rfl
  have hb := List.all_eq_true.1 hC 0 (by simp)
  simp only [Nat.add_zero, Nat.sub_zero, hMk, Bool.false_or, onlyB, Bool.and_eq_true, beq_iff_eq] at hb
  have hr := hb.2
  intro x hx
  rw [List.length_cons, toCome_take hMk]
  refine ⟨fun h1 => absurd (hr ▸ h1 : [k] = []) (by simp), fun i hi => ?_⟩
  have e : i = k := by rw [hr] at hi; simpa using hi
  subst e
  have h' := h x hx (fun a w => Q .normal a w) (fun _ _ hq => hq)
  rw [hbeh, ← hd, isOf, if_neg (by simp only [hMk]; simp), List.filterMap_cons] at h'
  have hk : i < ops.size := by omega
  rw [Array.getElem?_eq_getElem hk] at h'
  refine wpOp_mono (fun a' x' hh => .inr ⟨?_, ?_⟩) (wpOp_of_wpList (Array.getElem?_eq_getElem hk) h')
  · intro t ht hne
    have h1 := List.all_eq_true.1 hT t ht
    rw [Bool.or_eq_true] at h1
    rcases h1 with h1 | h1
    · exact absurd (by simpa using h1) hne
    · obtain ⟨s, hs, hd⟩ := List.any_eq_true.1 h1
      have hsl : s < ops.size := by simpa using hs
      simp only [Bool.and_eq_true, Bool.or_eq_true, beq_iff_eq, Bool.not_eq_true', bne_iff_ne, ne_eq] at hd
      refine ⟨s, ?_, by simpa using hd.2⟩
      rcases hd.1 with e | ⟨⟨h2, h3⟩, h4⟩
      · exact .inl e
      · refine .inr ⟨?_, by simpa using h3, h4, hsl⟩
        rw [upTo_getD (by omega)]
        simpa using h2
  · rw [upTo_set]
    refine wpAny_of_wpList l.length (i + 1) a' x' (by omega) ?_ (by rw [show i + 1 + l.length = i + (l.length + 1) by omega]; exact h0) hh
    refine List.all_eq_true.2 fun j hj => ?_
    have hj' : j < l.length := by simpa using hj
    have := List.all_eq_true.1 hC (j + 1) (by simp; omega)
    rw [show i + 1 + j = i + (j + 1) by omega, show l.length - j = l.length + 1 - (j + 1) by omega]
    exact this

/-- The same, nothing having come first. -/
theorem Rt.tail0 {k : Nat} {o : Oper} {l : List Oper} {a : Act} {w : World} (hd : ((isOf M k (l.length + 1)).filterMap fun i => ops[i]?) = o :: l) (hB : tailB ops M S U k (l.length + 1) = true)
    (h : ∀ x, R w x → ∀ K : Act → World → Prop, (∀ a' x', Q .normal a' x' → K a' x') → wpList P ops (behind Q K) (o :: l) a x) : Rt P ops M S U (noPanic Q) R k (o :: l) a w := Rt.tail hd hB h
/-- The same, the second one of those left having come first. -/
theorem Rt.tail1 {k : Nat} {o o1 : Oper} {l : List Oper} {a : Act} {w : World} (hd : ((isOf M k (l.length + 2)).filterMap fun i => ops[i]?) = o :: l) (hB : tailB ops M S U k (l.length + 2) = true)
    (h : ∀ x, R w x → ∀ K : Act → World → Prop, (∀ a' x', Q .normal a' x' → K a' x') → wpList P ops (behind Q K) (o :: l) a x) : Rt P ops M S U (noPanic Q) R k (o :: o1 :: l) a w := Rt.tail hd hB h

/-- The same, the third one of those left having come first. -/
theorem Rt.tail2 {k : Nat} {o o1 o2 : Oper} {l : List Oper} {a : Act} {w : World} (hd : ((isOf M k (l.length + 3)).filterMap fun i => ops[i]?) = o :: o1 :: l) (hB : tailB ops M S U k (l.length + 3) = true)
    (h : ∀ x, R w x → ∀ K : Act → World → Prop, (∀ a' x', Q .normal a' x' → K a' x') → wpList P ops (behind Q K) (o :: o1 :: l) a x) : Rt P ops M S U (noPanic Q) R k (o :: o1 :: o2 :: l) a w := Rt.tail hd hB h

theorem Rt.done {k : Nat} {a : Act} {w : World} (hr : Region.ready .any ops (upTo M k 0) = []) (h : ∀ x, R w x → Q .normal a x) : Rt P ops M S U (noPanic Q) R k [] a w :=
  Rg.done hr h

theorem toCome_nil : ∀ n k, toCome [] k n = n
  | 0, _ => rfl
  | n + 1, k => by rw [toCome, toCome_nil n (k + 1)]; simp; omega
theorem upTo_nil (n : Nat) : upTo [] 0 n = Array.replicate n false := by
  apply Array.ext_getElem?
  intro t
  by_cases ht : t < n
  · rw [upTo_get (by omega), Array.getElem?_replicate, if_pos ht]; simp
  · rw [Array.getElem?_eq_none (by simp [upTo]; omega), Array.getElem?_eq_none (by simp; omega)]

/-- A region that draws its order. -/
theorem wp_region_Rt {id : Nat} {a : Act} {w : World} {l : List Oper} (R : World → World → Prop) (hrefl : ∀ w, R w w) (hm : P.follows .mixedOrders = true)
    (h : Rt P l.toArray [] [] [] (noPanic Q) R 0 l a w.drew) : (Code.region id l.toArray true).wp P Q a w := by
  have h' := h _ (hrefl _)
  rw [toCome_nil, upTo_nil] at h'
  exact wp_region_any hm (by simpa using wpAny_of_anyR hrefl _ _ _ _ h')

end
end Go.Proofs.Ytlihjhalbemfmaa
