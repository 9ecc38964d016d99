/- Maps whose entries are a known list: looked up, written, deleted from, ranged over. -/
import Derived.Test.YtlihjhalbemfmaaKit
import Derived.Maps.RangeRun
import Derived.Maps.RangeWalk
namespace Go.Proofs.Ytlihjhalbemfmaa
open Go.RowKit Go.MapKept Go.ChangeMaps

/-- A kind of keys. -/
structure KeyKind (α : Type) where
  key : α → Value
  d : TypeDesc
  isKey : ∀ a, IsKey d (key a)
  inj : ∀ a b, key a = key b → a = b

def strKey : KeyKind ByteArray := ⟨.string, .string, fun _ => trivial, fun a b h => by injection h⟩

section
variable {α : Type} {P : Program} {w : World} {b : Nat} {l : List (α × Value)}

/-- Block b is a map with these entries. -/
def MapAt (K : KeyKind α) (w : World) (b : Nat) (l : List (α × Value)) : Prop :=
  ∃ es clock, w.heap[b]? = some (.map es clock) ∧ Stamped es clock ∧ es.toList.map (fun e => (e.key, e.val)) = l.map (fun p => (K.key p.1, p.2))

theorem MapAt.lt {K : KeyKind α} (h : MapAt K w b l) : b < w.heap.size := by
  obtain ⟨es, clock, hb, _⟩ := h
  exact (Array.getElem?_eq_some_iff.1 hb).1
theorem MapAt.of_block {K : KeyKind α} {w' : World} (h : MapAt K w b l) (hb' : w'.heap[b]? = w.heap[b]?) : MapAt K w' b l := by
  obtain ⟨es, clock, hb, r⟩ := h
  exact ⟨es, clock, hb'.trans hb, r⟩
theorem MapAt.ext {K : KeyKind α} {w' : World} (h : MapAt K w b l) (hx : Ext w w') : MapAt K w' b l := h.of_block (Below.block hx b h.lt)
theorem MapAt.but {K : KeyKind α} {w' : World} {S : Nat → Prop} (h : MapAt K w b l) (hx : But S w w') (hs : ¬ S b) : MapAt K w' b l := h.of_block (hx.block b h.lt hs)
theorem MapAt.made {K : KeyKind α} (w : World) : MapAt K (w.alloc (.map #[] 0)) w.heap.size [] := ⟨#[], 0, (heap_alloc w _).1, stamped_empty 0, rfl⟩

/-- A map under way: what is left to come. -/
def RangeAt (K : KeyKind α) (w : World) (b r : Nat) (l left : List (α × Value)) : Prop :=
  ∃ es clock since seen c0, w.heap[b]? = some (.map es clock) ∧ Stamped es clock ∧ es.toList.map (fun e => (e.key, e.val)) = l.map (fun p => (K.key p.1, p.2)) ∧
    w.heap[r]? = some (.mapIter (some b) since seen c0) ∧ (∀ x ∈ es.toList, x.born < since) ∧ since ≤ c0 ∧ since ≤ clock ∧
    (leftOf es seen).toList.map (fun e => (e.key, e.val)) = left.map (fun p => (K.key p.1, p.2))

theorem RangeAt.map {K : KeyKind α} {r : Nat} {left : List (α × Value)} (h : RangeAt K w b r l left) : MapAt K w b l := by
  obtain ⟨es, clock, _, _, _, hb, hs, he, _⟩ := h
  exact ⟨es, clock, hb, hs, he⟩
theorem RangeAt.lt {K : KeyKind α} {r : Nat} {left : List (α × Value)} (h : RangeAt K w b r l left) : r < w.heap.size := by
  obtain ⟨es, clock, since, seen, c0, _, _, _, hr, _⟩ := h
  exact (Array.getElem?_eq_some_iff.1 hr).1
theorem RangeAt.ne {K : KeyKind α} {r : Nat} {left : List (α × Value)} (h : RangeAt K w b r l left) : r ≠ b := by
  obtain ⟨es, clock, since, seen, c0, hb, _, _, hr, _⟩ := h
  intro e
  rw [e, hb] at hr
  cases hr
theorem RangeAt.of_blocks {K : KeyKind α} {w' : World} {r : Nat} {left : List (α × Value)} (h : RangeAt K w b r l left) (hb' : w'.heap[b]? = w.heap[b]?) (hr' : w'.heap[r]? = w.heap[r]?) : RangeAt K w' b r l left := by
  obtain ⟨es, clock, since, seen, c0, hb, hs, he, hr, rest⟩ := h
  exact ⟨es, clock, since, seen, c0, hb'.trans hb, hs, he, hr'.trans hr, rest⟩
theorem RangeAt.ext {K : KeyKind α} {w' : World} {r : Nat} {left : List (α × Value)} (h : RangeAt K w b r l left) (hx : Ext w w') : RangeAt K w' b r l left :=
  h.of_blocks (Below.block hx b h.map.lt) (Below.block hx r h.lt)

/-- 'range m'. -/
theorem MapAt.range {K : KeyKind α} {t kt e : TypeId} (h : MapAt K w b l) (ht : P.underlying t = some (.map kt e)) :
    ∃ w', (Instr.range t (.map (some b))).run P w = .ok (.pointer (some ⟨w.heap.size, 0, none⟩)) w' ∧ RangeAt K w' b w.heap.size l l ∧ Ext w w' ∧ w'.heap.size = w.heap.size + 1 := by
  have hlt := h.lt
  obtain ⟨es, clock, hb, hs, he⟩ := h
  refine ⟨_, run_range_map w t kt e b es clock ht hb, ⟨es, clock, clock, #[], clock, ((heap_alloc w _).2 b hlt).trans hb, hs, he, (heap_alloc w _).1, hs.1, Nat.le_refl _, Nat.le_refl _, ?_⟩, Ext.alloc (Ext.refl _) _, by simp⟩
  rw [show leftOf es #[] = es by simp [leftOf]]
  exact he

section
variable {ops : Array Oper} {rest : List Oper} {o : Oper} {a : Act} {Q : Exit → Act → World → Prop}
/-- At the operation. -/
theorem wpList_range_at {K : KeyKind α} (hg : o.guard = none) (m : Operand) (t kt e : TypeId) (hop : o.op = Op.range t m) (ht : P.underlying t = some (.map kt e)) (hm : a.eval m = .map (some b)) (h : MapAt K w b l)
    (hK : ∀ w', RangeAt K w' b w.heap.size l l → Ext w w' → w'.heap.size = w.heap.size + 1 → wpList P ops Q rest (a.put o.dst (.pointer (some ⟨w.heap.size, 0, none⟩))) w') :
    wpList P ops Q (o :: rest) a w := by
  refine wpList_plain hg fun K' hK' => ?_
  obtain ⟨w', hrun, r1, r2, r3⟩ := h.range (P := P) ht
  unfold Oper.wp
  simp [execOp, hop, hm, hrun, Result.andThen]
  exact hK' _ _ (hK w' r1 r2 r3)

end
theorem map_nodup {β γ : Type} {f : β → γ} (hf : ∀ a b, f a = f b → a = b) : ∀ {l : List β}, (l.map f).Nodup → l.Nodup
  | [], _ => by simp
  | a :: l, h => by
    rw [List.map_cons, List.nodup_cons] at h
    rw [List.nodup_cons]
    exact ⟨fun ha => h.1 (List.mem_map.2 ⟨a, ha, rfl⟩), map_nodup hf h.2⟩

theorem keys_eq {K : KeyKind α} {es : List MapEntry} (h : es.map (fun e => (e.key, e.val)) = l.map (fun p => (K.key p.1, p.2))) : es.map (·.key) = (l.map (·.1)).map K.key := by
  have := congrArg (List.map Prod.fst) h
  simpa [List.map_map, Function.comp_def] using this

theorem MapAt.nodup {K : KeyKind α} (h : MapAt K w b l) : (l.map (·.1)).Nodup := by
  obtain ⟨es, clock, hb, hs, he⟩ := h
  exact map_nodup K.inj (keys_eq he ▸ hs.2.2 : ((l.map (·.1)).map K.key).Nodup)

theorem entry_at {K : KeyKind α} {es : List MapEntry} (h : es.map (fun e => (e.key, e.val)) = l.map (fun p => (K.key p.1, p.2))) (j : Nat) (e : MapEntry) (hj : es[j]? = some e) : ∃ k, l[j]? = some (k, e.val) ∧ e.key = K.key k := by
  have h1 := congrArg (fun x => x[j]?) h
  simp only [List.getElem?_map, hj, Option.map_some] at h1
  cases hl : l[j]? with
  | none => rw [hl] at h1; simp at h1
  | some p =>
    rw [hl] at h1
    simp at h1
    exact ⟨p.1, by rw [h1.2], h1.1⟩

variable [DecidableEq α]
def lookAt (l : List (α × Value)) (k : α) : Option Value := (l.find? (fun p => decide (p.1 = k))).map (·.2)
def putAt (l : List (α × Value)) (k : α) (v : Value) : List (α × Value) :=
  if (lookAt l k).isSome then l.map (fun p => if p.1 = k then (k, v) else p) else l ++ [(k, v)]
def delAt (l : List (α × Value)) (k : α) : List (α × Value) := l.filter (fun p => decide (p.1 ≠ k))

theorem look_none {k : α} (h : ∀ p ∈ l, p.1 ≠ k) : lookAt l k = none := by
  unfold lookAt
  rw [List.find?_eq_none.2 (by simpa using h)]; rfl
theorem look_some {k : α} {v : Value} (hn : (l.map (·.1)).Nodup) (h : (k, v) ∈ l) : lookAt l k = some v := by
  induction l with
  | nil => simp at h
  | cons p l ih =>
    unfold lookAt
    rw [List.find?_cons]
    rw [List.map_cons, List.nodup_cons] at hn
    by_cases hp : p.1 = k
    · rcases List.mem_cons.1 h with e | e
      · subst e; simp
      · exact absurd (List.mem_map.2 ⟨(k, v), e, rfl⟩) (by subst hp; exact hn.1)
    · simp only [hp, decide_false]
      rcases List.mem_cons.1 h with e | e
      · subst e; simp at hp
      · exact ih hn.2 e

theorem MapAt.find {K : KeyKind α} {es : Array MapEntry} {clock : Nat} (hs : Stamped es clock) (he : es.toList.map (fun e => (e.key, e.val)) = l.map (fun p => (K.key p.1, p.2))) (k : α) :
    (Instr.findNow K.d (K.key k) es.toList 0 = some none ∧ lookAt l k = none ∧ ∀ x ∈ es.toList, x.key ≠ K.key k) ∨
    ∃ j e, Instr.findNow K.d (K.key k) es.toList 0 = some (some (j, e.val)) ∧ es.toList[j]? = some e ∧ e.key = K.key k ∧ lookAt l k = some e.val ∧ l[j]? = some (k, e.val) := by
  have hk : ∀ x ∈ es.toList, IsKey K.d x.key := by
    intro x hx
    obtain ⟨j, hj⟩ := List.getElem?_of_mem hx
    obtain ⟨k', _, e⟩ := entry_at he j x hj
    rw [e]; exact K.isKey k'
  have hn : (l.map (·.1)).Nodup := map_nodup K.inj (keys_eq he ▸ hs.2.2 : ((l.map (·.1)).map K.key).Nodup)
  rcases findNow_spec (K.isKey k) es.toList 0 hk with ⟨h1, h2⟩ | ⟨j, e, h1, h2, h3⟩
  · refine .inl ⟨h1, look_none fun p hp e => ?_, h2⟩
    have : K.key p.1 ∈ es.toList.map (·.key) := by rw [keys_eq he]; exact List.mem_map.2 ⟨p.1, List.mem_map.2 ⟨p, hp, rfl⟩, rfl⟩
    obtain ⟨x, hx, hxe⟩ := List.mem_map.1 this
    exact h2 x hx (by rw [hxe, e])
  · obtain ⟨k', hk', e'⟩ := entry_at he j e h2
    have : k' = k := K.inj _ _ (e'.symm.trans h3)
    subst this
    exact .inr ⟨j, e, by simpa using h1, h2, h3, look_some hn (List.mem_of_getElem? hk'), hk'⟩

/-- 'v, ok := m[k]'. -/
theorem MapAt.lookup_ok {K : KeyKind α} {t kt e : TypeId} (h : MapAt K w b l) (ht : P.underlying t = some (.map kt e)) (hk : P.underlying kt = some K.d) {z : Value} (hz : (zeroValue e).run P w = .ok z w) (k : α) :
    (Instr.lookup t (.map (some b)) (K.key k) true).run P w = .ok (.tuple #[(lookAt l k).getD z, .bool (lookAt l k).isSome]) w := by
  obtain ⟨es, clock, hb, hs, he⟩ := h
  rcases MapAt.find hs he k with ⟨h1, h2, _⟩ | ⟨j, e0, h1, _, _, h2, _⟩
  · simp [Instr.lookup, run_underlying ht, MapKept.run_getObj_map hb, run_checkKey hk (K.isKey k), run_findKey hk h1, Result.andThen, hz, h2]
  · simp [Instr.lookup, run_underlying ht, MapKept.run_getObj_map hb, run_checkKey hk (K.isKey k), run_findKey hk h1, Result.andThen, h2]
/-- 'm[k]'. -/
theorem MapAt.lookup {K : KeyKind α} {t kt e : TypeId} (h : MapAt K w b l) (ht : P.underlying t = some (.map kt e)) (hk : P.underlying kt = some K.d) {z : Value} (hz : (zeroValue e).run P w = .ok z w) (k : α) :
    (Instr.lookup t (.map (some b)) (K.key k) false).run P w = .ok ((lookAt l k).getD z) w := by
  obtain ⟨es, clock, hb, hs, he⟩ := h
  rcases MapAt.find hs he k with ⟨h1, h2, _⟩ | ⟨j, e0, h1, _, _, h2, _⟩
  · simp [Instr.lookup, run_underlying ht, MapKept.run_getObj_map hb, run_checkKey hk (K.isKey k), run_findKey hk h1, Result.andThen, hz, h2]
  · simp [Instr.lookup, run_underlying ht, MapKept.run_getObj_map hb, run_checkKey hk (K.isKey k), run_findKey hk h1, Result.andThen, h2]

theorem But.setMap {es : Array MapEntry} {clock : Nat} (hb : w.heap[b]? = some (.map es clock)) (o : Obj) : But (· = b) w { w with heap := w.heap.setIfInBounds b o } :=
  ⟨rfl, rfl, rfl, by simp, fun k _ hk => (heap_set hb).2 k hk, fun k c t f hk hc => by rw [hk, hb] at hc; cases hc⟩

/-- 'm[k] = v'. -/
theorem MapAt.update {K : KeyKind α} {t kt e : TypeId} (h : MapAt K w b l) (ht : P.underlying t = some (.map kt e)) (hk : P.underlying kt = some K.d) (k : α) (v : Value) :
    ∃ w', (Instr.mapUpdate t (.map (some b)) (K.key k) v).run P w = .ok () w' ∧ MapAt K w' b (putAt l k v) ∧ But (· = b) w w' ∧ w'.heap.size = w.heap.size := by
  have hnd := h.nodup
  obtain ⟨es, clock, hb, hs, he⟩ := h
  rcases MapAt.find hs he k with ⟨h1, h2, h3⟩ | ⟨j, e0, h1, h2, h3, h4, h5⟩
  · refine ⟨_, by simp [Instr.mapUpdate, run_underlying ht, MapKept.run_getObj_map hb, run_checkKey hk (K.isKey k), run_findKey hk h1, MapKept.run_setObj_map _ hb, Result.andThen]; rfl, ⟨_, _, (heap_set hb).1, stamped_push hs h3, ?_⟩, But.setMap hb _, by simp⟩
    simp [putAt, h2, he]
  · have hj : es[j]? = some e0 := by simpa using h2
    refine ⟨_, by simp [Instr.mapUpdate, run_underlying ht, MapKept.run_getObj_map hb, run_checkKey hk (K.isKey k), run_findKey hk h1, hj, h3, run_keyThatStays (K.isKey k), MapKept.run_setObj_map _ hb, Result.andThen]; rfl, ⟨_, _, (heap_set hb).1, ?_, ?_⟩, But.setMap hb _, by simp⟩
    · exact stamped_modify hs _ _ (fun _ _ => rfl) (fun e' _ he' => by rw [hj] at he'; cases he'; exact h3.symm)
    · simp only [putAt, h4, Option.isSome_some, if_true]
      apply List.ext_getElem?
      intro i
      have hi := congrArg (fun x => x[i]?) he
      simp only [List.getElem?_map, Array.getElem?_toList, Array.getElem?_modify] at hi ⊢
      by_cases e : j = i
      · subst e
        rw [hj, h5]
        simp
      · rw [if_neg e, hi]
        cases hl : l[i]? with
        | none => rfl
        | some p =>
          have : p.1 ≠ k := by
            intro hp
            have h6 : (l.map (·.1))[i]? = some k := by simp [hl, hp]
            have h7 : (l.map (·.1))[j]? = some k := by simp [h5]
            have hjl : j < (l.map (·.1)).length := (List.getElem?_eq_some_iff.1 h7).1
            exact e ((List.getElem?_inj hjl hnd).1 (h7.trans h6.symm))
          simp [this]

/-- 'delete(m, k)'. -/
theorem MapAt.delete {K : KeyKind α} {t kt e ty : TypeId} (h : MapAt K w b l) (ht : P.underlying t = some (.map kt e)) (hk : P.underlying kt = some K.d) (k : α) :
    ∃ w', (Builtin.delete_ #[t, kt] ty #[.map (some b), K.key k]).run P w = .ok (.tuple #[]) w' ∧ MapAt K w' b (delAt l k) ∧ But (· = b) w w' ∧ w'.heap.size = w.heap.size := by
  have hnd := h.nodup
  obtain ⟨es, clock, hb, hs, he⟩ := h
  rcases MapAt.find hs he k with ⟨h1, h2, h3⟩ | ⟨j, e0, h1, h2, h3, h4, h5⟩
  · refine ⟨_, by simp [Builtin.delete_, run_underlying ht, MapKept.run_getObj_map hb, run_checkKey hk (K.isKey k), run_findKey hk h1, MapKept.run_setObj_map _ hb, Result.andThen], ⟨_, _, (heap_set hb).1, hs, ?_⟩, But.setMap hb _, by simp⟩
    rw [he]
    unfold delAt
    rw [List.filter_eq_self.2]
    intro p hp
    have : p.1 ≠ k := fun e => by
      have : K.key p.1 ∈ es.toList.map (·.key) := by rw [keys_eq he]; exact List.mem_map.2 ⟨p.1, List.mem_map.2 ⟨p, hp, rfl⟩, rfl⟩
      obtain ⟨x, hx, hxe⟩ := List.mem_map.1 this
      exact h3 x hx (by rw [hxe, e])
    simpa using this
  · refine ⟨_, by simp [Builtin.delete_, run_underlying ht, MapKept.run_getObj_map hb, run_checkKey hk (K.isKey k), run_findKey hk h1, MapKept.run_setObj_map _ hb, Result.andThen], ⟨_, _, (heap_set hb).1, stamped_erase hs j, ?_⟩, But.setMap hb _, by simp⟩
    have hjl : j < es.toList.length := (List.getElem?_eq_some_iff.1 h2).1
    have hjs : j < es.size := by simpa using hjl
    have hsub : (es.eraseIdxIfInBounds j).toList = es.toList.eraseIdx j := by
      unfold Array.eraseIdxIfInBounds
      rw [dif_pos hjs]
      simp
    rw [hsub]
    have : delAt l k = l.eraseIdx j := by
      clear he hsub hjs hjl h1 h2 h3 h4 hs hb
      unfold delAt
      induction l generalizing j with
      | nil => simp
      | cons p l ih =>
        rw [List.map_cons, List.nodup_cons] at hnd
        cases j with
        | zero =>
          simp at h5
          subst h5
          simp only [List.eraseIdx_cons_zero]
          rw [List.filter_cons, if_neg (by simp), List.filter_eq_self.2]
          intro q hq
          have : q.1 ≠ k := fun e => hnd.1 (List.mem_map.2 ⟨q, hq, e⟩)
          simpa using this
        | succ j =>
          simp at h5
          have : p.1 ≠ k := fun e => hnd.1 (List.mem_map.2 ⟨_, List.mem_of_getElem? h5, e.symm⟩)
          rw [List.eraseIdx_cons_succ, List.filter_cons, if_pos (by simpa using this), ih hnd.2 j h5]
    rw [this, map_eraseIdx, he, map_eraseIdx]

theorem left_push (es : Array MapEntry) (seen : Array Nat) (n : Nat) : (leftOf es (seen.push n)).toList = (leftOf es seen).toList.filter (fun x => x.born != n) := by
  unfold leftOf
  rw [Array.toList_filter, Array.toList_filter, List.filter_filter]
  congr 1
  funext x
  rw [contains_push]
  cases seen.contains x.born <;> cases h : (x.born == n) <;> simp [bne, h]

theorem filter_zip {β γ δ : Type} {f : β → δ} {g : γ → δ} {p : β → Bool} {q : γ → Bool} : ∀ {a : List β} {c : List γ}, a.map f = c.map g → (∀ x ∈ a, ∀ y ∈ c, f x = g y → p x = q y) → (a.filter p).map f = (c.filter q).map g
  | [], [], _, _ => rfl
  | [], _ :: _, h, _ => by simp at h
  | _ :: _, [], h, _ => by simp at h
  | x :: a, y :: c, h, hpq => by
    simp only [List.map_cons, List.cons.injEq] at h
    have ih := filter_zip (p := p) (q := q) h.2 (fun x hx y hy => hpq x (List.mem_cons_of_mem _ hx) y (List.mem_cons_of_mem _ hy))
    have e := hpq x List.mem_cons_self y List.mem_cons_self h.1
    rw [List.filter_cons, List.filter_cons, e]
    cases q y <;> simp [ih, h.1]

/-- The step. -/
theorem RangeAt.next {K : KeyKind α} {r : Nat} {left : List (α × Value)} (h : RangeAt K w b r l left) (ty : TypeId) :
    (left = [] ∧ (Instr.next (.pointer (some ⟨r, 0, none⟩)) false ty).run P w = .ok (.tuple #[.bool false]) w) ∨
    ∃ k v w', (k, v) ∈ left ∧ (Instr.next (.pointer (some ⟨r, 0, none⟩)) false ty).run P w = .ok (.tuple #[.bool true, K.key k, v]) w' ∧
      RangeAt K w' b r l (delAt left k) ∧ But (· = r) w w' ∧ w'.heap.size = w.heap.size ∧ (Instr.entry (.pointer (some ⟨r, 0, none⟩))).run P w' = .ok (.tuple #[K.key k, v]) w' := by
  have hne := h.ne
  obtain ⟨es, clock, since, seen, c0, hb, hs, he, hr, hold, hsc, hsk, hl⟩ := h
  rcases run_next_at (P := P) w ty r b since c0 seen es clock hr hb hold hsc with ⟨h0, hrun⟩ | ⟨e, hem, w1, hal, hrun⟩
  · refine .inl ⟨?_, hrun⟩
    have : (leftOf es seen).toList = [] := by
      rw [← List.length_eq_zero_iff]; simpa using h0
    rw [this] at hl
    simpa using hl.symm
  · right
    obtain ⟨j, hj⟩ := List.getElem?_of_mem hem
    obtain ⟨k, hk, hke⟩ := entry_at hl j e hj
    have hr1 : w1.heap[r]? = some (.mapIter (some b) since seen c0) := by rcases hal with rfl | rfl <;> exact hr
    have hb1 : w1.heap[b]? = some (.map es clock) := by rcases hal with rfl | rfl <;> exact hb
    have hset := heap_set (o' := .mapIter (some b) since (seen.push e.born) clock) hr1
    have hb' : (setBlock w1 r (.mapIter (some b) since (seen.push e.born) clock)).heap[b]? = some (.map es clock) := (hset.2 b (fun e1 => hne e1.symm)).trans hb1
    have hees : e ∈ es.toList := (mem_left hem).1
    refine ⟨k, e.val, _, List.mem_of_getElem? hk, by rw [← hke]; exact hrun, ⟨es, clock, since, seen.push e.born, clock, hb', hs, he, hset.1, hold, hsk, hsk, ?_⟩, ?_, ?_, by rw [← hke]; exact run_entry_at _ r b since seen es clock e hset.1 hb' hees hs.2.1⟩
    · rw [left_push]
      refine filter_zip hl (fun x hx y _ hxy => ?_)
      have hxes : x ∈ es.toList := (mem_left hx).1
      have hst := (stamped_iff es clock).1 hs
      have hk1 : x.key = K.key y.1 := congrArg Prod.fst hxy
      by_cases hxe : x.born = e.born
      · have := born_inj hs.2.1 hxes hees hxe
        subst this
        have : y.1 = k := K.inj _ _ (hk1.symm.trans hke)
        simp [this]
      · have : y.1 ≠ k := fun hyk => hxe (by
          have h1 : x.key = e.key := by rw [hk1, hyk, hke]
          exact congrArg MapEntry.born (entry_eq_of_key hst.2.2 hxes hees h1))
        simp [this, hxe]
    · rcases hal with rfl | rfl <;> exact ⟨rfl, rfl, rfl, by simp [setBlock], fun i _ hi => hset.2 i hi, fun i c t f hi hc => by subst hi; rw [hr] at hc; cases hc⟩
    · rcases hal with rfl | rfl <;> simp [setBlock]

section
variable {ops : Array Oper} {rest : List Oper} {o : Oper} {a : Act} {Q : Exit → Act → World → Prop}
theorem wpList_next_at {K : KeyKind α} {r : Nat} {left : List (α × Value)} (hg : o.guard = none) (it : Operand) (hop : o.op = Op.next it false) (hit : a.eval it = .pointer (some ⟨r, 0, none⟩)) (h : RangeAt K w b r l left)
    (hDone : left = [] → wpList P ops Q rest (a.put o.dst (.tuple #[.bool false])) w)
    (hMore : ∀ k v w', (k, v) ∈ left → RangeAt K w' b r l (delAt left k) → But (· = r) w w' → w'.heap.size = w.heap.size → (Instr.entry (.pointer (some ⟨r, 0, none⟩))).run P w' = .ok (.tuple #[K.key k, v]) w' →
      wpList P ops Q rest (a.put o.dst (.tuple #[.bool true, K.key k, v])) w') :
    wpList P ops Q (o :: rest) a w := by
  refine wpList_plain hg fun K' hK' => ?_
  unfold Oper.wp
  rcases h.next (P := P) o.type with ⟨h0, hrun⟩ | ⟨k, v, w', hm, hrun, hrg, hbut, hsz, hen⟩
  · simp [execOp, hop, hit, hrun, Result.andThen]
    exact hK' _ _ (hDone h0)
  · simp [execOp, hop, hit, hrun, Result.andThen]
    exact hK' _ _ (hMore k v w' hm hrg hbut hsz hen)

theorem wpList_update_at {K : KeyKind α} (hg : o.guard = none) (m x v : Operand) (t kt e : TypeId) (hop : o.op = Op.mapUpdate t m x v) (ht : P.underlying t = some (.map kt e)) (hk : P.underlying kt = some K.d)
    (hm : a.eval m = .map (some b)) (k : α) (hx : a.eval x = K.key k) (val : Value) (hv : a.eval v = val) (h : MapAt K w b l)
    (hK : ∀ w', MapAt K w' b (putAt l k val) → But (· = b) w w' → w'.heap.size = w.heap.size → wpList P ops Q rest (a.put o.dst undef) w') :
    wpList P ops Q (o :: rest) a w := by
  refine wpList_plain hg fun K' hK' => ?_
  obtain ⟨w', hrun, r1, r2, r3⟩ := h.update (P := P) ht hk k val
  unfold Oper.wp
  simp [execOp, hop, hm, hx, hv, hrun, Result.andThen]
  exact hK' _ _ (hK w' r1 r2 r3)

theorem wpList_delete_at {K : KeyKind α} (hg : o.guard = none) (m x : Operand) (t kt e : TypeId) (hop : o.op = Op.call { callee := Callee.builtin Builtin.delete, args := #[m, x], argTypes := #[t, kt] }) (ht : P.underlying t = some (.map kt e)) (hk : P.underlying kt = some K.d)
    (hm : a.eval m = .map (some b)) (k : α) (hx : a.eval x = K.key k) (h : MapAt K w b l)
    (hK : ∀ w', MapAt K w' b (delAt l k) → But (· = b) w w' → w'.heap.size = w.heap.size → wpList P ops Q rest (a.put o.dst (.tuple #[])) w') :
    wpList P ops Q (o :: rest) a w := by
  refine wpList_plain hg fun K' hK' => ?_
  obtain ⟨w', hrun, r1, r2, r3⟩ := h.delete (P := P) (ty := o.type) ht hk k
  unfold Oper.wp
  simp [execOp, hop, resolve, invoke, builtin, hm, hx, hrun, Result.andThen]
  exact hK' _ _ (hK w' r1 r2 r3)
end
end
end Go.Proofs.Ytlihjhalbemfmaa
