/- The plain law of plays: the names in order, beside the names as they came. -/
import Derived.Test.YtlihjhalbemfmaaPlainly3
import Derived.Test.YtlihjhalbemfmaaDone
import Derived.Sort.Walk0
namespace Go.Proofs.Ytlihjhalbemfmaa
open Go.RowKit

def less (a b : ByteArray) : Prop := a.data.toList < b.data.toList
instance (a b : ByteArray) : Decidable (less a b) := inferInstanceAs (Decidable (a.data.toList < b.data.toList))
theorem less_B (a b : ByteArray) : Op.bytesLess a.toList b.toList = decide (less a b) := by
  rw [ByteArray.toList_eq, ByteArray.toList_eq]
  exact bytesLess_eq _ _
theorem less_trans {a b c : ByteArray} (h : less a b) (k : less b c) : less a c := List.lt_trans h k
theorem less_total {a b : ByteArray} (h : ¬ less a b) (hne : a ≠ b) : less b a := by
  rcases Classical.em (less b a) with h1 | h1
  · exact h1
  · exfalso
    have h2 : b.data.toList ≤ a.data.toList := h
    have h3 : a.data.toList ≤ b.data.toList := h1
    exact hne (ByteArray.ext (Array.toList_inj.1 (List.le_antisymm h3 h2)))

/-- One list has the names in order. -/
structure Rel (l r : Held) : Prop where
  perm : r.Perm l
  sorted : r.Pairwise (fun p q => less p.1 q.1)
  nodup : (l.map (·.1)).Nodup
  full : ∀ p ∈ r, p.1 ≠ ⟨#[]⟩

theorem Rel.nodupR {l r : Held} (h : Rel l r) : (r.map (·.1)).Nodup := (h.perm.map _).nodup_iff.2 h.nodup
theorem used_perm {l r : Held} (h : r.Perm l) : used r = used l := by
  unfold used
  exact (h.map takes).sum_nat
theorem get_of_mem {l : Held} (hn : (l.map (·.1)).Nodup) {k s : ByteArray} (h : (k, s) ∈ l) : getL l k = some s := by
  cases hg : getL l k with
  | none => exact absurd rfl (get_none hg _ h)
  | some o =>
    have h2 := get_mem hg
    obtain ⟨i, hi⟩ := List.getElem?_of_mem h
    obtain ⟨j, hj⟩ := List.getElem?_of_mem h2
    have e1 : (l.map (·.1))[i]? = some k := by simp [hi]
    have e2 : (l.map (·.1))[j]? = some k := by simp [hj]
    have hil : i < (l.map (·.1)).length := (List.getElem?_eq_some_iff.1 e1).1
    have e := (List.getElem?_inj hil hn).1 (e1.trans e2.symm)
    rw [e, hj] at hi
    injection hi with hi
    injection hi with _ hi
    rw [hi]
theorem Rel.get {l r : Held} (h : Rel l r) (k : ByteArray) : getL r k = getL l k := by
  cases hg : getL r k with
  | some s => exact (get_of_mem h.nodup (h.perm.mem_iff.1 (get_mem hg))).symm
  | none =>
    cases hg2 : getL l k with
    | none => rfl
    | some s => exact absurd rfl (get_none hg _ (h.perm.mem_iff.2 (get_mem hg2)))

theorem Rel.drop {l r : Held} (h : Rel l r) (k : ByteArray) : Rel (dropAt l k) (dropAt r k) :=
  ⟨h.perm.filter _, h.sorted.sublist (drop_sub r k), nodup_drop h.nodup k, fun p hp => h.full p ((drop_sub r k).subset hp)⟩

/-- A name is laid into its place. -/
def ins (k s : ByteArray) : Held → Held
  | [] => [(k, s)]
  | p :: m => if gtB p.1 k then (k, s) :: p :: m else p :: ins k s m
theorem ins_perm (k s : ByteArray) : ∀ m, (ins k s m).Perm ((k, s) :: m)
  | [] => List.Perm.refl _
  | p :: m => by
    unfold ins
    split
    · exact List.Perm.refl _
    · exact ((ins_perm k s m).cons p).trans (List.Perm.swap _ _ _)
theorem gtB_iff {a b : ByteArray} (hne : a ≠ b) : gtB a b = true ↔ less b a := by
  unfold gtB
  rw [less_B]
  have : (a.toList == b.toList) = false := by
    have : ¬ a.toList = b.toList := fun h => hne (toList_inj h)
    simpa using this
  rw [this]
  simp only [Bool.not_false, Bool.and_true, Bool.not_eq_true', decide_eq_false_iff_not]
  exact ⟨fun h => less_total h hne, fun h h2 => List.lt_irrefl _ (less_trans h h2)⟩
theorem ins_sorted (k s : ByteArray) : ∀ m : Held, m.Pairwise (fun p q => less p.1 q.1) → (∀ p ∈ m, p.1 ≠ k) → (ins k s m).Pairwise (fun p q => less p.1 q.1)
  | [], _, _ => by simp [ins]
  | p :: m, hs, hne => by
    obtain ⟨h1, h2⟩ := List.pairwise_cons.1 hs
    have hpk := hne p List.mem_cons_self
    unfold ins
    by_cases hg : gtB p.1 k = true
    · rw [if_pos hg]
      have hl := (gtB_iff hpk).1 hg
      refine List.pairwise_cons.2 ⟨fun q hq => ?_, hs⟩
      rcases List.mem_cons.1 hq with rfl | hq
      · exact hl
      · exact less_trans hl (h1 q hq)
    · rw [if_neg hg]
      refine List.pairwise_cons.2 ⟨fun q hq => ?_, ins_sorted k s m h2 (fun q hq => hne q (List.mem_cons_of_mem _ hq))⟩
      rcases List.mem_cons.1 ((ins_perm k s m).mem_iff.1 hq) with rfl | hq
      · rcases Classical.em (less p.1 k) with h | h
        · exact h
        · exact absurd ((gtB_iff hpk).2 (less_total h hpk)) hg
      · exact h1 q hq
theorem fold_true (k s : ByteArray) : ∀ (m acc : Held), m.foldl (insStep k s) (acc, true) = (acc ++ m, true)
  | [], acc => by simp
  | p :: m, acc => by
    rw [List.foldl_cons, show insStep k s (acc, true) p = (acc ++ [p], true) by simp [insStep], fold_true k s m]
    simp
theorem fold_ins (k s : ByteArray) : ∀ (m acc : Held), (if (m.foldl (insStep k s) (acc, false)).2 then (m.foldl (insStep k s) (acc, false)).1 else (m.foldl (insStep k s) (acc, false)).1 ++ [(k, s)]) = acc ++ ins k s m
  | [], acc => by simp [ins]
  | p :: m, acc => by
    rw [List.foldl_cons]
    by_cases hg : gtB p.1 k = true
    · rw [show insStep k s (acc, false) p = (acc ++ [(k, s), p], true) by simp [insStep, hg], fold_true]
      simp [ins, hg]
    · rw [show insStep k s (acc, false) p = (acc ++ [p], false) by simp [insStep, hg], fold_ins k s m]
      simp [ins, hg]
theorem insertR_eq (k s : ByteArray) (m : Held) : insertR k s m = ins k s m := by
  unfold insertR insTo
  rw [List.take_length]
  have := fold_ins k s m []
  simpa using this
theorem put_perm {l : Held} (hn : (l.map (·.1)).Nodup) (k s : ByteArray) : (putL l k s).Perm ((k, s) :: dropAt l k) := by
  unfold putL
  cases hg : getL l k with
  | none =>
    rw [drop_none hg]
    simp only [Option.isSome_none, Bool.false_eq_true, if_false]
    exact List.perm_append_comm
  | some o =>
    simp only [Option.isSome_some, if_true]
    have hm := get_mem hg
    clear hg
    induction l with
    | nil => simp at hm
    | cons p l ih =>
      rw [List.map_cons, List.nodup_cons] at hn
      rw [List.map_cons]
      unfold dropAt
      rw [List.filter_cons]
      rcases List.mem_cons.1 hm with e | hm'
      · subst e
        have ho : ∀ q ∈ l, q.1 ≠ k := fun q hq e => hn.1 (List.mem_map.2 ⟨q, hq, e⟩)
        rw [if_pos rfl, if_neg (by simp), map_other ho, List.filter_eq_self.2 (fun q hq => by have := ho q hq; simpa using this)]
      · have hpk : p.1 ≠ k := fun e => hn.1 (List.mem_map.2 ⟨_, hm', e.symm⟩)
        rw [if_neg hpk, if_pos (by simpa using hpk)]
        exact ((ih hn.2 hm').cons p).trans (List.Perm.swap _ _ _)
theorem put_nodup {l : Held} (hn : (l.map (·.1)).Nodup) (k s : ByteArray) : ((putL l k s).map (·.1)).Nodup := by
  refine ((put_perm hn k s).map _).nodup_iff.2 ?_
  rw [List.map_cons, List.nodup_cons]
  refine ⟨fun h => ?_, nodup_drop hn k⟩
  obtain ⟨p, hp, e⟩ := List.mem_map.1 h
  have := (List.mem_filter.1 hp).2
  simp at this
  exact this e
theorem Rel.put {l r : Held} (h : Rel l r) {k : ByteArray} (hk : k ≠ ⟨#[]⟩) (s : ByteArray) : Rel (putL l k s) (insertR k s (dropAt r k)) := by
  rw [insertR_eq]
  have hd := h.drop k
  refine ⟨((ins_perm k s _).trans (hd.perm.cons _)).trans (put_perm h.nodup k s).symm, ins_sorted k s _ hd.sorted (fun p hp => ?_), put_nodup h.nodup k s, fun p hp => ?_⟩
  · have := (List.mem_filter.1 hp).2
    simpa using this
  · rcases List.mem_cons.1 ((ins_perm k s _).mem_iff.1 hp) with rfl | hp
    · exact hk
    · exact hd.full p hp
theorem setR_put {r : Held} (hn : (r.map (·.1)).Nodup) {i : Nat} {k o : ByteArray} (h : r[i]? = some (k, o)) (s : ByteArray) : setR r i k s = putL r k s := by
  have hg := get_of_mem hn (List.mem_of_getElem? h)
  unfold putL setR
  rw [hg]
  simp only [Option.isSome_some, if_true]
  apply List.ext_getElem?
  intro j
  rw [List.getElem?_map]
  by_cases e : i = j
  · subst e
    have hi : i < r.length := (List.getElem?_eq_some_iff.1 h).1
    rw [List.getElem?_set_self hi, h]; simp
  · rw [List.getElem?_set_ne e]
    cases hj : r[j]? with
    | none => rfl
    | some p =>
      have : p.1 ≠ k := fun hp => by
        have e1 : (r.map (·.1))[i]? = some k := by simp [h]
        have e2 : (r.map (·.1))[j]? = some k := by simp [hj, hp]
        have hil : i < (r.map (·.1)).length := (List.getElem?_eq_some_iff.1 e1).1
        exact e ((List.getElem?_inj hil hn).1 (e1.trans e2.symm))
      simp [this]
theorem Rel.set {l r : Held} (h : Rel l r) {k o : ByteArray} (hg : getL l k = some o) (s : ByteArray) : Rel (putL l k s) (putL r k s) := by
  have hgr : getL r k = some o := (h.get k).trans hg
  have hk : k ≠ ⟨#[]⟩ := h.full _ (get_mem hgr)
  refine ⟨(put_perm h.nodupR k s).trans (((h.drop k).perm.cons _).trans (put_perm h.nodup k s).symm), ?_, put_nodup h.nodup k s, fun p hp => ?_⟩
  · unfold putL
    rw [hgr]
    simp only [Option.isSome_some, if_true]
    rw [List.pairwise_map]
    refine h.sorted.imp fun {p q} hpq => ?_
    have e : ∀ p : ByteArray × ByteArray, (if p.1 = k then (k, s) else p).1 = p.1 := fun p => by split <;> simp_all
    rw [e p, e q]
    exact hpq
  · rcases put_keys p hp with e | ⟨q, hq, e⟩
    · rw [e]; exact hk
    · rw [← e]; exact h.full q hq
theorem Rel.nil : Rel [] [] := ⟨List.Perm.refl _, List.Pairwise.nil, by simp, by simp⟩
theorem Rel.names {l r : Held} (h : Rel l r) : namesOf l = names r := by
  unfold namesOf Go.Proofs.Ytlihjhalbemfmaa.names
  rw [mergeSort_of_perm ((h.perm.map (fun p => p.1.data.toList)).symm)]
  rw [List.mergeSort_of_pairwise]
  · rw [List.map_map]
    apply List.map_congr_left
    intro p _
    exact ByteArray.ext (by simp)
  · rw [List.pairwise_map]
    refine h.sorted.imp fun {p q} hpq => ?_
    have : p.1.data.toList ≤ q.1.data.toList := List.le_of_lt hpq
    simpa [leB] using this
end Go.Proofs.Ytlihjhalbemfmaa
