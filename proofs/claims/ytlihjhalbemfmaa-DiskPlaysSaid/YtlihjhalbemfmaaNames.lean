/- A disk's names: the keys, sorted. -/
import Derived.Test.YtlihjhalbemfmaaDiskDelete
import Derived.Test.YtlihjhalbemfmaaIter
namespace Go.Proofs.Ytlihjhalbemfmaa
open Go.RowKit Go.Maps Go.Sort Go.Shelf Go.MapKept
open Go.WideElems (Fit rd rg pl rd_val elemAt)

theorem sorts_at (m : Nat) : AnyZ.SortsIn Try.prog Try.sorted48_ren Fence.wide m :=
  ⟨fun blk off cap ss W hH hblk hsz => callsIn_wide.2 (AnyM.slices_Sort_string Try.sort73 blk off cap ss W hH hblk hsz),
   fun p cap W => callsIn_wide.2 (AnyM.slices_Sort_string_none Try.sort73 p cap W)⟩

theorem keys_at (mb : Option Nat) (W : World) : CallsIn Fence.wide 5 Try.prog 49 #[.map mb] W fun e w' => e = .returned (.func (.func 74) #[] #[.pointer (some ⟨W.heap.size, 0, none⟩)]) ∧ w' = W.alloc (.cells #[.map mb] 87) :=
  AnyZ.keys_in Try.keys49 Fence.wide 5 trivial rfl mb W

set_option maxHeartbeats 1000000 in
theorem sorted_keys_at {H : Type} (b nn : Nat) (D0 : DataW H) (R : Value → Option (DataW H × List MemPlace)) (w : World) (hown : w.ownsMap Try.prog 9 R b nn D0) (hmax : Maps.size D0 ≤ maxLen) (hbytes : Maps.size D0 * 16 ≤ 140737488355328) :
    CallsIn Fence.wide 5 Try.prog 48 #[.func (.func 74) #[] #[.pointer (some ⟨w.heap.size, 0, none⟩)]] (w.alloc (.cells #[.map (some b)] 87)) fun e w' => ∃ (v : Value) (ss : List (List UInt8)), e = .returned v ∧ ss.Perm (strKeys D0) ∧
      w'.ownsRow (w.alloc (.cells #[.map (some b)] 87)).heap.size 9 1 v ss.length ((ss.mergeSort (fun x y => decide (x ≤ y))).map encStr) ∧ (v = .slice none 0 0 ↔ ss = []) ∧ Below (w.alloc (.cells #[.map (some b)] 87)).heap.size (w.alloc (.cells #[.map (some b)] 87)) w' := by
  have hbl := hown.lt
  have hseq : SeqGives Fence.wide 2 Try.prog 74 #[.pointer (some ⟨w.heap.size, 0, none⟩)] encStr (fun ss => ss.Perm (strKeys D0)) (Maps.size D0) (w.alloc (.cells #[.map (some b)] 87)) :=
    AnyZ.keys_gives (ρ := Try.keys49_ren) { Try.keys49 with } Fence.wide _ trivial rfl (by omega) w.heap.size b nn D0 _ (by simp) (by simp) (by
      obtain ⟨es, clock, hb, Ft, hs, hD⟩ := hown
      exact ⟨es, clock, (Below.heap_alloc _ _ b hbl).trans hb, Ft, hs, hD⟩)
  exact AnyZ.sorted_in Try.sorted48 Fence.wide 5 trivial trivial trivial trivial rfl (by omega) (sorts_at _) (enters_of Try.func73 (by kernel_rfl) rfl) 74 #[.pointer (some ⟨w.heap.size, 0, none⟩)] trivial (enters_of Try.func74 (by kernel_rfl) rfl) _ _ hmax hbytes _ hseq

/-- How an element reads here: all alike. -/
def anyElem (_ : Value) : Option (DataW Unit × List MemPlace) := some (.lit (.bool true), [])
def keyLits (l : Held) : List (Lit × DataW Unit) := l.map fun p => (.string p.1.data.toList, .lit (.bool true))

theorem keyOf_string (k : ByteArray) (h : k.size ≤ maxLen) : keyOf Try.prog 9 (.string k) = some (.string k.data.toList) := by
  simp [keyOf, mapKey, Try.underlying9, h]

theorem owns_of {w : World} {b : Nat} {l : Held} (h : MapAt strKey w b (vals l)) (hl : l.length ≤ 1000000) (hk : ∀ p ∈ l, p.1.size ≤ 100000000) :
    w.ownsMap Try.prog 9 anyElem b l.length (.map ((keyLits l).foldr DataW.insert [])) := by
  obtain ⟨es, clock, hb, hs, he⟩ := h
  have hlen : es.size = l.length := by have := congrArg List.length he; simpa [vals] using this
  have hrd : ∀ (j : Nat) (e : MapEntry), es.toList[j]? = some e → ∃ p : ByteArray × ByteArray, l[j]? = some p ∧ rd Try.prog 9 anyElem e = some (.string p.1.data.toList, .lit (.bool true)) := by
    intro j e hj
    obtain ⟨k, hkj, hke⟩ := entry_at he j e hj
    unfold vals at hkj
    rw [List.getElem?_map] at hkj
    cases hl : l[j]? with
    | none => rw [hl] at hkj; cases hkj
    | some p =>
      rw [hl] at hkj
      injection hkj with hkj
      injection hkj with h1 h2
      refine ⟨p, rfl, ?_⟩
      unfold WideElems.rd
      have : e.key = .string p.1 := by rw [hke, ← h1]; rfl
      rw [this, keyOf_string p.1 (Nat.le_trans (hk p (List.mem_of_getElem? hl)) (by decide))]
      rfl
  refine ⟨es, clock, hb, ⟨by rw [hlen]; exact Nat.le_trans hl (by decide), hs, ?_⟩, by omega, ?_⟩
  · intro x hx
    obtain ⟨j, hj⟩ := List.getElem?_of_mem hx
    obtain ⟨p, _, h⟩ := hrd j x hj
    exact ⟨_, h⟩
  · have : es.toList.map (rg Try.prog 9 anyElem) = keyLits l := by
      apply List.ext_getElem?
      intro j
      unfold keyLits
      rw [List.getElem?_map, List.getElem?_map]
      cases hj : es.toList[j]? with
      | none =>
        have : l[j]? = none := by
          rw [List.getElem?_eq_none_iff] at hj ⊢
          rw [Array.length_toList] at hj; omega
        rw [this]; rfl
      | some e =>
        obtain ⟨p, hp, h⟩ := hrd j e hj
        rw [hp]
        simp [WideElems.rg, h]
    rw [this]

theorem strKeys_of (l : Held) : (strKeys (.map ((keyLits l).foldr DataW.insert []))).Perm (l.map fun p => p.1.data.toList) := by
  have := ((Go.WideShapes.sorted_perm (keyLits l)).map (fun p => strOf p.1))
  unfold keyLits at this ⊢
  rw [List.map_map] at this
  exact this
theorem size_of (l : Held) : Maps.size (DataW.map ((keyLits l).foldr DataW.insert [])) = l.length := by
  show ((keyLits l).foldr DataW.insert []).length = _
  rw [length_sorted]; simp [keyLits]

/-- A slice of texts. -/
def StrsAt (w : World) (base : Nat) (v : Value) (ss : List ByteArray) : Prop :=
  (v = .slice none 0 0 ∧ ss = []) ∨ ∃ g cap, v = .slice (some ⟨g, 0, none⟩) ss.length cap ∧ base ≤ g ∧ g < w.heap.size ∧ ∀ k, k < ss.length → w.cell? ⟨g, k, none⟩ = some (.string (ss.getD k ⟨#[]⟩))

def namesOf (l : Held) : List ByteArray := ((l.map fun p => p.1.data.toList).mergeSort leB).map fun b => ⟨b.toArray⟩

theorem strs_of {w : World} {base : Nat} {v : Value} {ss : List (List UInt8)} {l : Held} (hp : ss.Perm (l.map fun p => p.1.data.toList)) (hrow : w.ownsRow base 9 1 v ss.length ((ss.mergeSort (fun x y => decide (x ≤ y))).map encStr)) : StrsAt w base v (namesOf l) := by
  have hm : ss.mergeSort (fun x y => decide (x ≤ y)) = (l.map fun p => p.1.data.toList).mergeSort leB := mergeSort_of_perm hp
  have hlen : (namesOf l).length = ss.length := by rw [hp.length_eq]; simp [namesOf]
  obtain ⟨_, h | ⟨g, cap, cur, hv, hg, hb, hc1, hc2, hcs, hct⟩⟩ := hrow
  · exact .inl ⟨h.1, List.length_eq_zero_iff.1 (hlen.trans h.2)⟩
  · refine .inr ⟨g, cap, by rw [hlen]; exact hv, hg, (Array.getElem?_eq_some_iff.1 hb).1, fun k hk => ?_⟩
    rw [Nat.mul_one] at hct
    have h1 : cur.toList[k]? = (cur.toList.take ss.length)[k]? := by rw [List.getElem?_take_of_lt (by omega)]
    have h2 : w.cell? ⟨g, k, none⟩ = cur[k]? := by simp [World.cell?, hb]
    rw [h2, ← Array.getElem?_toList, h1, hct, hm]
    unfold namesOf at hk ⊢
    rw [List.length_map] at hk
    rw [List.getD_eq_getElem?_getD, List.getElem?_map, List.getElem?_map, List.getElem?_eq_getElem hk]
    rfl

theorem names_any (d b : Nat) (size : Int) (l : Held) (w : World) (h : DiskAt w d b size l) (hl : l.length ≤ 1000000) (hk : ∀ p ∈ l, p.1.size ≤ 100000000) :
    Calls Try.prog 22 #[.pointer (some ⟨d, 0, none⟩)] w fun e w' => ∃ v, e = .returned v ∧ StrsAt w' w.heap.size v (namesOf l) ∧ Ext w w' := by
  have hown := owns_of h.map hl hk
  have hc1 := h.c1
  have hlt := h.lt
  have hmax : Maps.size (DataW.map ((keyLits l).foldr DataW.insert [])) ≤ maxLen := by rw [size_of]; exact Nat.le_trans hl (by decide)
  have hbytes : Maps.size (DataW.map ((keyLits l).foldr DataW.insert [])) * 16 ≤ 140737488355328 := by rw [size_of]; omega
  have HK := Lib.hid (strKeys_of l)
  clear h hl hk
  refine (callsIn_wide (n := 6)).1 ?_
  have hfK : Fence.wide.fn 49 := trivial
  have hfS : Fence.wide.fn 48 := trivial
  refine callsIn_of_wp Try.func22 rfl trivial ?_ rfl
  simp only [Try.ntmps22, List.size_toArray, List.length_cons, List.length_nil, Nat.reduceAdd, Nat.reduceSub, Array.replicate_succ, Array.replicate_zero, List.push_toArray, List.append_toArray, List.nil_append, List.cons_append]
  gi_wp2_with (first
    | (gi_at_call 49; refine (keys_at _ _).mono ?_; rintro e w' ⟨rfl, rfl⟩)
    | (gi_at_call 48; refine (sorted_keys_at b l.length _ anyElem w hown hmax hbytes).mono ?_; rintro e w' ⟨v, ss, rfl, hS, hrow, hnil, hb⟩))
  go_ret
  exact ⟨v, rfl, strs_of (hS.trans HK.out) (ownsRow_base_a hrow (by simp)), ((Below.refl _ w).alloc (Nat.le_refl _) _).trans (hb.mono (by simp))⟩
end Go.Proofs.Ytlihjhalbemfmaa
