/- A disk: its room, reading, writing, deleting. -/
import Derived.Test.YtlihjhalbemfmaaMaps
namespace Go.Proofs.Ytlihjhalbemfmaa
open Go.RowKit

abbrev Held := List (ByteArray × ByteArray)
def vals (l : Held) : List (ByteArray × Value) := l.map (fun p => (p.1, .string p.2))
def takes (p : ByteArray × ByteArray) : Nat := p.1.size + p.2.size + 16
def used (l : Held) : Nat := (l.map takes).sum

structure DiskAt (w : World) (d b : Nat) (size : Int) (l : Held) : Prop where
  c0 : w.cell? ⟨d, 0, none⟩ = some (.int .i64 size)
  c1 : w.cell? ⟨d, 1, none⟩ = some (.map (some b))
  lt : d < w.heap.size
  map : MapAt strKey w b (vals l)
  lo : 0 ≤ size
  hi : size ≤ 4194304
  fits : (used l : Int) ≤ size

theorem DiskAt.ne {w : World} {d b : Nat} {size : Int} {l : Held} (h : DiskAt w d b size l) : d ≠ b := by
  intro e
  obtain ⟨es, clock, hb, _⟩ := h.map
  have := h.c0
  rw [e] at this
  simp [World.cell?, hb] at this
theorem DiskAt.ext {w w' : World} {d b : Nat} {size : Int} {l : Held} (h : DiskAt w d b size l) (hx : Ext w w') : DiskAt w' d b size l :=
  ⟨by rw [hx.cellAt h.lt]; exact h.c0, by rw [hx.cellAt h.lt]; exact h.c1, Nat.lt_of_lt_of_le h.lt hx.size, h.map.ext hx, h.lo, h.hi, h.fits⟩
theorem DiskAt.turned {w w' : World} {d b : Nat} {size : Int} {l l' : Held} (h : DiskAt w d b size l) (hx : But (· = b) w w') (hm : MapAt strKey w' b (vals l')) (hf : (used l' : Int) ≤ size) : DiskAt w' d b size l' :=
  ⟨by rw [hx.cellAt h.lt h.ne]; exact h.c0, by rw [hx.cellAt h.lt h.ne]; exact h.c1, Nat.lt_of_lt_of_le h.lt hx.size, hm, h.lo, h.hi, hf⟩

theorem takes_any (a b : ByteArray) (w : World) (ha : a.size ≤ 1000000000) (hb : b.size ≤ 1000000000) :
    Calls Try.prog 47 #[.string a, .string b] w fun e w' => e = .returned (.int .i64 (a.size + b.size + 16)) ∧ w = w' := by
  go_enter Try.func47, Try.ntmps47
  go_wp2
  go_ret
  exact ⟨rfl, rfl⟩

theorem used_mem {l : Held} {p : ByteArray × ByteArray} (h : p ∈ l) : takes p ≤ used l := by
  induction l with
  | nil => simp at h
  | cons q l ih =>
    unfold used
    rw [List.map_cons, List.sum_cons]
    rcases List.mem_cons.1 h with rfl | h
    · omega
    · have := ih h; unfold used at this; omega

def dropAt (l : Held) (k : ByteArray) : Held := l.filter (fun p => decide (p.1 ≠ k))
theorem vals_drop (l : Held) (k : ByteArray) : delAt (vals l) k = vals (dropAt l k) := by
  unfold delAt vals dropAt
  rw [List.filter_map]; rfl
theorem used_drop {l : Held} (hn : (l.map (·.1)).Nodup) {p : ByteArray × ByteArray} (h : p ∈ l) : used (dropAt l p.1) + takes p = used l := by
  induction l with
  | nil => simp at h
  | cons q l ih =>
    rw [List.map_cons, List.nodup_cons] at hn
    unfold dropAt
    rw [List.filter_cons]
    rcases List.mem_cons.1 h with e | h'
    · subst e
      have : List.filter (fun x => decide (x.1 ≠ p.1)) l = l := List.filter_eq_self.2 fun x hx => by
        have : x.1 ≠ p.1 := fun e => hn.1 (List.mem_map.2 ⟨x, hx, e⟩)
        simpa using this
      rw [if_neg (by simp), this]
      unfold used; simp; omega
    · have : q.1 ≠ p.1 := fun e => hn.1 (List.mem_map.2 ⟨p, h', e.symm⟩)
      rw [if_pos (by simpa using this)]
      have := ih hn.2 h'
      unfold used dropAt at *
      simp only [List.map_cons, List.sum_cons]
      omega
theorem drop_sub (l : Held) (k : ByteArray) : (dropAt l k).Sublist l := List.filter_sublist
theorem drop_lt {l : Held} {p : ByteArray × ByteArray} (h : p ∈ l) : (dropAt l p.1).length < l.length := by
  have h1 := (drop_sub l p.1).length_le
  rcases Nat.lt_or_ge (dropAt l p.1).length l.length with h2 | h2
  · exact h2
  · have := (drop_sub l p.1).eq_of_length_le h2
    rw [← this] at h
    have := (List.mem_filter.1 h).2
    simp at this
theorem nodup_drop {l : Held} (hn : (l.map (·.1)).Nodup) (k : ByteArray) : ((dropAt l k).map (·.1)).Nodup := ((drop_sub l k).map _).nodup hn
theorem vals_keys (l : Held) : (vals l).map (·.1) = l.map (·.1) := by simp [vals, List.map_map, Function.comp_def]

theorem mem_vals {l : Held} {k : ByteArray} {v : Value} (h : (k, v) ∈ vals l) : ∃ s, v = .string s ∧ (k, s) ∈ l := by
  obtain ⟨p, hp, e⟩ := List.mem_map.1 h
  cases e
  exact ⟨p.2, rfl, hp⟩

set_option maxRecDepth 30000 in
theorem room_any (d b : Nat) (size : Int) (l : Held) (w : World) (h : DiskAt w d b size l) :
    Calls Try.prog 18 #[.pointer (some ⟨d, 0, none⟩)] w fun e w' => e = .returned (.int .i64 (size - used l)) ∧ Ext w w' := by
  have hc0 := h.c0
  have hc1 := h.c1
  have hlt := h.lt
  have H := Lib.hid h
  have hnd : Hid ((l.map (·.1)).Nodup) := by have := h.map.nodup; rw [vals_keys] at this; exact this
  obtain ⟨_, _, _, _, hlo, hhi, hfit⟩ := h
  go_enter Try.func18, Try.ntmps18
  go_wp2_with (first | (at_range; refine wpList_range_at (K := strKey) rfl _ 87 9 9 rfl Try.underlying87 rfl H.out.map ?_; intro w1 hrg1 hx1 hs1) | fail)
  go_frame
  go_loopg [3] l.length (fun k o wr => ∃ left : Held, left.length = k ∧ left.Sublist l ∧ (left.map (·.1)).Nodup ∧ RangeAt strKey wr b w.heap.size (vals l) (vals left) ∧ o = .int .i64 (size - used l + used left) ∧ used left ≤ used l ∧ Ext w wr)
  case atStart => exact ⟨l, rfl, List.Sublist.refl _, hnd.out, hrg1, by go_num, Nat.le_refl _, hx1⟩
  case round =>
    obtain ⟨left, hlen, hsub, hnl, hrg, rfl, hle, hx⟩ := hrel
    have HL := Lib.hid hlen
    have HSUB := Lib.hid hsub
    have HX := Lib.hid hx
    clear hlen hx hrg1 hx1 hs1
    go_wp2_with (first | (at_next; refine wpList_next_at (K := strKey) rfl _ rfl rfl hrg ?_ ?_) | fail)
    · intro hnil
      have hnil2 : left = [] := by simpa [vals] using hnil
      subst hnil2
      have h0 : used [] = 0 := rfl
      go_wp2
      go_ret
      exact ⟨by simp [h0], HX.out⟩
    · intro k v w2 hm hrg2 hbut hs2 hen
      obtain ⟨s, rfl, hks⟩ := mem_vals hm
      have hen2 : (Instr.entry (.pointer (some ⟨w.heap.size, 0, none⟩))).run Try.prog w2 = .ok (.tuple #[.string k, .string s]) w2 := hen
      have hu := used_drop hnl hks
      have hmem := used_mem (hsub.subset hks)
      have hls := drop_lt hks
      have E2 := Lib.hid (But.ext HX.out hbut (fun j hj => by subst hj; exact Nat.le_refl _))
      have hmem2 : k.size + s.size + 16 ≤ used l := hmem
      have hks1 : k.size ≤ 1000000000 := by omega
      have hks2 : s.size ≤ 1000000000 := by omega
      have hu2 : used (dropAt left k) + (k.size + s.size + 16) = used left := hu
      have HS := Lib.hid (drop_sub left k)
      have HN := Lib.hid (nodup_drop hnl k)
      have HR := Lib.hid hrg2
      have HU := Lib.hid hu2
      rw [vals_drop] at hrg2
      clear hen hbut hm hs2 hrg hu hmem hks hsub hnl
      go_wp2_with fail
      refine (takes_any _ _ _ hks1 hks2).mono ?_
      rintro e w' ⟨rfl, rfl⟩
      go_wp2
      go_roundg (dropAt left k).length
      case measure => rw [← HL.out]; exact hls
      case rel => exact ⟨dropAt left k, rfl, HS.out.trans HSUB.out, HN.out, by rw [vals_drop] at HR; exact HR.out, by go_num, by omega, E2.out⟩
end Go.Proofs.Ytlihjhalbemfmaa
