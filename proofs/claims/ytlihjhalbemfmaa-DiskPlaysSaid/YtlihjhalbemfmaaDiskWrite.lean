/- A disk is written to, and deleted from. -/
import Derived.Test.YtlihjhalbemfmaaDiskDo
namespace Go.Proofs.Ytlihjhalbemfmaa
open Go.RowKit

theorem str_ne {t : ByteArray} (h : 0 < t.size) : ¬ t.toList = [] ∧ t.toList.isEmpty = false := by
  have h1 : ¬ t.toList = [] := by
    rw [ByteArray.toList_eq]
    intro e
    have : t.data.toList.length = 0 := by rw [e]; rfl
    have h2 : t.data.size = t.size := rfl
    rw [Array.length_toList] at this; omega
  refine ⟨h1, ?_⟩
  cases hh : t.toList with
  | nil => exact absurd hh h1
  | cons => rfl

def roomFor (size : Int) (l : Held) (k : ByteArray) : Int := size - used l + (match getL l k with | some o => k.size + o.size + 16 | none => 0)
def writeE (size : Int) (l : Held) (k s : ByteArray) : Int :=
  if k.size = 0 ∨ 64 < k.size then 1 else if roomFor size l k < k.size + s.size + 16 then 9 else 0
def writeL (size : Int) (l : Held) (k s : ByteArray) : Held := if writeE size l k s = 0 then putL l k s else l

theorem DiskAt.look_some {w : World} {d b : Nat} {size : Int} {l : Held} (h : DiskAt w d b size l) {k o : ByteArray} (hg : getL l k = some o) :
    (Instr.lookup 87 (.map (some b)) (.string k) true).run Try.prog w = .ok (.tuple #[.string o, .bool true]) w := by
  have := h.look k
  rw [hg] at this
  exact this
theorem DiskAt.look_none {w : World} {d b : Nat} {size : Int} {l : Held} (h : DiskAt w d b size l) {k : ByteArray} (hg : getL l k = none) :
    (Instr.lookup 87 (.map (some b)) (.string k) true).run Try.prog w = .ok (.tuple #[.string ⟨#[]⟩, .bool false]) w := by
  have := h.look k
  rw [hg] at this
  exact this

theorem write_bad (d : Nat) (k s : ByteArray) (w : World) (hk : k.size = 0 ∨ 64 < k.size) :
    Calls Try.prog 20 #[.pointer (some ⟨d, 0, none⟩), .string k, .string s] w fun e w' => e = .returned (.int .i64 1) ∧ w = w' := by
  rcases hk with hk | hk
  · obtain rfl : k = ByteArray.empty := by
      apply ByteArray.ext; exact Array.eq_empty_of_size_eq_zero hk
    go_enter Try.func20, Try.ntmps20
    go_wp2
    go_ret
    exact ⟨rfl, rfl⟩
  · obtain ⟨hne, hne1⟩ := str_ne (t := k) (by omega)
    go_enter Try.func20, Try.ntmps20
    go_wp2
    go_ret
    exact ⟨rfl, rfl⟩

set_option maxRecDepth 30000 in
theorem write_old (d b : Nat) (size : Int) (l : Held) (k s o : ByteArray) (w : World) (h : DiskAt w d b size l) (h0 : 0 < k.size) (h1 : k.size ≤ 64) (hs : s.size ≤ 100000000) (hg : getL l k = some o) :
    Calls Try.prog 20 #[.pointer (some ⟨d, 0, none⟩), .string k, .string s] w fun e w' =>
      ∃ c : Int, e = .returned (.int .i64 c) ∧ c = (if size - used l + (k.size + o.size + 16) < k.size + s.size + 16 then 9 else 0) ∧ DiskAt w' d b size (if size - used l + (k.size + o.size + 16) < k.size + s.size + 16 then l else putL l k s) ∧ But (· = b) w w' := by
  have HG := Lib.hid hg
  have hR := Lib.hid (room_any d b size l w h)
  have hmem := used_mem (get_mem hg)
  have hmem2 : k.size + o.size + 16 ≤ used l := hmem
  have hfit := h.fits
  have hlo := h.lo
  have hhi := h.hi
  have H := Lib.hid h
  have hnd : (l.map (·.1)).Nodup := by have := h.map.nodup; rw [vals_keys] at this; exact this
  have HU := Lib.hid (used_put_old (s := s) hnd hg)
  have ho : o.size ≤ 1000000000 := by omega
  have hk2 : k.size ≤ 1000000000 := by omega
  have hs2 : s.size ≤ 1000000000 := by omega
  obtain ⟨hne, hne1⟩ := str_ne h0
  clear h hg hmem hnd
  generalize hu : used l = u at *
  have HUU := Lib.hid hu
  clear hu
  by_cases hc : size - u + (k.size + o.size + 16) < k.size + s.size + 16
  all_goals
    go_enter Try.func20, Try.ntmps20
    go_wp2_with fail
    refine hR.out.mono ?_
    rintro e z ⟨rfl, hz⟩
    have HD := Lib.hid (H.out.ext hz)
    have HZ := Lib.hid hz
    have hc1 := HD.out.c1
    have hlt := HD.out.lt
    have hlook := HD.out.look_some HG.out
    clear hz
    go_wp2_with fail
    refine (takes_any _ _ _ hk2 ho).mono ?_
    rintro e z2 ⟨rfl, rfl⟩
    go_wp2_with fail
    refine (takes_any _ _ _ hk2 hs2).mono ?_
    rintro e z2 ⟨rfl, rfl⟩
  · go_wp2
    go_ret
    exact ⟨_, rfl, rfl, HD.out, But.of_ext HZ.out⟩
  · go_wp2_with (first | (at_mapUpdate; refine wpList_update_at (K := strKey) rfl _ _ _ 87 9 9 rfl Try.underlying87 Try.underlying9 rfl k rfl (.string s) rfl HD.out.map ?_; intro w3 hm3 hb3 hs3) | fail)
    go_ret
    refine ⟨_, rfl, rfl, ?_, (But.of_ext HZ.out).trans hb3⟩
    exact HD.out.turned hb3 (by rw [put_vals] at hm3; exact hm3) (by have := HU.out; omega)

set_option maxRecDepth 30000 in
theorem write_new (d b : Nat) (size : Int) (l : Held) (k s : ByteArray) (w : World) (h : DiskAt w d b size l) (h0 : 0 < k.size) (h1 : k.size ≤ 64) (hs : s.size ≤ 100000000) (hg : getL l k = none) :
    Calls Try.prog 20 #[.pointer (some ⟨d, 0, none⟩), .string k, .string s] w fun e w' =>
      ∃ c : Int, e = .returned (.int .i64 c) ∧ c = (if size - used l < k.size + s.size + 16 then 9 else 0) ∧ DiskAt w' d b size (if size - used l < k.size + s.size + 16 then l else putL l k s) ∧ But (· = b) w w' := by
  have HG := Lib.hid hg
  have hR := Lib.hid (room_any d b size l w h)
  have hfit := h.fits
  have hlo := h.lo
  have hhi := h.hi
  have H := Lib.hid h
  have HU := Lib.hid (used_put_new (s := s) hg)
  have hk2 : k.size ≤ 1000000000 := by omega
  have hs2 : s.size ≤ 1000000000 := by omega
  obtain ⟨hne, hne1⟩ := str_ne h0
  clear h hg
  generalize hu : used l = u at *
  have HUU := Lib.hid hu
  clear hu
  by_cases hc : size - u < k.size + s.size + 16
  all_goals
    go_enter Try.func20, Try.ntmps20
    go_wp2_with fail
    refine hR.out.mono ?_
    rintro e z ⟨rfl, hz⟩
    have HD := Lib.hid (H.out.ext hz)
    have HZ := Lib.hid hz
    have hc1 := HD.out.c1
    have hlt := HD.out.lt
    have hlook := HD.out.look_none HG.out
    clear hz
    go_wp2_with fail
    refine (takes_any _ _ _ hk2 hs2).mono ?_
    rintro e z2 ⟨rfl, rfl⟩
  · go_wp2
    go_ret
    exact ⟨_, rfl, rfl, HD.out, But.of_ext HZ.out⟩
  · go_wp2_with (first | (at_mapUpdate; refine wpList_update_at (K := strKey) rfl _ _ _ 87 9 9 rfl Try.underlying87 Try.underlying9 rfl k rfl (.string s) rfl HD.out.map ?_; intro w3 hm3 hb3 hs3) | fail)
    go_ret
    refine ⟨_, rfl, rfl, ?_, (But.of_ext HZ.out).trans hb3⟩
    exact HD.out.turned hb3 (by rw [put_vals] at hm3; exact hm3) (by have := HU.out; omega)

theorem write_any (d b : Nat) (size : Int) (l : Held) (k s : ByteArray) (w : World) (h : DiskAt w d b size l) (hs : s.size ≤ 100000000) :
    Calls Try.prog 20 #[.pointer (some ⟨d, 0, none⟩), .string k, .string s] w fun e w' =>
      e = .returned (.int .i64 (writeE size l k s)) ∧ DiskAt w' d b size (writeL size l k s) ∧ But (· = b) w w' := by
  by_cases hk : k.size = 0 ∨ 64 < k.size
  · refine (write_bad d k s w hk).mono ?_
    rintro e w' ⟨rfl, rfl⟩
    have he : writeE size l k s = 1 := by unfold writeE; rw [if_pos hk]
    unfold writeL
    rw [he]
    exact ⟨rfl, h, But.refl _⟩
  · cases hg : getL l k with
    | none =>
      refine (write_new d b size l k s w h (by omega) (by omega) hs hg).mono ?_
      rintro e w' ⟨c, rfl, hc, hd, hb⟩
      have he : writeE size l k s = c := by unfold writeE roomFor; rw [if_neg hk, hg, hc]; simp
      unfold writeL
      rw [he]
      refine ⟨rfl, ?_, hb⟩
      rw [hc]
      by_cases hq : size - used l < k.size + s.size + 16
      · rw [if_pos hq] at hd ⊢; simpa using hd
      · rw [if_neg hq] at hd ⊢; simpa using hd
    | some o =>
      refine (write_old d b size l k s o w h (by omega) (by omega) hs hg).mono ?_
      rintro e w' ⟨c, rfl, hc, hd, hb⟩
      have he : writeE size l k s = c := by unfold writeE roomFor; rw [if_neg hk, hg, hc]
      unfold writeL
      rw [he]
      refine ⟨rfl, ?_, hb⟩
      rw [hc]
      by_cases hq : size - used l + (k.size + o.size + 16) < k.size + s.size + 16
      · rw [if_pos hq] at hd ⊢; simpa using hd
      · rw [if_neg hq] at hd ⊢; simpa using hd
end Go.Proofs.Ytlihjhalbemfmaa
