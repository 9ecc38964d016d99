/- A disk is deleted from. -/
import Derived.Test.YtlihjhalbemfmaaDiskWrite
namespace Go.Proofs.Ytlihjhalbemfmaa
open Go.RowKit

theorem delete_none (d b : Nat) (size : Int) (l : Held) (k : ByteArray) (w : World) (h : DiskAt w d b size l) (hg : getL l k = none) :
    Calls Try.prog 21 #[.pointer (some ⟨d, 0, none⟩), .string k] w fun e w' => e = .returned (.int .i64 8) ∧ w = w' := by
  have hR := Lib.hid (read_any d b size l k w h)
  unfold readOf at hR
  rw [hg] at hR
  clear h hg
  go_enter Try.func21, Try.ntmps21
  go_wp2_with fail
  refine hR.out.mono ?_
  rintro e z ⟨rfl, rfl⟩
  go_wp2
  go_ret
  exact ⟨rfl, rfl⟩

theorem delete_some (d b : Nat) (size : Int) (l : Held) (k s : ByteArray) (w : World) (h : DiskAt w d b size l) (hg : getL l k = some s) :
    Calls Try.prog 21 #[.pointer (some ⟨d, 0, none⟩), .string k] w fun e w' => e = .returned (.int .i64 0) ∧ DiskAt w' d b size (dropAt l k) ∧ But (· = b) w w' := by
  have hR := Lib.hid (read_any d b size l k w h)
  unfold readOf at hR
  rw [hg] at hR
  have hnd : (l.map (·.1)).Nodup := by have := h.map.nodup; rw [vals_keys] at this; exact this
  have HU := Lib.hid (used_drop hnd (get_mem hg))
  have H := Lib.hid h
  have hc1 := h.c1
  have hlt := h.lt
  clear h hg hnd
  go_enter Try.func21, Try.ntmps21
  go_wp2_with fail
  refine hR.out.mono ?_
  rintro e z ⟨rfl, rfl⟩
  go_wp2_with (first | (at_delete; refine wpList_delete_at (K := strKey) rfl _ _ 87 9 9 rfl Try.underlying87 Try.underlying9 rfl k rfl H.out.map ?_; intro w3 hm3 hb3 hs3) | fail)
  go_ret
  refine ⟨rfl, H.out.turned hb3 (by rw [vals_drop] at hm3; exact hm3) ?_, hb3⟩
  have h1 : used (dropAt l k) + takes (k, s) = used l := HU.out
  have := H.out.fits
  omega

def delE (l : Held) (k : ByteArray) : Int := if (getL l k).isSome then 0 else 8
theorem drop_none {l : Held} {k : ByteArray} (hg : getL l k = none) : dropAt l k = l := by
  unfold dropAt
  refine List.filter_eq_self.2 fun p hp => ?_
  have := get_none hg p hp
  simpa using this
theorem delete_any (d b : Nat) (size : Int) (l : Held) (k : ByteArray) (w : World) (h : DiskAt w d b size l) :
    Calls Try.prog 21 #[.pointer (some ⟨d, 0, none⟩), .string k] w fun e w' => e = .returned (.int .i64 (delE l k)) ∧ DiskAt w' d b size (dropAt l k) ∧ But (· = b) w w' := by
  unfold delE
  cases hg : getL l k with
  | none =>
    refine (delete_none d b size l k w h hg).mono ?_
    rintro e w' ⟨rfl, rfl⟩
    rw [drop_none hg]
    exact ⟨rfl, h, But.refl _⟩
  | some s => exact delete_some d b size l k s w h hg
end Go.Proofs.Ytlihjhalbemfmaa
