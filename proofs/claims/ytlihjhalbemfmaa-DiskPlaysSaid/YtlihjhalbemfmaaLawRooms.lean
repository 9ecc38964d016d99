/- The law of rooms, walked. -/
import Derived.Test.YtlihjhalbemfmaaNames
namespace Go.Proofs.Ytlihjhalbemfmaa
open Go.RowKit

theorem awakeDisk (w : World) : Calls Try.prog 16 #[] w fun e w' => e = .returned (.bool true) ∧ Ext w w' := by
  have hN := Lib.hid (fun w => new_disk 20 w (by omega) (by omega))
  have hW1 : Hid (∀ d b w, DiskAt w d b 20 [] → Calls Try.prog 20 #[.pointer (some ⟨d, 0, none⟩), .string ⟨#[97]⟩, .string ⟨#[120, 121, 122]⟩] w fun e w' => e = .returned (.int .i64 0) ∧ DiskAt w' d b 20 [(⟨#[97]⟩, ⟨#[120, 121, 122]⟩)] ∧ But (· = b) w w') :=
    fun d b w h => write_any d b 20 [] ⟨#[97]⟩ ⟨#[120, 121, 122]⟩ w h (by decide)
  have hR : Hid (∀ d b w, DiskAt w d b 20 [(⟨#[97]⟩, ⟨#[120, 121, 122]⟩)] → Calls Try.prog 18 #[.pointer (some ⟨d, 0, none⟩)] w fun e w' => e = .returned (.int .i64 0) ∧ Ext w w') :=
    fun d b w h => room_any d b 20 [(⟨#[97]⟩, ⟨#[120, 121, 122]⟩)] w h
  have hW2 : Hid (∀ d b w, DiskAt w d b 20 [(⟨#[97]⟩, ⟨#[120, 121, 122]⟩)] → Calls Try.prog 20 #[.pointer (some ⟨d, 0, none⟩), .string ⟨#[98]⟩, .string ⟨#[]⟩] w fun e w' => e = .returned (.int .i64 9) ∧ DiskAt w' d b 20 [(⟨#[97]⟩, ⟨#[120, 121, 122]⟩)] ∧ But (· = b) w w') :=
    fun d b w h => write_any d b 20 [(⟨#[97]⟩, ⟨#[120, 121, 122]⟩)] ⟨#[98]⟩ ⟨#[]⟩ w h (by decide)
  go_enter Try.func16, Try.ntmps16
  go_wp2_with fail
  refine (hN.out _).mono ?_
  rintro e z ⟨d, b, rfl, hd, hz, hdn, hbn⟩
  have HD := Lib.hid hd
  have HZ := Lib.hid hz
  clear hd hz
  go_wp2_with fail
  refine (hW1.out _ _ _ HD.out).mono ?_
  rintro e z1 ⟨rfl, hd1, hb1⟩
  have HD1 := Lib.hid hd1
  have HZ1 := Lib.hid (But.ext HZ.out hb1 (fun k hk => by omega))
  clear hd1 hb1
  go_wp2_with fail
  refine (hR.out _ _ _ HD1.out).mono ?_
  rintro e z2 ⟨rfl, hz2⟩
  have HD2 := Lib.hid (HD1.out.ext hz2)
  have HZ2 := Lib.hid (HZ1.out.trans hz2)
  clear hz2
  go_wp2_with fail
  refine (hW2.out _ _ _ HD2.out).mono ?_
  rintro e z3 ⟨rfl, hd3, hb3⟩
  have HZ3 := Lib.hid (But.ext HZ2.out hb3 (fun k hk => by omega))
  clear hd3 hb3
  go_wp2
  go_ret
  exact ⟨rfl, HZ3.out⟩

/-- A slice of texts among the arguments. -/
def TextsAt (w : World) (p : Option Addr) (ss : List ByteArray) : Prop :=
  ss = [] ∨ ∃ b off, p = some ⟨b, off, none⟩ ∧ b < w.heap.size ∧ ∀ i, i < ss.length → w.cell? ⟨b, off + i, none⟩ = some (.string (ss.getD i ⟨#[]⟩))

theorem put_len (l : Held) (k s : ByteArray) : (putL l k s).length ≤ l.length + 1 := by
  unfold putL
  split <;> simp
theorem put_keys {l : Held} {k s : ByteArray} : ∀ p ∈ putL l k s, p.1 = k ∨ ∃ q ∈ l, q.1 = p.1 := by
  intro p hp
  unfold putL at hp
  split at hp
  · obtain ⟨q, hq, e⟩ := List.mem_map.1 hp
    by_cases h : q.1 = k
    · rw [if_pos h] at e; left; rw [← e]
    · rw [if_neg h] at e; right; exact ⟨q, hq, by rw [← e]⟩
  · rcases List.mem_append.1 hp with h | h
    · exact .inr ⟨p, h, rfl⟩
    · simp at h; left; rw [h]

theorem rooms_guard (n : Int) (ns ls : List ByteArray) (p q : Option Addr) (cn cl : Nat) (w : World) (h : 30 < ns.length ∨ ls.length < ns.length) :
    Calls Try.prog 5 #[.int .u16 n, .slice p ns.length cn, .slice q ls.length cl] w fun e w' => e = .returned (.bool true) ∧ Ext w w' := by
  by_cases h1 : 30 < ns.length
  all_goals
    go_enter Try.func5, Try.ntmps5
    go_wp2_with fail
    refine (awakeDisk _).mono ?_
    rintro e z ⟨rfl, hz⟩
    have E1 := Lib.hid hz
    clear hz
    go_wp2_with fail
    refine (awakeDisk _).mono ?_
    rintro e z2 ⟨rfl, hz2⟩
    have E2 := Lib.hid (E1.out.trans hz2)
    clear hz2
    go_wp2
    go_ret
    exact ⟨rfl, E2.out⟩
end Go.Proofs.Ytlihjhalbemfmaa
