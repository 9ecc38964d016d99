/- A call is done on a disk. -/
import Derived.Test.YtlihjhalbemfmaaSpoil
namespace Go.Proofs.Ytlihjhalbemfmaa
open Go.RowKit

theorem spoil_none (d b : Nat) (size : Int) (l : Held) (k : ByteArray) (spot byI : Int) (w : World) (h : DiskAt w d b size l) (hg : getL l k = none) :
    Calls Try.prog 50 #[.pointer (some ⟨d, 0, none⟩), .string k, .int .i64 spot, .int .u8 byI] w fun e w' => e = .returned (.bool false) ∧ w = w' := by
  have hR := Lib.hid (read_any d b size l k w h)
  unfold readOf at hR
  rw [hg] at hR
  clear h hg
  go_enter Try.func50, Try.ntmps50
  go_wp2_with fail
  refine hR.out.mono ?_
  rintro e z' ⟨rfl, rfl⟩
  go_wp2
  go_ret
  exact ⟨rfl, rfl⟩
theorem spoil_not (d b : Nat) (size : Int) (l : Held) (k s : ByteArray) (spot byI : Int) (w : World) (h : DiskAt w d b size l) (hg : getL l k = some s) (hn : s.size = 0 ∨ byI = 0) :
    Calls Try.prog 50 #[.pointer (some ⟨d, 0, none⟩), .string k, .int .i64 spot, .int .u8 byI] w fun e w' => e = .returned (.bool false) ∧ w = w' := by
  have hR := Lib.hid (read_any d b size l k w h)
  unfold readOf at hR
  rw [hg] at hR
  clear h hg
  by_cases hs : s.size = 0
  · obtain rfl : s = ByteArray.empty := by
      apply ByteArray.ext; exact Array.eq_empty_of_size_eq_zero hs
    clear hn hs
    go_enter Try.func50, Try.ntmps50
    go_wp2_with fail
    refine hR.out.mono ?_
    rintro e z' ⟨rfl, rfl⟩
    go_wp2
    go_ret
    exact ⟨rfl, rfl⟩
  · obtain rfl : byI = 0 := by omega
    obtain ⟨hne0, hne1⟩ := str_ne (t := s) (by omega)
    clear hn hs
    go_enter Try.func50, Try.ntmps50
    go_wp2_with fail
    refine hR.out.mono ?_
    rintro e z' ⟨rfl, rfl⟩
    go_wp2
    go_ret
    exact ⟨rfl, rfl⟩

/-- What a call answers, and leaves: the text, the number, the names. -/
def actOf (size : Int) (l : Held) (c : Call) : ByteArray × Int × Held :=
  if c.kind % 8 = 4 then (match getL l c.name with | some s => (s, 0, l) | none => (⟨#[]⟩, 8, l))
  else if c.kind % 8 = 5 then (⟨#[]⟩, delE l c.name, dropAt l c.name)
  else if c.kind % 8 = 6 then (match getL l c.name with | some s => if s.size = 0 ∨ c.by' = 0 then (⟨#[]⟩, 0, l) else (⟨#[]⟩, 1, putL l c.name (spoil s c.spot c.by')) | none => (⟨#[]⟩, 0, l))
  else if c.kind % 8 = 7 then (⟨#[]⟩, l.length, [])
  else (⟨#[]⟩, writeE size l c.name c.s, writeL size l c.name c.s)

theorem done_any (d b : Nat) (size : Int) (l : Held) (c : Call) (w : World) (h : DiskAt w d b size l) (hk : 0 ≤ c.kind) (hs : c.s.size ≤ 100000000) :
    Calls Try.prog 24 #[.pointer (some ⟨d, 0, none⟩), c.v] w fun e w' => e = .returned (.tuple #[.string (actOf size l c).1, .int .i64 (actOf size l c).2.1]) ∧ DiskAt w' d b size (actOf size l c).2.2 ∧ But (· = b) w w' := by
  obtain ⟨kind, nm, s, spot, byI⟩ := c
  unfold Call.v
  simp only at *
  have h5 : (used l : Int) ≤ 4194304 := by have := h.fits; have := h.hi; omega
  have H := Lib.hid h
  clear h
  by_cases k4 : kind % 8 = 4
  · have ha : actOf size l ⟨kind, nm, s, spot, byI⟩ = (match getL l nm with | some s => (s, 0, l) | none => (⟨#[]⟩, 8, l)) := by unfold actOf; rw [if_pos k4]
    rw [ha]
    have hR := Lib.hid (fun w h => read_any d b size l nm w h)
    unfold readOf at hR
    clear ha
    cases hg : getL l nm with
    | none =>
      rw [hg] at hR
      clear hg
      go_enter Try.func24, Try.ntmps24
      go_wp2_with fail
      refine (hR.out _ (H.out.ext (by repeat (first | (with_reducible exact Ext.refl _) | (with_reducible assumption) | (with_reducible refine Ext.drewN ?_ _) | (with_reducible refine Ext.drew ?_) | (with_reducible refine Ext.alloc ?_ _) | (refine Ext.trans ?_ (by with_reducible assumption)))))).mono ?_
      rintro e z ⟨rfl, rfl⟩
      have HD := Lib.hid (H.out.ext (Ext.alloc (Ext.refl w) (.cells #[.int .u8 kind, .string nm, .string s, .int .i64 spot, .int .u8 byI] 62)))
      go_wp2
      exact bodyPost_ret (v := .tuple #[.string ⟨#[]⟩, .int .i64 8]) (by simp only [results, Try.results24]; go_simp) rfl ⟨rfl, HD.out, But.of_ext (by repeat (first | (with_reducible exact Ext.refl _) | (with_reducible assumption) | (with_reducible refine Ext.drewN ?_ _) | (with_reducible refine Ext.drew ?_) | (with_reducible refine Ext.alloc ?_ _) | (refine Ext.trans ?_ (by with_reducible assumption))))⟩
    | some o =>
      rw [hg] at hR
      clear hg
      go_enter Try.func24, Try.ntmps24
      go_wp2_with fail
      refine (hR.out _ (H.out.ext (by repeat (first | (with_reducible exact Ext.refl _) | (with_reducible assumption) | (with_reducible refine Ext.drewN ?_ _) | (with_reducible refine Ext.drew ?_) | (with_reducible refine Ext.alloc ?_ _) | (refine Ext.trans ?_ (by with_reducible assumption)))))).mono ?_
      rintro e z ⟨rfl, rfl⟩
      have HD := Lib.hid (H.out.ext (Ext.alloc (Ext.refl w) (.cells #[.int .u8 kind, .string nm, .string s, .int .i64 spot, .int .u8 byI] 62)))
      go_wp2
      exact bodyPost_ret (v := .tuple #[.string o, .int .i64 0]) (by simp only [results, Try.results24]; go_simp) rfl ⟨rfl, HD.out, But.of_ext (by repeat (first | (with_reducible exact Ext.refl _) | (with_reducible assumption) | (with_reducible refine Ext.drewN ?_ _) | (with_reducible refine Ext.drew ?_) | (with_reducible refine Ext.alloc ?_ _) | (refine Ext.trans ?_ (by with_reducible assumption))))⟩
  by_cases k5 : kind % 8 = 5
  · have ha : actOf size l ⟨kind, nm, s, spot, byI⟩ = (⟨#[]⟩, delE l nm, dropAt l nm) := by unfold actOf; rw [if_neg k4, if_pos k5]
    rw [ha]
    simp only
    have hR := Lib.hid (fun w h => delete_any d b size l nm w h)
    generalize delE l nm = de at *
    clear ha
    go_enter Try.func24, Try.ntmps24
    go_wp2_with fail
    refine (hR.out _ (H.out.ext (by repeat (first | (with_reducible exact Ext.refl _) | (with_reducible assumption) | (with_reducible refine Ext.drewN ?_ _) | (with_reducible refine Ext.drew ?_) | (with_reducible refine Ext.alloc ?_ _) | (refine Ext.trans ?_ (by with_reducible assumption)))))).mono ?_
    rintro e z ⟨rfl, hd, hb⟩
    have HD := Lib.hid hd
    have HB := Lib.hid ((But.of_ext (Ext.alloc (Ext.refl w) _)).trans hb)
    clear hd hb
    go_wp2
    exact bodyPost_ret (v := .tuple #[.string ⟨#[]⟩, .int .i64 de]) (by simp only [results, Try.results24]; go_simp) rfl ⟨rfl, HD.out, HB.out⟩
  by_cases k6 : kind % 8 = 6
  · have ha : actOf size l ⟨kind, nm, s, spot, byI⟩ = (match getL l nm with | some s => if s.size = 0 ∨ byI = 0 then (⟨#[]⟩, 0, l) else (⟨#[]⟩, 1, putL l nm (spoil s spot byI)) | none => (⟨#[]⟩, 0, l)) := by unfold actOf; rw [if_neg k4, if_neg k5, if_pos k6]
    rw [ha]
    clear ha
    have no : (∀ w, DiskAt w d b size l → Calls Try.prog 50 #[.pointer (some ⟨d, 0, none⟩), .string nm, .int .i64 spot, .int .u8 byI] w fun e w' => e = .returned (.bool false) ∧ w = w') →
        Calls Try.prog 24 #[.pointer (some ⟨d, 0, none⟩), .agg #[.int .u8 kind, .string nm, .string s, .int .i64 spot, .int .u8 byI]] w fun e w' => e = .returned (.tuple #[.string ⟨#[]⟩, .int .i64 0]) ∧ DiskAt w' d b size l ∧ But (· = b) w w' := by
      intro hR0
      have hR := Lib.hid hR0
      clear hR0
      go_enter Try.func24, Try.ntmps24
      go_wp2_with fail
      refine (hR.out _ (H.out.ext (by repeat (first | (with_reducible exact Ext.refl _) | (with_reducible assumption) | (with_reducible refine Ext.drewN ?_ _) | (with_reducible refine Ext.drew ?_) | (with_reducible refine Ext.alloc ?_ _) | (refine Ext.trans ?_ (by with_reducible assumption)))))).mono ?_
      rintro e z ⟨rfl, rfl⟩
      have HD := Lib.hid (H.out.ext (Ext.alloc (Ext.refl w) (.cells #[.int .u8 kind, .string nm, .string s, .int .i64 spot, .int .u8 byI] 62)))
      go_wp2
      exact bodyPost_ret (v := .tuple #[.string ⟨#[]⟩, .int .i64 0]) (by simp only [results, Try.results24]; go_simp) rfl ⟨rfl, HD.out, But.of_ext (by repeat (first | (with_reducible exact Ext.refl _) | (with_reducible assumption) | (with_reducible refine Ext.drewN ?_ _) | (with_reducible refine Ext.drew ?_) | (with_reducible refine Ext.alloc ?_ _) | (refine Ext.trans ?_ (by with_reducible assumption))))⟩
    cases hg : getL l nm with
    | none => exact no fun w h => spoil_none d b size l nm spot byI w h hg
    | some o =>
      by_cases hn : o.size = 0 ∨ byI = 0
      · simp only [if_pos hn]
        exact no fun w h => spoil_not d b size l nm o spot byI w h hg hn
      · simp only [if_neg hn]
        have hos : o.size ≤ 1000000000 := by have : nm.size + o.size + 16 ≤ used l := used_mem (get_mem hg); omega
        have hR := Lib.hid (fun w h => spoil_yes d b size l nm o spot byI w h hg (by omega) hos (by omega))
        clear hn hg hos no
        go_enter Try.func24, Try.ntmps24
        go_wp2_with fail
        refine (hR.out _ (H.out.ext (by repeat (first | (with_reducible exact Ext.refl _) | (with_reducible assumption) | (with_reducible refine Ext.drewN ?_ _) | (with_reducible refine Ext.drew ?_) | (with_reducible refine Ext.alloc ?_ _) | (refine Ext.trans ?_ (by with_reducible assumption)))))).mono ?_
        rintro e z ⟨rfl, hd, hb⟩
        have HD := Lib.hid hd
        have HB := Lib.hid ((But.of_ext (Ext.alloc (Ext.refl w) _)).trans hb)
        clear hd hb
        go_wp2
        exact bodyPost_ret (v := .tuple #[.string ⟨#[]⟩, .int .i64 1]) (by simp only [results, Try.results24]; go_simp) rfl ⟨rfl, HD.out, HB.out⟩
  by_cases k7 : kind % 8 = 7
  · have ha : actOf size l ⟨kind, nm, s, spot, byI⟩ = (⟨#[]⟩, (l.length : Int), []) := by unfold actOf; rw [if_neg k4, if_neg k5, if_neg k6, if_pos k7]
    rw [ha]
    simp only
    have hR := Lib.hid (fun w h => lose_any d b size l w h)
    generalize (l.length : Int) = de at *
    clear ha
    go_enter Try.func24, Try.ntmps24
    go_wp2_with fail
    refine (hR.out _ (H.out.ext (by repeat (first | (with_reducible exact Ext.refl _) | (with_reducible assumption) | (with_reducible refine Ext.drewN ?_ _) | (with_reducible refine Ext.drew ?_) | (with_reducible refine Ext.alloc ?_ _) | (refine Ext.trans ?_ (by with_reducible assumption)))))).mono ?_
    rintro e z ⟨rfl, hd, hb⟩
    have HD := Lib.hid hd
    have HB := Lib.hid ((But.of_ext (Ext.alloc (Ext.refl w) _)).trans hb)
    clear hd hb
    go_wp2
    exact bodyPost_ret (v := .tuple #[.string ⟨#[]⟩, .int .i64 de]) (by simp only [results, Try.results24]; go_simp) rfl ⟨rfl, HD.out, HB.out⟩
  · have ha : actOf size l ⟨kind, nm, s, spot, byI⟩ = (⟨#[]⟩, writeE size l nm s, writeL size l nm s) := by unfold actOf; rw [if_neg k4, if_neg k5, if_neg k6, if_neg k7]
    rw [ha]
    simp only
    have hR := Lib.hid (fun w h => write_any d b size l nm s w h hs)
    generalize writeE size l nm s = de at *
    have q4 : (kind % 8 == 4) = false := by simpa using k4
    have q5 : (kind % 8 == 5) = false := by simpa using k5
    have q6 : (kind % 8 == 6) = false := by simpa using k6
    have q7 : (kind % 8 == 7) = false := by simpa using k7
    clear ha
    go_enter Try.func24, Try.ntmps24
    go_wp2_with fail
    refine (hR.out _ (H.out.ext (by repeat (first | (with_reducible exact Ext.refl _) | (with_reducible assumption) | (with_reducible refine Ext.drewN ?_ _) | (with_reducible refine Ext.drew ?_) | (with_reducible refine Ext.alloc ?_ _) | (refine Ext.trans ?_ (by with_reducible assumption)))))).mono ?_
    rintro e z ⟨rfl, hd, hb⟩
    have HD := Lib.hid hd
    have HB := Lib.hid ((But.of_ext (Ext.alloc (Ext.refl w) _)).trans hb)
    clear hd hb
    go_wp2
    exact bodyPost_ret (v := .tuple #[.string ⟨#[]⟩, .int .i64 de]) (by simp only [results, Try.results24]; go_simp) rfl ⟨rfl, HD.out, HB.out⟩
end Go.Proofs.Ytlihjhalbemfmaa
