/- What was sealed is opened. -/
import Derived.Test.YtlihjhalbemfmaaCrcMore
namespace Go.Proofs.Ytlihjhalbemfmaa
open Go.RowKit

theorem crcOpen_sealed (s : ByteArray) (w : World) (hl : s.size ≤ 1000000000) : Calls Try.prog 41 #[.string (sealed s)] w fun e w' => e = .returned (.tuple #[.string s, .int .i64 0]) ∧ Ext w w' := by
  have h1 : (sealed s).size = s.size + 4 := by rw [sealed, ByteArray.size_append, crcBytes_size]
  have h2 : (sealed s).extract 0 s.size = s := ByteArray.extract_append_eq_left rfl
  have h3 : (sealed s).extract s.size (s.size + 4) = crcBytes (crcSum s) := ByteArray.extract_append_eq_right rfl (by rw [crcBytes_size])
  have h4 : (s.size : Int) ≤ (s.size : Int) + 4 := by omega
  have HS := Lib.hid (fun w => Sum_any s w (by omega))
  have HB := Lib.hid (fun w => bytes_any (crcSum s) w (crcSum_bounds s).1 (crcSum_bounds s).2)
  generalize sealed s = t at *
  go_enter Try.func41, Try.ntmps41
  go_wp2
  refine wp_region_Rt Ext Ext.refl (by kernel_rfl) ?_
  repeat (refine Rt.takeU Ext.refl (fun _ _ _ => Ext.trans) rfl rfl (by kernel_rfl) (fun K hK => ?_); apply Exists.intro; refine ⟨fun x hx => ?_, ?_⟩; (next => have HX := Lib.hid hx; have hc := (Ext.cells hx).1; clear hx; go_simp; first | done | ((try go_ints); first | done | rfl | ((first | (go_at_call 64; refine (HS.out _).mono ?_; rintro e w' ⟨rfl, he⟩; exact ⟨rfl, he⟩) | (go_at_call 63; refine (HB.out _).mono ?_; rintro e w' ⟨rfl, he⟩; exact ⟨rfl, he⟩))))); go_simp; refine hK _ ?_; clear hK K)
  refine Rt.done (by kernel_rfl) (fun z hz => ?_)
  have E1 : Ext w z := Ext.trans (by repeat (first | (with_reducible exact Ext.refl _) | (with_reducible assumption) | (with_reducible refine Ext.drewN ?_ _) | (with_reducible refine Ext.drew ?_) | (with_reducible refine Ext.alloc ?_ _) | (refine Ext.trans ?_ (by with_reducible assumption)))) hz
  go_wp2
  refine bodyPost_ret (v := .tuple #[.string s, .int .i64 0]) (by simp only [results, Try.results41]; go_simp) rfl ⟨rfl, E1⟩

end Go.Proofs.Ytlihjhalbemfmaa
