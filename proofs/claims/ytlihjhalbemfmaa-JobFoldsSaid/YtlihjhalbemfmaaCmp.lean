/- Contracts of the comparing functions of the library, and of the order of values. -/
import Derived.Test.YtlihjhalbemfmaaVal
import Derived.Lib.Bytealg
namespace Go.Proofs.Ytlihjhalbemfmaa
open Go.RowKit

set_option maxRecDepth 10000 in
theorem compareString (a b : ByteArray) (w : World) :
    Calls Try.prog 77 #[.string a, .string b] w fun e w' => e = .returned (.int .i64 (Lib.compareBytes a.data.toList b.data.toList)) ∧ w = w' := by
  go_enter Try.func77, Try.ntmps77
  go_wp2
  rw [run_callFunc_extern Try.func90 (by kernel_rfl) (by kernel_rfl) (by kernel_rfl) (e := Extern.BytealgCompare.compare) (by kernel_rfl), Lib.run_compareString]
  simp only [Result.andThen]
  rw [Oper.upon_value]
  go_wp2
  go_ret
  exact ⟨rfl, rfl⟩

theorem stringsCompare (a b : ByteArray) (w : World) :
    Calls Try.prog 59 #[.string a, .string b] w fun e w' => e = .returned (.int .i64 (Lib.compareBytes a.data.toList b.data.toList)) ∧ w = w' := by
  go_enter Try.func59, Try.ntmps59
  go_wp2_with (go_at_call 77; refine (compareString _ _ _).mono ?_; rintro e w' ⟨rfl, rfl⟩)
  go_ret; exact ⟨rfl, rfl⟩

/-- The first that isn't 0. -/
def firstNot : List Int → Int
  | [] => 0
  | x :: l => if x = 0 then firstNot l else x

/-- The cells of a row of integers. -/
def IntsAt (w : World) (p : Addr) (l : List Int) : Prop := ∀ i, i < l.length → w.cell? ⟨p.block, p.off + i, none⟩ = some (.int .i64 (l.getD i 0))

set_option maxHeartbeats 400000 in
theorem cmpOr (l : List Int) (b o c : Nat) (w : World) (h : IntsAt w ⟨b, o, none⟩ l) (hl : l.length ≤ 1000) :
    Calls Try.prog 57 #[.slice (some ⟨b, o, none⟩) l.length c] w fun e w' => e = .returned (.int .i64 (firstNot l)) ∧ w = w' := by
  have H := Lib.hid h; clear h
  go_enter Try.func57, Try.ntmps57
  go_wp2
  go_loop [5, 8] (fun _ i => ∃ k : Nat, k ≤ l.length ∧ i = .int .i64 k ∧ firstNot l = firstNot (l.drop k)) (fun _ i => l.length - (intOf i).toNat)
  case atStart => exact ⟨0, Nat.zero_le _, rfl, rfl⟩
  case round =>
    obtain ⟨k, hk, rfl, hf⟩ := hrel
    have HF := Lib.hid hf; clear hf
    by_cases hlt : k < l.length
    · have hc := H.out k hlt
      obtain ⟨x, hx⟩ : ∃ x, l.getD k 0 = x := ⟨_, rfl⟩
      rw [hx] at hc
      have HX : Hid (firstNot (l.drop k) = if x = 0 then firstNot (l.drop (k + 1)) else x) := by
        unfold Hid
        rw [List.drop_eq_getElem_cons hlt, firstNot]
        have e : l[k] = x := by rw [← hx]; simp [hlt]
        rw [e]
      clear hx
      by_cases hz : x = 0
      · subst hz
        go_wp2
        go_round
        case rel => exact ⟨k + 1, by omega, by go_num, by rw [HF.out, HX.out, if_pos rfl]⟩
        case measure => simp [intOf]; omega
      · have hz' : (x == 0) = false := by simpa using hz
        go_wp2
        go_ret
        exact ⟨by rw [HF.out, HX.out, if_neg hz]; rfl, rfl⟩
    · go_wp2
      go_ret
      exact ⟨by rw [HF.out, List.drop_of_length_le (by omega)]; rfl, rfl⟩

def Val.order (a b : Val) : Int :=
  firstNot [cmpI a.k b.k, cmpI a.n b.n, Lib.compareBytes a.s.data.toList b.s.data.toList, cmpI a.x b.x, cmpI a.y b.y]

set_option maxHeartbeats 1000000 in
theorem valueOrder (a b : Val) (w : World) :
    Calls Try.prog 31 #[a.v, b.v] w fun e w' => e = .returned (.int .i64 (a.order b)) ∧ Ext w w' := by
  obtain ⟨ak, an, sa, ax, ay⟩ := a
  obtain ⟨bk, bn, sb, bx, yb⟩ := b
  unfold Val.v
  go_enter Try.func31, Try.ntmps31
  go_wp2
  refine wp_region_Rt Ext Ext.refl (by kernel_rfl) ?_
  repeat ((refine Rt.takeU Ext.refl (fun _ _ _ => Ext.trans) rfl rfl (by kernel_rfl) (fun K hK => ?_); apply Exists.intro; refine ⟨fun x hx => ?_, ?_⟩; (next => have HX := Lib.hid hx; have hc := (Ext.cells hx).1; clear hx; go_simp; first | done | ((try go_ints); first | done | rfl | (first | (go_at_call 58; refine (compareI _ _ _).mono ?_; rintro e w' ⟨rfl, rfl⟩; exact ⟨rfl, Ext.refl _⟩) | (go_at_call 59; refine (stringsCompare _ _ _).mono ?_; rintro e w' ⟨rfl, rfl⟩; exact ⟨rfl, Ext.refl _⟩)))); go_simp; refine hK _ ?_; clear hK K))
  refine Rt.only rfl (by kernel_rfl) (fun x hx K hK => ?_)
  go_wp2
  refine hK _ _ ((Ext.refl _).alloc _) ?_
  clear hK K
  refine Rt.only rfl (by kernel_rfl) (fun y hy K hK => ?_)
  go_wp2_with fail
  refine (cmpOr [cmpI ak bk, cmpI an bn, Lib.compareBytes sa.data.toList sb.data.toList, cmpI ax bx, cmpI ay yb] _ _ _ _ ?_ (by simp)).mono ?_
  · intro i hi
    rw [Ext.cell hy (by simp)]
    match i, hi with
    | 0, _ => simp
    | 1, _ => simp
    | 2, _ => simp
    | 3, _ => simp
    | 4, _ => simp
  rintro e w' ⟨rfl, rfl⟩
  go_wp2_with fail
  refine hK _ _ (Ext.refl _) ?_
  clear hK K
  (refine Rt.takeU Ext.refl (fun _ _ _ => Ext.trans) rfl rfl (by kernel_rfl) (fun K hK => ?_); apply Exists.intro; refine ⟨fun x hx => ?_, ?_⟩; (next => have HX := Lib.hid hx; have hc := (Ext.cells hx).1; clear hx; go_simp; first | done | ((try go_ints); first | done | rfl | (fail))); go_simp; refine hK _ ?_; clear hK K)
  refine Rt.done (by kernel_rfl) (fun z hz => ?_)
  go_wp2
  go_ret
  refine ⟨rfl, ?_⟩
  have e1 : Ext w x := Ext.trans (by repeat (first | (with_reducible exact Ext.refl _) | (with_reducible assumption) | (with_reducible refine Ext.drewN ?_ _) | (with_reducible refine Ext.drew ?_) | (with_reducible refine Ext.alloc ?_ _) | (refine Ext.trans ?_ (by with_reducible assumption)))) hx
  have e2 : Ext x y := Ext.trans ((Ext.refl _).alloc _) hy
  exact (e1.trans e2).trans hz

end Go.Proofs.Ytlihjhalbemfmaa
