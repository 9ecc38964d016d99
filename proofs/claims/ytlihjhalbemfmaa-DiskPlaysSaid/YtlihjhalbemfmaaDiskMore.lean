/- A disk loses all; one byte is spoilt; two lists of texts are compared. -/
import Derived.Test.YtlihjhalbemfmaaRefOut
namespace Go.Proofs.Ytlihjhalbemfmaa
open Go.RowKit

theorem strs_texts {w : World} {base : Nat} {v : Value} {ss : List ByteArray} (h : StrsAt w base v ss) : ∃ p c, v = .slice p ss.length c ∧ TextsAt w p ss := by
  rcases h with ⟨h1, h2⟩ | ⟨g, cap, h1, _, h3, h4⟩
  · exact ⟨none, 0, by rw [h1, h2]; rfl, .inl h2⟩
  · exact ⟨_, cap, h1, .inr ⟨g, 0, rfl, h3, fun i hi => by rw [Nat.zero_add]; exact h4 i hi⟩⟩

set_option maxRecDepth 30000 in
theorem same_true (ss : List ByteArray) (p q : Option Addr) (cp cq : Nat) (w : World) (hl : ss.length ≤ 1000000) (hP : TextsAt w p ss) (hQ : TextsAt w q ss) :
    Calls Try.prog 27 #[.slice p ss.length cp, .slice q ss.length cq] w fun e w' => e = .returned (.bool true) ∧ Ext w w' := by
  have HP := Lib.hid hP
  have HQ := Lib.hid hQ
  clear hP hQ
  go_enter Try.func27, Try.ntmps27
  go_wp2_with fail
  go_loopw [5] (fun i wr => ∃ j : Nat, j ≤ ss.length ∧ i = .int .i64 j ∧ Ext w wr) (fun i _ => ss.length - (intOf i).toNat)
  case atStart => exact ⟨0, Nat.zero_le _, rfl, Ext.refl _⟩
  case round =>
    obtain ⟨j, hj, rfl, hx⟩ := hrel
    have HX := Lib.hid hx
    clear hx
    by_cases hlt : j < ss.length
    · rcases HP.out with h | ⟨b, off, rfl, hb, hcell⟩
      · rw [h] at hlt; simp at hlt
      rcases HQ.out with h | ⟨b2, off2, rfl, hb2, hcell2⟩
      · rw [h] at hlt; simp at hlt
      have hcl : wr.cell? ⟨b, off + j, none⟩ = some (.string (ss.getD j ⟨#[]⟩)) := by rw [HX.out.cellAt hb]; exact hcell j hlt
      have hcl2 : wr.cell? ⟨b2, off2 + j, none⟩ = some (.string (ss.getD j ⟨#[]⟩)) := by rw [HX.out.cellAt hb2]; exact hcell2 j hlt
      have hbw : b < wr.heap.size := by have := HX.out.size; omega
      have hbw2 : b2 < wr.heap.size := by have := HX.out.size; omega
      clear hcell hcell2
      generalize ss.getD j ⟨#[]⟩ = nm at *
      go_wp2_with fail
      refine wp_region_Rt Ext Ext.refl (by kernel_rfl) ?_
      repeat (refine Rt.takeU Ext.refl (fun _ _ _ => Ext.trans) rfl rfl (by kernel_rfl) (fun K hK => ?_); apply Exists.intro; refine ⟨fun x hx => ?_, ?_⟩; (next => have HX := Lib.hid hx; have hc0 := Ext.cellAt hx (b := b) (by first | omega | (simp; done) | (simp; omega)); have hc1 := Ext.cellAt hx (b := b2) (by first | omega | (simp; done) | (simp; omega)); clear hx; go_simp; first | done | ((try go_ints); first | done | rfl | (fail))); go_simp; refine hK _ ?_; clear hK K)
      refine Rt.done (by kernel_rfl) (fun z hz => ?_)
      have HZ := Lib.hid (Ext.trans (by repeat (first | (with_reducible exact HX.out) | (with_reducible refine Ext.drewN ?_ _) | (with_reducible refine Ext.drew ?_) | (with_reducible refine Ext.setCell ?_ (by first | omega | (simp; done) | (simp; omega)) _) | (with_reducible refine Ext.alloc ?_ _))) hz : Ext w z)
      clear hz
      go_wp2
      go_roundw
      case rel => exact ⟨j + 1, by omega, by go_num, HZ.out⟩
      case measure => simp [intOf]; omega
    · go_wp2
      go_ret
      exact ⟨rfl, HX.out⟩

section
open Go.MapKept
variable {α : Type} {K : KeyKind α} {P : Program} {w : World} {b : Nat} {l : List (α × Value)} {ops : Array Oper} {rest : List Oper} {o : Oper} {a : Act} {Q : Exit → Act → World → Prop}
/-- 'clear(m)'. -/
theorem MapAt.clear {t kt e ty : TypeId} (h : MapAt K w b l) (ht : P.underlying t = some (.map kt e)) :
    ∃ w', (Builtin.clear_ #[t] ty #[.map (some b)]).run P w = .ok (.tuple #[]) w' ∧ MapAt K w' b [] ∧ But (· = b) w w' ∧ w'.heap.size = w.heap.size := by
  obtain ⟨es, clock, hb, hs, he⟩ := h
  exact ⟨_, by simp [Builtin.clear_, run_underlying ht, MapKept.run_getObj_map hb, MapKept.run_setObj_map _ hb, Result.andThen], ⟨#[], clock, (heap_set hb).1, stamped_empty _, rfl⟩, But.setMap hb _, by simp⟩
/-- 'len(m)'. -/
theorem MapAt.len {t kt e ty : TypeId} (h : MapAt K w b l) (ht : P.underlying t = some (.map kt e)) : (Builtin.len_ #[t] ty #[.map (some b)]).run P w = .ok (.int .i64 l.length) w := by
  obtain ⟨es, clock, hb, hs, he⟩ := h
  have : es.size = l.length := by have := congrArg List.length he; simpa using this
  simp [Builtin.len_, run_underlying ht, MapKept.run_getObj_map hb, Result.andThen, this, goInt]

theorem wpList_clear_at (hg : o.guard = none) (m : Operand) (t kt e : TypeId) (hop : o.op = Op.call { callee := Callee.builtin Builtin.clear, args := #[m], argTypes := #[t] }) (ht : P.underlying t = some (.map kt e))
    (hm : a.eval m = .map (some b)) (h : MapAt K w b l)
    (hK : ∀ w', MapAt K w' b [] → But (· = b) w w' → w'.heap.size = w.heap.size → wpList P ops Q rest (a.put o.dst (.tuple #[])) w') :
    wpList P ops Q (o :: rest) a w := by
  refine wpList_plain hg fun K' hK' => ?_
  obtain ⟨w', hrun, r1, r2, r3⟩ := h.clear (P := P) (ty := o.type) ht
  unfold Oper.wp
  simp [execOp, hop, resolve, invoke, builtin, hm, hrun, Result.andThen]
  exact hK' _ _ (hK w' r1 r2 r3)
theorem wpList_len_at (hg : o.guard = none) (m : Operand) (t kt e : TypeId) (hop : o.op = Op.call { callee := Callee.builtin Builtin.len, args := #[m], argTypes := #[t] }) (ht : P.underlying t = some (.map kt e))
    (hm : a.eval m = .map (some b)) (h : MapAt K w b l)
    (hK : wpList P ops Q rest (a.put o.dst (.int .i64 l.length)) w) :
    wpList P ops Q (o :: rest) a w := by
  refine wpList_plain hg fun K' hK' => ?_
  have hrun := h.len (P := P) (ty := o.type) ht
  unfold Oper.wp
  simp [execOp, hop, resolve, invoke, builtin, hm, hrun, Result.andThen]
  exact hK' _ _ hK
end

set_option maxRecDepth 30000 in
theorem lose_any (d b : Nat) (size : Int) (l : Held) (w : World) (h : DiskAt w d b size l) :
    Calls Try.prog 51 #[.pointer (some ⟨d, 0, none⟩)] w fun e w' => e = .returned (.int .i64 l.length) ∧ DiskAt w' d b size [] ∧ But (· = b) w w' := by
  have H := Lib.hid h
  have hc1 := h.c1
  have hlt := h.lt
  have hvl : (vals l).length = l.length := by simp [vals]
  have hlen : (Builtin.len_ #[87] 3 #[.map (some b)]).run Try.prog w = .ok (.int .i64 l.length) w := by
    have := MapAt.len (P := Try.prog) (ty := 3) h.map Try.underlying87
    rw [hvl] at this; exact this
  clear h hvl
  go_enter Try.func51, Try.ntmps51
  go_wp2_with (first | (refine wpList_clear_at (K := strKey) rfl (.tmp 14) 87 9 9 rfl Try.underlying87 rfl H.out.map ?_; intro w3 hm3 hb3 hs3))
  go_ret
  refine ⟨rfl, H.out.turned hb3 hm3 ?_, hb3⟩
  have := H.out.lo
  simp [used]; omega
end Go.Proofs.Ytlihjhalbemfmaa
