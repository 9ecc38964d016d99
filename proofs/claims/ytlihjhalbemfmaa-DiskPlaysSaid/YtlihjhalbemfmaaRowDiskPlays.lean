/- The law DiskPlays is proved for every size and every list of acts: it answers true, and its arguments read as they did. No condition. -/
import Derived.Test.YtlihjhalbemfmaaRows
import Derived.Test.YtlihjhalbemfmaaLawPlays
import Derived.WalkKit
import Derived.ProofKit
import Derived.OpenShut
import Derived.ShutString
import Derived.ChangeOld
import Derived.Below
import Derived.SizedLaws
import Derived.SliceStrings
namespace Go.Proofs.Ytlihjhalbemfmaa
open Go.ChangeShapes Go.WideShapes Go.ChangeAt Go.RowKit
open Go.ChangeMaps (open_string shut_string)

theorem own : ownKnob Try.prog.godebug = none := by kernel_rfl
theorem laidOut : laidOutB Try.prog = true := by kernel_rfl

theorem diskPlays (n : Int) (l : List Call) (p : Option Addr) (c : Nat) (w : World) (hl : l.length ≤ 9223372036854775807) (hL : CallsAt w p l) (hks : ∀ i, i < l.length → 0 ≤ (l.getD i default).kind) :
    Calls Try.prog 6 #[.int .i64 n, .slice p l.length c] w fun e w' => e = .returned (.bool true) ∧ Ext w w' := by
  cases hf : (decide (l.length ≤ 100) && decide (weights (l.take 101) ≤ 20000))
  · exact plays_few n l p c w hl hL hf
  · by_cases hn : n < 0 ∨ 4194304 < n
    · exact plays_size n l p c w hl hL hf hn
    · have h := hf
      simp only [Bool.and_eq_true, decide_eq_true_eq] at h
      exact plays_run n l p c w h.1 hL h.2 (by omega) (by omega) hks

theorem cells_act : Try.prog.cellsOf 62 = 5 := by kernel_rfl

set_option maxRecDepth 100000 in
theorem open_act {H : Type} {enc : TypeId × Value → H} {W : World} {base : Nat} {spare : Nat → Bool} {held : Bool} {fuel : Nat} {cs : List Value} {x : DataW H × List MemPlace}
    (h : DataW.trod enc Try.prog W base spare held fuel 62 cs = some x) : ∃ c : Call, cs = [.int .u8 c.kind, .string c.name, .string c.s, .int .i64 c.spot, .int .u8 c.by'] ∧ 0 ≤ c.kind := by
  obtain ⟨xs, n, _, hx, hcl, hlen, hg⟩ := DataW.trod_struct Try.underlying62 h
  rw [cells_act] at hcl
  have g0 := hg 0 _ rfl
  have g1 := hg 1 _ rfl
  have g2 := hg 2 _ rfl
  have g3 := hg 3 _ rfl
  have g4 := hg 4 _ rfl
  match cs, hcl, xs, hlen with
  | [c0, c1, c2, c3, c4], _, [y0, y1, y2, y3, y4], _ =>
    simp only [List.getElem?_cons_zero, List.getElem?_cons_succ] at g0 g1 g2 g3 g4
    obtain ⟨k0, e0, _, w0⟩ := DataW.trod_int Try.underlying5 g0
    obtain ⟨k1, e1, _, _⟩ := DataW.trod_string Try.underlying9 g1
    obtain ⟨k2, e2, _, _⟩ := DataW.trod_string Try.underlying9 g2
    obtain ⟨k3, e3, _, _⟩ := DataW.trod_int Try.underlying3 g3
    obtain ⟨k4, e4, _, _⟩ := DataW.trod_int Try.underlying5 g4
    injection e0 with e0
    injection e1 with e1
    injection e2 with e2
    injection e3 with e3
    injection e4 with e4
    subst e0 e1 e2 e3 e4
    refine ⟨⟨k0, k1, k2, k3, k4⟩, rfl, ?_⟩
    simp only [Lit.wf, Bool.and_eq_true, decide_eq_true_eq, IntKind.min] at w0
    simpa [IntKind.signed] using w0.1

/-- The act read at a place. -/
noncomputable def actsOf (W : World) (b off i : Nat) : Call :=
  ⟨(match W.cell? ⟨b, off + i * 5, none⟩ with | some (.int _ k) => k | _ => 0), (match W.cell? ⟨b, off + i * 5 + 1, none⟩ with | some (.string k) => k | _ => ⟨#[]⟩), (match W.cell? ⟨b, off + i * 5 + 2, none⟩ with | some (.string k) => k | _ => ⟨#[]⟩),
    (match W.cell? ⟨b, off + i * 5 + 3, none⟩ with | some (.int _ k) => k | _ => 0), (match W.cell? ⟨b, off + i * 5 + 4, none⟩ with | some (.int _ k) => k | _ => 0)⟩

set_option maxRecDepth 100000 in
theorem open_acts {H : Type} {enc : TypeId × Value → H} {W : World} {spare : Nat → Bool} {held : Bool} {r : Reach} {b0 base : Nat} {v : Value} {d : DataW H} {ps : List MemPlace}
    (hv : Value.okWide Try.prog W r b0 55 v) (h : DataW.Trod enc Try.prog W base spare held 55 v d ps) :
    ∃ (p : Option Addr) (l : List Call) (c : Nat), v = .slice p l.length c ∧ CallsAt W p l ∧ l.length ≤ 9223372036854775807 ∧ ∀ i, i < l.length → 0 ≤ (l.getD i default).kind := by
  obtain ⟨p, len, cap, rfl⟩ := okWide_slice Try.underlying55 hv
  obtain ⟨fuel, hf⟩ := h
  rcases DataW.trod_slice Try.underlying55 hf with ⟨hcs, _⟩ | ⟨a, len', cap', elems, rest, n, _, hcs, _, _, hlc, hm, hlen, hel, _, _⟩
  · simp [Value.cells] at hcs
    obtain ⟨rfl, rfl, rfl⟩ := hcs
    exact ⟨none, [], 0, rfl, .inl rfl, by simp, by simp⟩
  · simp [Value.cells] at hcs
    obtain ⟨rfl, rfl, rfl⟩ := hcs
    unfold maxLen at hm
    by_cases hz : len = 0
    · exact ⟨some a, [], cap, by rw [hz]; rfl, .inl rfl, by simp, by simp⟩
    obtain ⟨b, off, spot⟩ := a
    have hz0 := hel 0 (by omega)
    rw [List.getElem?_eq_getElem (by omega), Option.bind_eq_some_iff] at hz0
    obtain ⟨cs0, hcs0, _⟩ := hz0
    rw [cells_act] at hcs0
    obtain ⟨_, hl0, hcell0⟩ := World.cells?_some hcs0
    have hc0 := hcell0 0 (by omega)
    rw [List.getElem?_eq_getElem (by omega)] at hc0
    have hspot : spot = none := by simpa [Addr.add] using World.cell?_spot hc0
    subst hspot
    have hb : b < W.heap.size := by
      rcases Nat.lt_or_ge b W.heap.size with h | h
      · exact h
      · simp [World.cell?, Addr.add, Array.getElem?_eq_none h] at hc0
    have each : ∀ i, i < len → CallAt W b (off + i * 5) (actsOf W b off i) ∧ 0 ≤ (actsOf W b off i).kind := by
      intro i hi
      have he := hel i hi
      rw [List.getElem?_eq_getElem (by omega), Option.bind_eq_some_iff] at he
      obtain ⟨cs, hcs, hy⟩ := he
      rw [cells_act] at hcs
      obtain ⟨c, rfl, hk⟩ := open_act hy
      obtain ⟨_, _, hcell⟩ := World.cells?_some hcs
      have k0 := hcell 0 (by omega)
      have k1 := hcell 1 (by omega)
      have k2 := hcell 2 (by omega)
      have k3 := hcell 3 (by omega)
      have k4 := hcell 4 (by omega)
      simp only [add_plain, Nat.add_zero, List.getElem?_cons_zero, List.getElem?_cons_succ] at k0 k1 k2 k3 k4
      have e : actsOf W b off i = c := by
        unfold actsOf
        rw [k0, k1, k2, k3, k4]
      rw [e]
      exact ⟨⟨k0, k1, k2, k3, k4⟩, hk⟩
    refine ⟨some ⟨b, off, none⟩, (List.range len).map (actsOf W b off), cap, by simp, ?_, by simp; omega, ?_⟩
    · refine .inr ⟨b, off, rfl, hb, fun i hi => ?_⟩
      simp only [List.length_map, List.length_range] at hi
      have e : ((List.range len).map (actsOf W b off)).getD i default = actsOf W b off i := by simp [List.getD_eq_getElem?_getD, hi]
      rw [e]
      exact (each i hi).1
    · intro i hi
      simp only [List.length_map, List.length_range] at hi
      have e : ((List.range len).map (actsOf W b off)).getD i default = actsOf W b off i := by simp [List.getD_eq_getElem?_getD, hi]
      rw [e]
      exact (each i hi).2

set_option maxRecDepth 100000 in
theorem lifted (os : Os) (started : os.Started) (H : Type) (enc : TypeId × Value → H) :
    ReturnsInHanded {} Try.checked os 6 .any (Rows.diskPlaysSpec.pre6 enc Try.prog Try.f6 Rows.diskPlaysRow.domain false) (Rows.diskPlaysSpec.post enc Try.prog Try.f6 false true false false) := by
  refine returnsInHanded_of_change_sized (C := Try.checked) own started (by kernel_rfl) Try.func6
    (ChangeSpec.witness6 (enc := enc) (C := Try.checked) false ⟨#[], #[.int .i64 0, .slice none 0 0], []⟩ 8 (by kernel_rfl) (by kernel_rfl) (by kernel_rfl) (by kernel_rfl)) ?_
  intro W base args ds gs before hval0 hW hcnd hsz0 _
  have hval : ∀ (j : Nat) t v, Try.f6.params[j]? = some t → args[j]? = some v → Value.okWide Try.prog W .any base t v := hval0
  have hW' := hW
  obtain ⟨p, q, hA0, hV, rfl, hfz, hnd⟩ := hW
  have hA : DataW.TrodAll enc Try.prog W 0 (fun _ => true) true Try.f6.params.toList args.toList ds p := hA0
  rw [Try.params6] at hA hval
  obtain ⟨v0, vs0, d0, ds0, p0, q0, hargs, rfl, rfl, h0, r0⟩ := trodAll_cons hA
  obtain ⟨v1, vs1, d1, ds1, p1, q1, rfl, rfl, rfl, h1, r1⟩ := trodAll_cons r0
  obtain ⟨rfl, rfl, rfl⟩ := trodAll_nil r1
  obtain rfl : args = #[v0, v1] := by cases args; simp_all
  obtain ⟨rfl, rfl⟩ := trodVars_none hV
  obtain ⟨n, rfl, rfl, rfl, wn⟩ := open_int Try.underlying3 (hval 0 3 v0 rfl rfl) h0
  have lt1 : ∀ x ∈ p1, x.block < W.heap.size := by obtain ⟨m, hm⟩ := h1; exact DataW.trod_lt m _ _ _ hm
  obtain ⟨pn, l, cn, rfl, hL, hl, hks⟩ := open_acts (hval 1 55 v1 rfl rfl) h1
  clear hA0 hval0 hsz0
  refine (diskPlays n l pn cn W hl hL hks).mono fun e W' ⟨he, ext⟩ => ?_
  have bel : Below W.heap.size W W' := ext
  subst he
  exact ⟨_, rfl, _, _, _, [], _, [], hW', trodAll_mk1 (shut_bool Try.underlying4 _),
    (trodAll_cons_mk (shut_int Try.underlying3 wn) (trodAll_cons_mk (Below.trod laidOut (by kernel_rfl) (of_decide_eq_true (by kernel_rfl)) h1 bel lt1) trodAll_mk0)), rfl, bel.frame _, fun h => by cases h⟩

theorem diskPlays_holds : Rows.DiskPlaysSaid :=
  OpenClaim.holds_of_wide 6 Try.f6 rfl rfl rfl rfl rfl rfl rfl ⟨rfl, rfl, rfl, rfl, rfl⟩ rfl rfl rfl rfl rfl (by kernel_rfl) Try.func6 (by kernel_rfl)
    (of_decide_eq_true (by kernel_rfl)) (by unfold Func.isWrapper; first | (rw [if_pos (by decide +kernel)]; kernel_rfl) | (rw [if_neg (by decide +kernel)]; exact ⟨rfl, rfl⟩))
    (fun os started H enc _ => lifted os started H enc)

end Go.Proofs.Ytlihjhalbemfmaa
