/- The sum of bytes: a fixed function of the bytes. -/
import Derived.Test.YtlihjhalbemfmaaKit
import Derived.Deep.WholeRow
import Derived.Laws.CopyOwn
namespace Go.Proofs.Ytlihjhalbemfmaa
open Go.RowKit

def crcStep (x : Int) : Int := if bits .and .u32 x 1 == 1 then bits .xor .u32 (x / 2) 3988292384 else x / 2
def crcSteps (x : Int) : Nat → Int
  | 0 => x
  | n + 1 => crcStep (crcSteps x n)
/-- What a byte comes to. -/
def crcTab (i : Int) : Int := crcSteps i 8
theorem crcStep_eq (x : Int) : crcStep x = if bits .and .u32 x 1 == 1 then bits .xor .u32 (x / 2) 3988292384 else x / 2 := rfl
theorem crcSteps_succ (x : Int) (n : Nat) : crcSteps x (n + 1) = crcStep (crcSteps x n) := rfl
theorem crcSteps_zero (x : Int) : crcSteps x 0 = x := rfl
theorem crcTab_eq (i : Int) : crcTab i = crcSteps i 8 := rfl
def crcCells : Array Value := Array.ofFn (n := 256) fun i => .int .u32 (crcTab i)

/-- The table, so far. -/
structure TabTo (w : World) (b : Nat) (n : Int) : Prop where
  at_ : ∃ c : Array Value, w.heap[b]? = some (.cells c 143 (0, 0)) ∧ c.size = 256 ∧ (∀ j : Nat, j < 256 → j < n → c[j]? = some (.int .u32 (crcTab j))) ∧ ∀ j : Nat, j < 256 → ∃ x, c[j]? = some (.int .u32 x)

theorem storeCells_row (g : Nat) (t : TypeId) (old cells : Array Value) (w : World) (hg : w.heap[g]? = some (.cells old t (0, 0))) (hold : old.size = cells.size) (h1 : cells.all (·.oneCell') = true) :
    (storeCells ⟨g, 0, none⟩ cells.toList 0).run Try.prog w = .ok () (w.setRow g cells) := by
  have := run_storeCells_from (P := Try.prog) g t cells.toList 0 old w hg (by simp; omega) (fun v hv => (Array.all_eq_true_iff_forall_mem.1 h1) v (by simpa using hv))
  rw [this]
  simp

theorem Table_any (w : World) : Calls Try.prog 94 #[] w fun e w' => e = .returned (.agg crcCells) ∧ Ext w w' := by
  go_enter Try.func94, Try.ntmps94
  go_wp2
  apply wp_scope_labelg 0 (fun k a' w' => ∃ (u3 u4 u5 u6 u7 u8 u9 u10 u11 u12 u13 u14 u15 u16 u17 u18 u19 u20 u21 u22 u23 u24 : Value) (i : Int), a' = { tmps := #[.pointer (some ⟨w.heap.size, 0, none⟩), .pointer (some ⟨w.heap.size + 1, 0, none⟩), .int .i64 i, u3, u4, u5, u6, u7, u8, u9, u10, u11, u12, u13, u14, u15, u16, u17, u18, u19, u20, u21, u22, u23, u24], defers := [] } ∧
    k = (256 - i).toNat ∧ 0 ≤ i ∧ i < 256 ∧ Ext w w' ∧ TabTo w' w.heap.size 0 ∧ TabTo w' (w.heap.size + 1) i ∧ w.heap.size + 1 < w'.heap.size)
  · rfl
  · intro K hK
    have HK := Lib.hid hK
    clear hK
    go_wp2_with fail
    rename_i Kx hKx
    refine wp_label (hKx _ _ ?_)
    have hz : Try.zeroCells143.size = 256 := by kernel_rfl
    have hz2 : ∀ j : Nat, j < 256 → ∃ x, Try.zeroCells143[j]? = some (.int .u32 x) := by
      intro j hj
      have e : Try.zeroCells143 = Array.replicate 256 (.int .u32 0) := by kernel_rfl
      exact ⟨0, by rw [e]; simp [hj]⟩
    refine HK.out _ _ _ ⟨_, _, _, _, _, _, _, _, _, _, _, _, _, _, _, _, _, _, _, _, _, _, 0, rfl, rfl, by omega, by omega, by repeat (first | (with_reducible exact Ext.refl _) | (with_reducible assumption) | (with_reducible refine Ext.drewN ?_ _) | (with_reducible refine Ext.drew ?_) | (with_reducible refine Ext.alloc ?_ _) | (refine Ext.trans ?_ (by with_reducible assumption))), ⟨_, ?_, hz, fun j _ h => by omega, hz2⟩, ⟨_, ?_, hz, fun j _ h => by omega, hz2⟩, by simp⟩
    · exact heap_alloc2_old w _ _
    · exact heap_alloc2_new w _ _
  · rintro k _ w1 ⟨u3, u4, u5, u6, u7, u8, u9, u10, u11, u12, u13, u14, u15, u16, u17, u18, u19, u20, u21, u22, u23, u24, i, rfl, rfl, hi0, hi1, hx, ⟨c0, h0, s0, e0, a0⟩, ⟨c, h1, s1, e1, a1⟩, hs⟩ K hK
    have HK := Lib.hid hK
    clear hK
    have A0 := Lib.hid a0
    have E1 := Lib.hid e1
    have H0 := Lib.hid h0
    have H1 := Lib.hid h1
    have HX := Lib.hid hx
    have S0 := Lib.hid s0
    have S1 := Lib.hid s1
    have HL := Lib.hid hs
    have hcl : ∀ o, w1.cell? ⟨w.heap.size + 1, o, none⟩ = c[o]? := fun o => by simp [World.cell?, h1]
    have hfz : ∀ o, w1.frozen? ⟨w.heap.size + 1, o, none⟩ = false := fun o => by simp [World.frozen?, h1]
    obtain ⟨x0, hx0⟩ := a1 i.toNat (by omega)
    have A1 := Lib.hid a1
    rw [← hcl] at hx0
    clear e0 a0 a1 e1 h0 h1 hx s0 s1 hs hcl
    go_wp2_with fail
    go_loopg [3, 6] 9 (fun k x c wr => ∃ (y : Int) (n : Nat), n ≤ 8 ∧ k + n = 9 ∧ c = .int .i64 n ∧ x = .int .u32 y ∧ wr = w1 ∧ Hid (crcSteps i n = y))
    case atStart => exact ⟨_, 0, by omega, rfl, rfl, rfl, rfl, crcSteps_zero _⟩
    case round =>
      obtain ⟨y, n, hn, hk, rfl, rfl, rfl, HR⟩ := hrel
      by_cases hlt : n < 8
      · have hst := crcSteps_succ i n
        rw [crcStep_eq, HR.out] at hst
        have HS := Lib.hid hst
        clear hst
        go_wp2_with fail
        all_goals
          go_roundg (gk - 1)
          case measure => omega
          case rel => exact ⟨_, n + 1, by omega, by omega, by simp, rfl, rfl, by unfold Hid; rw [HS.out]; simp [*]⟩
      · have hy := crcTab_eq i
        rw [show 8 = n by omega, HR.out] at hy
        have HY := Lib.hid hy
        clear hy
        have hx1 : wr.cell? ⟨w.heap.size + 1, i.toNat, none⟩ = some (.int .u32 x0) := hx0
        clear hx0
        have hw1 : wr.setCell ⟨w.heap.size + 1, i.toNat, none⟩ (.int .u32 y) = wr.setRow (w.heap.size + 1) (c.setIfInBounds i.toNat (.int .u32 y)) := setCell_eq_setRow _ _ _ _ _ _ _ H1.out
        have hs1 : (c.setIfInBounds i.toNat (.int .u32 y)).size = 256 := by rw [Array.size_setIfInBounds, S1.out]
        have hc : ∀ j : Nat, j < 256 → (j : Int) < i + 1 → (c.setIfInBounds i.toNat (.int .u32 y))[j]? = some (.int .u32 (crcTab j)) := by
          intro j hj hji
          by_cases e : (j : Int) = i
          · have e' : i.toNat = j := by omega
            rw [e', Array.getElem?_setIfInBounds_self_of_lt (by rw [S1.out]; omega), e, HY.out]
          · rw [Array.getElem?_setIfInBounds_ne (by omega), E1.out j hj (by omega)]
        have hc2 : ∀ j : Nat, j < 256 → ∃ x, (c.setIfInBounds i.toNat (.int .u32 y))[j]? = some (.int .u32 x) := by
          intro j hj
          by_cases e : i.toNat = j
          · exact ⟨y, by rw [e, Array.getElem?_setIfInBounds_self_of_lt (by rw [S1.out]; omega)]⟩
          · obtain ⟨x, hx⟩ := A1.out j hj
            exact ⟨x, by rw [Array.getElem?_setIfInBounds_ne e, hx]⟩
        have G1 : Hid ((wr.setCell ⟨w.heap.size + 1, i.toNat, none⟩ (.int .u32 y)).heap[w.heap.size + 1]? = some (.cells (c.setIfInBounds i.toNat (.int .u32 y)) 143 (0, 0))) := by
          unfold Hid; rw [hw1]; exact setRow_heap _ _ _ _ _ _ H1.out
        have G0 : Hid ((wr.setCell ⟨w.heap.size + 1, i.toNat, none⟩ (.int .u32 y)).heap[w.heap.size]? = some (.cells c0 143 (0, 0))) := by
          unfold Hid; rw [hw1, setRow_other _ _ _ _ (by omega)]; exact H0.out
        have hE : i + 1 = 256 → c.setIfInBounds i.toNat (.int .u32 y) = crcCells := by
          intro hi
          apply Array.ext_getElem?
          intro j
          rcases Nat.lt_or_ge j 256 with hj | hj
          · rw [hc j hj (by omega)]
            simp [crcCells, hj]
          · rw [Array.getElem?_eq_none (by omega), Array.getElem?_eq_none (by simp [crcCells]; omega)]
        have HE := Lib.hid hE
        have HC := Lib.hid hc
        have HC2 := Lib.hid hc2
        have HS := Lib.hid hs1
        have HT : Hid (i + 1 = 256 → (storeCells ⟨w.heap.size, 0, none⟩ (c.toList.set i.toNat (.int .u32 y)) 0).run Try.prog (wr.setCell ⟨w.heap.size + 1, i.toNat, none⟩ (.int .u32 y)) = .ok () ((wr.setCell ⟨w.heap.size + 1, i.toNat, none⟩ (.int .u32 y)).setRow w.heap.size crcCells)) := by
          unfold Hid
          intro hi
          have := storeCells_row w.heap.size 143 c0 crcCells _ G0.out (by rw [S0.out]; kernel_rfl) (by kernel_rfl)
          rw [← hE hi] at this ⊢
          rw [← this]
          simp
        clear hw1 hs1 hc hc2 hE
        go_wp2_with (refine wpList_load_row rfl 143 (.tmp 1) rfl (w.heap.size + 1) rfl 143 (c.setIfInBounds i.toNat (.int .u32 y)) (0, 0) _ ?_ Try.underlying143 rfl ?_ ?_)
        next =>
          apply wp_goto
          refine ⟨rfl, HK.out _ _ _ ?_ ⟨_, _, _, _, _, _, _, _, _, _, _, _, _, _, _, _, _, _, _, _, _, _, i + 1, rfl, rfl, by omega, by omega, HX.out.setCell (by simp) _, ⟨c0, G0.out, S0.out, fun j _ h => by omega, A0.out⟩, ⟨_, G1.out, HS.out, HC.out, HC2.out⟩, by simpa using HL.out⟩⟩
          omega
        next => exact G1.out
        next => rw [HS.out]; kernel_rfl
        next =>
          rw [HT.out (by omega)]
          simp only [Result.andThen_ok]
          rw [Oper.upon_skip]
          go_wp2
          refine jump_ret ?_
          have G2 : ((wr.setCell ⟨w.heap.size + 1, i.toNat, none⟩ (.int .u32 y)).setRow w.heap.size crcCells).heap[w.heap.size]? = some (.cells crcCells 143 (0, 0)) := setRow_heap _ _ _ _ _ _ G0.out
          refine bodyPost_ret (v := .agg crcCells) (results_cell_row Try.results94 _ _ w.heap.size 143 crcCells (0, 0) _ rfl G2 Try.underlying143 rfl (by kernel_rfl)) rfl ⟨rfl, ?_⟩
          exact (HX.out.setCell (by simp) _).trans' (below_setRow (Below.refl _ _) (Nat.le_refl _) _)
end Go.Proofs.Ytlihjhalbemfmaa
