/- The law of plays, walked. -/
import Derived.Test.YtlihjhalbemfmaaPlainlyAll
namespace Go.Proofs.Ytlihjhalbemfmaa
open Go.RowKit

theorem plays_few (n : Int) (l : List Call) (p : Option Addr) (c : Nat) (w : World) (hl : l.length ≤ 9223372036854775807) (hL : CallsAt w p l) (hf : (decide (l.length ≤ 100) && decide (weights (l.take 101) ≤ 20000)) = false) :
    Calls Try.prog 6 #[.int .i64 n, .slice p l.length c] w fun e w' => e = .returned (.bool true) ∧ Ext w w' := by
  have hF := Lib.hid (fun w hL => few_any l p c w hl hL)
  rw [hf] at hF
  have HL := Lib.hid hL
  clear hf hL
  go_enter Try.func6, Try.ntmps6
  go_wp2_with fail
  refine (awakeDisk _).mono ?_
  rintro e z ⟨rfl, hz⟩
  have E1 := Lib.hid hz
  clear hz
  go_wp2_with fail
  have hL1 : CallsAt z p l := by
    rcases HL.out with h | ⟨b, off, hp, hb, hc⟩
    · exact .inl h
    · exact .inr ⟨b, off, hp, Nat.lt_of_lt_of_le hb E1.out.size, fun i hi => (hc i hi).ext E1.out hb⟩
  refine (hF.out _ hL1).mono ?_
  rintro e z2 ⟨rfl, hz2⟩
  have E2 := Lib.hid (E1.out.trans hz2)
  clear hz2 hL1
  go_wp2_with fail
  refine (awakeDisk _).mono ?_
  rintro e z3 ⟨rfl, hz3⟩
  have E3 := Lib.hid (E2.out.trans hz3)
  clear hz3
  go_wp2
  go_ret
  exact ⟨rfl, E3.out⟩

theorem CallsAt.ext {w w' : World} {p : Option Addr} {l : List Call} (h : CallsAt w p l) (hx : Ext w w') : CallsAt w' p l := by
  rcases h with h | ⟨b, off, hp, hb, hc⟩
  · exact .inl h
  · exact .inr ⟨b, off, hp, Nat.lt_of_lt_of_le hb hx.size, fun i hi => (hc i hi).ext hx hb⟩

theorem plays_size (n : Int) (l : List Call) (p : Option Addr) (c : Nat) (w : World) (hl : l.length ≤ 9223372036854775807) (hL : CallsAt w p l) (hf : (decide (l.length ≤ 100) && decide (weights (l.take 101) ≤ 20000)) = true) (hn : n < 0 ∨ 4194304 < n) :
    Calls Try.prog 6 #[.int .i64 n, .slice p l.length c] w fun e w' => e = .returned (.bool true) ∧ Ext w w' := by
  have hF := Lib.hid (fun w hL => few_any l p c w hl hL)
  rw [hf] at hF
  have hW := Lib.hid (fun w => new_wrong n w hn)
  have HL := Lib.hid hL
  clear hf hL
  rcases hn with hn | hn
  all_goals
    go_enter Try.func6, Try.ntmps6
    go_wp2_with fail
    refine (awakeDisk _).mono ?_
    rintro e z ⟨rfl, hz⟩
    have E1 := Lib.hid hz
    clear hz
    go_wp2_with fail
    refine (hF.out _ (HL.out.ext E1.out)).mono ?_
    rintro e z2 ⟨rfl, hz2⟩
    have E2 := Lib.hid (E1.out.trans hz2)
    clear hz2
    go_wp2_with fail
    refine (hW.out _).mono ?_
    rintro e z3 ⟨rfl, rfl⟩
    go_wp2
    all_goals
      go_ret
      exact ⟨rfl, E2.out⟩

/-- The reference's disk in a variable. -/
def MAt (w : World) (M : Nat) (size : Int) (r : Held) : Prop :=
  ∃ p cn q cq, w.heap[M]? = some (.cells #[.int .i64 size, .slice p r.length cn, .slice q r.length cq] 58 (0, 0)) ∧ TextsAt w p (names r) ∧ TextsAt w q (bodies r)

theorem MAt.lt {w : World} {M : Nat} {size : Int} {r : Held} (h : MAt w M size r) : M < w.heap.size := by
  obtain ⟨p, cn, q, cq, hb, _⟩ := h
  exact (Array.getElem?_eq_some_iff.1 hb).1
theorem MAt.ext {w w' : World} {M : Nat} {size : Int} {r : Held} (h : MAt w M size r) (hx : Ext w w') : MAt w' M size r := by
  have hlt := h.lt
  obtain ⟨p, cn, q, cq, hb, h1, h2⟩ := h
  exact ⟨p, cn, q, cq, (Below.block hx M hlt).trans hb, h1.ext hx, h2.ext hx⟩
theorem MAt.but {w w' : World} {M b : Nat} {size : Int} {r : Held} {l : List (ByteArray × Value)} (h : MAt w M size r) (hm : MapAt strKey w b l) (hx : But (· = b) w w') : MAt w' M size r := by
  have hlt := h.lt
  obtain ⟨p, cn, q, cq, hb, h1, h2⟩ := h
  obtain ⟨es, clock, he, _⟩ := hm
  have hne : M ≠ b := by
    rintro rfl
    rw [hb] at he; cases he
  exact ⟨p, cn, q, cq, (hx.block M hlt hne).trans hb, h1.but he hx, h2.but he hx⟩
theorem MAt.val {w : World} {M : Nat} {size : Int} {r : Held} (h : MAt w M size r) : ∃ p cn q cq, (∀ o, w.cell? ⟨M, o, none⟩ = (#[.int .i64 size, .slice p r.length cn, .slice q r.length cq] : Array Value)[o]?) ∧ (∀ o, w.frozen? ⟨M, o, none⟩ = false) ∧ RefV w (.agg #[.int .i64 size, .slice p r.length cn, .slice q r.length cq]) size r := by
  obtain ⟨p, cn, q, cq, hb, h1, h2⟩ := h
  exact ⟨p, cn, q, cq, fun o => by simp [World.cell?, hb], fun o => by simp [World.frozen?, hb], p, cn, q, cq, rfl, h1, h2⟩

theorem DiskAt.aside {w w' : World} {d b k : Nat} {size : Int} {l : Held} (h : DiskAt w d b size l) (hd : d ≠ k) (hb : b ≠ k) (hx : But (· = k) w w') : DiskAt w' d b size l :=
  ⟨by rw [hx.cellAt h.lt hd]; exact h.c0, by rw [hx.cellAt h.lt hd]; exact h.c1, Nat.lt_of_lt_of_le h.lt hx.size, h.map.but hx hb, h.lo, h.hi, h.fits⟩
def set3 (w : World) (k : Nat) (a b c : Value) : World := ((w.setCell ⟨k, 0, none⟩ a).setCell ⟨k, 1, none⟩ b).setCell ⟨k, 2, none⟩ c
theorem set3_heap {w : World} {k : Nat} {t : TypeId} {x0 x1 x2 a b c : Value} (h : w.heap[k]? = some (.cells #[x0, x1, x2] t (0, 0))) : (set3 w k a b c).heap[k]? = some (.cells #[a, b, c] t (0, 0)) := by
  simp [set3, World.setCell, Array.getElem?_modify, h]
theorem but_three (w : World) (k : Nat) (a b c : Value) : But (· = k) w (set3 w k a b c) := but_set3 w k a b c
theorem set3_size (w : World) (k : Nat) (a b c : Value) : (set3 w k a b c).heap.size = w.heap.size := by simp [set3, World.setCell]

/-- What is said is laid into the variable. -/
theorem commit {w z1 y : World} {d b M g : Nat} {n : Int} {al r0 r' : Held} {p q : Option Addr} {cn cq : Nat} (E1 : Ext w z1) (EX : Ext z1 y) (HD : DiskAt z1 d b n al) (HM : MAt z1 M n r0)
    (hv : RefV y (.agg #[.int .i64 n, .slice p r'.length cn, .slice q r'.length cq]) n r') (hg : z1.heap.size ≤ g) (hgc : ∀ o, y.cell? ⟨g, o, none⟩ = (#[.int .i64 0, .slice none 0 0, .slice none 0 0] : Array Value)[o]?)
    (hMd : d ≠ M) (hMb : b ≠ M) (hMw : w.heap.size ≤ M) :
    DiskAt (set3 (set3 y g (.int .i64 n) (.slice p r'.length cn) (.slice q r'.length cq)) M (.int .i64 n) (.slice p r'.length cn) (.slice q r'.length cq)) d b n al ∧
    MAt (set3 (set3 y g (.int .i64 n) (.slice p r'.length cn) (.slice q r'.length cq)) M (.int .i64 n) (.slice p r'.length cn) (.slice q r'.length cq)) M n r' ∧
    Ext w (set3 (set3 y g (.int .i64 n) (.slice p r'.length cn) (.slice q r'.length cq)) M (.int .i64 n) (.slice p r'.length cn) (.slice q r'.length cq)) := by
  have hMl := HM.lt
  have hdl := HD.lt
  have hbl := HD.map.lt
  have hwz := E1.size
  have b1 := but_three y g (.int .i64 n) (.slice p r'.length cn) (.slice q r'.length cq)
  have b2 := but_three (set3 y g (.int .i64 n) (.slice p r'.length cn) (.slice q r'.length cq)) M (.int .i64 n) (.slice p r'.length cn) (.slice q r'.length cq)
  have hv1 := hv.aside (k := g) (fun o s => by rw [hgc o]; exact no_string 0 none none 0 0 0 0 o s) b1
  obtain ⟨pm, cm, qm, dm, hbk, _, _⟩ := HM
  have hby : y.heap[M]? = some (.cells #[.int .i64 n, .slice pm r0.length cm, .slice qm r0.length dm] 58 (0, 0)) := (Below.block EX M hMl).trans hbk
  have hbW : (set3 y g (.int .i64 n) (.slice p r'.length cn) (.slice q r'.length cq)).heap[M]? = some (.cells #[.int .i64 n, .slice pm r0.length cm, .slice qm r0.length dm] 58 (0, 0)) := (b1.block M (Nat.lt_of_lt_of_le hMl EX.size) (by omega)).trans hby
  generalize hW : set3 y g (.int .i64 n) (.slice p r'.length cn) (.slice q r'.length cq) = W at *
  have hv2 := hv1.aside (k := M) (fun o s => by rw [show W.cell? ⟨M, o, none⟩ = (#[.int .i64 n, .slice pm r0.length cm, .slice qm r0.length dm] : Array Value)[o]? by simp [World.cell?, hbW]]; exact no_string n pm qm _ _ cm dm o s) b2
  refine ⟨((HD.ext EX).aside (by omega) (by omega) b1).aside hMd hMb b2, ?_, ?_⟩
  · obtain ⟨p', cn', q', cq', e, t1, t2⟩ := hv2
    injection e with e
    simp at e
    obtain ⟨⟨rfl, rfl⟩, rfl, rfl⟩ := e
    exact ⟨p, cn, q, cq, set3_heap hbW, t1, t2⟩
  · exact But.ext (But.ext (E1.trans EX) b1 (fun k hk => by omega)) b2 (fun k hk => by omega)

theorem act_len (n : Int) (h : Held) (c : Call) : (actOf n h c).2.2.length ≤ h.length + 1 := by
  unfold actOf
  split
  · split <;> simp
  · split
    · have := (drop_sub h c.name).length_le
      simp only; omega
    · split
      · split
        · split
          · simp
          · exact put_len _ _ _
        · simp
      · split
        · simp
        · simp only
          unfold writeL
          split
          · exact put_len _ _ _
          · omega

theorem weight_small {l : List Call} (hw : weights (l.take 101) ≤ 20000) (hl : l.length ≤ 100) {i : Nat} (hi : i < l.length) : (l.getD i default).s.size ≤ 100000 := by
  rw [List.take_of_length_le (by omega)] at hw
  have hm : l[i] ∈ l := List.getElem_mem hi
  have : weigh l[i] ≤ weights l := by
    clear hw hl
    induction l generalizing i with
    | nil => simp at hi
    | cons c l ih =>
      unfold weights
      rw [List.map_cons, List.sum_cons]
      cases i with
      | zero => simp
      | succ i =>
        have := ih (by simpa using hi) (List.getElem_mem (by simpa using hi))
        unfold weights at this
        simp at this ⊢
        omega
  have e : l.getD i default = l[i] := by simp [hi]
  rw [e]
  unfold weigh at this
  omega
set_option maxRecDepth 30000 in
set_option maxHeartbeats 8000000 in
theorem plays_run (n : Int) (l : List Call) (p : Option Addr) (c : Nat) (w : World) (hl : l.length ≤ 100) (hL : CallsAt w p l) (hw : weights (l.take 101) ≤ 20000) (h0 : 0 ≤ n) (h1 : n ≤ 4194304) (hks : ∀ i, i < l.length → 0 ≤ (l.getD i default).kind) :
    Calls Try.prog 6 #[.int .i64 n, .slice p l.length c] w fun e w' => e = .returned (.bool true) ∧ Ext w w' := by
  have hF := Lib.hid (fun w hL => few_any l p c w (by omega) hL)
  have hfw : (decide (l.length ≤ 100) && decide (weights (l.take 101) ≤ 20000)) = true := by simp [hl, hw]
  rw [hfw] at hF
  have hW := Lib.hid (fun w => new_disk n w h0 h1)
  have HL := Lib.hid hL
  have HS := Lib.hid (fun i (hi : i < l.length) => weight_small hw hl hi)
  have HKS := Lib.hid hks
  clear hL hfw hw hks
  go_enter Try.func6, Try.ntmps6
  go_wp2_with fail
  refine (awakeDisk _).mono ?_
  rintro e za ⟨rfl, hz⟩
  have E1 := Lib.hid hz
  clear hz
  go_wp2_with fail
  refine (hF.out _ (HL.out.ext E1.out)).mono ?_
  rintro e zb ⟨rfl, hz2⟩
  have E2 := Lib.hid (E1.out.trans hz2)
  clear hz2
  go_wp2_with fail
  refine (hW.out _).mono ?_
  rintro e z0 ⟨d, b, rfl, hd, hz, hdn, hbn⟩
  have HD := Lib.hid hd
  have E3 := Lib.hid (E2.out.trans hz)
  have hbw : w.heap.size ≤ b := by have := E2.out.size; omega
  clear hd hz
  go_wp2_with fail
  go_loopw [8] (fun x wr => ∃ (j : Nat) (h r : Held), j ≤ l.length ∧ x = .int .i64 j ∧ DiskAt wr d b n h ∧ Rel h r ∧ MAt wr z0.heap.size n r ∧ r.length ≤ j ∧ Ext w wr) (fun x _ => l.length - (intOf x).toNat)
  case atStart =>
    refine ⟨0, [], [], Nat.zero_le _, rfl, HD.out.ext (by repeat (first | (with_reducible exact Ext.refl _) | (with_reducible assumption) | (with_reducible refine Ext.drewN ?_ _) | (with_reducible refine Ext.drew ?_) | (with_reducible refine Ext.alloc ?_ _) | (refine Ext.trans ?_ (by with_reducible assumption)))), Rel.nil, ⟨none, 0, none, 0, ?_, .inl rfl, .inl rfl⟩, Nat.le_refl _, by repeat (first | (with_reducible exact E3.out) | (with_reducible refine Ext.drewN ?_ _) | (with_reducible refine Ext.drew ?_) | (with_reducible refine Ext.setCell ?_ (by first | omega | (simp; done) | (simp; omega)) _) | (with_reducible refine Ext.alloc ?_ _))⟩
    exact heap_alloc_new _ _
  case round =>
    obtain ⟨j, h, r, hj, rfl, hd, hrel, hm, hrl, hx⟩ := hrel
    have HX := Lib.hid hx
    have HD1 := Lib.hid hd
    have HREL := Lib.hid hrel
    have HM := Lib.hid hm
    clear hd hrel hm hx
    by_cases hlt : j < l.length
    · rcases HL.out with hh | ⟨ab, aoff, rfl, hab, hcell⟩
      · rw [hh] at hlt; simp at hlt
      have hat := (hcell j hlt).ext HX.out hab
      have hk := HKS.out j hlt
      have hs := HS.out j hlt
      clear hcell
      generalize hxe : l.getD j default = x at *
      have HAT := Lib.hid hat
      have hdone := Lib.hid (fun w hd => done_any d b n h x w hd hk (by omega))
      have hplain := Lib.hid (fun v w hv => plainly_any n h r v x w HREL.out hv h0 h1 HD1.out.fits (by omega) hk (by omega))
      obtain ⟨kind, nm, s, spot, byI⟩ := x
      have HXE := Lib.hid hxe
      simp only [Call.v] at hdone hplain
      have hc0 := hat.c0
      have hc1 := hat.c1
      have hc2 := hat.c2
      have hc3 := hat.c3
      have hc4 := hat.c4
      simp only at hc0 hc1 hc2 hc3 hc4
      clear hat hk hs hxe HAT
      go_wp2_with fail
      refine (hdone.out _ HD1.out).mono ?_
      rintro e z1 ⟨rfl, hd1, hb1⟩
      have HX1 := Lib.hid (But.ext HX.out hb1 (fun k hk => by omega))
      have HM1 := Lib.hid (HM.out.but HD1.out.map hb1)
      have HDa := Lib.hid hd1
      have hat1 : CallAt z1 ab (aoff + j * 5) ⟨kind, nm, s, spot, byI⟩ := by
        rcases HL.out with hh | ⟨ab', aoff', hp, hab', hcell⟩
        · rw [hh] at hlt; simp at hlt
        · injection hp with hp
          injection hp with hp1 hp2
          subst hp1 hp2
          have := hcell j hlt
          rw [HXE.out] at this
          exact this.ext HX1.out hab
      have hc0 := hat1.c0
      have hc1 := hat1.c1
      have hc2 := hat1.c2
      have hc3 := hat1.c3
      have hc4 := hat1.c4
      simp only at hc0 hc1 hc2 hc3 hc4
      obtain ⟨p1, cn1, q1, cq1, hmc, hmf, hmv⟩ := HM1.out.val
      have HMV := Lib.hid hmv
      have hml : z0.heap.size < z1.heap.size := HM1.out.lt
      have habl : ab < z1.heap.size := by have := HX1.out.size; omega
      have hMd : d ≠ z0.heap.size := by have := HD.out.lt; omega
      have hMb : b ≠ z0.heap.size := by have := HD.out.map.lt; omega
      have hMw : w.heap.size ≤ z0.heap.size := E3.out.size
      clear hd1 hb1 hat1 hmv HM
      have hal := act_len n h ⟨kind, nm, s, spot, byI⟩
      have hhl : h.length = r.length := HREL.out.perm.length_eq.symm
      generalize hact : actOf n h ⟨kind, nm, s, spot, byI⟩ = act at *
      obtain ⟨at1, an, al⟩ := act
      simp only at hplain HDa hal
      rw [hhl] at hal
      generalize r.length = rn at *
      clear hhl
      clear hact hdone
      go_wp2_with fail
      --ROUND
      refine wp_region_Rt Ext Ext.refl (by kernel_rfl) ?_
      (refine Rt.takeU Ext.refl (fun _ _ _ => Ext.trans) rfl rfl (by kernel_rfl) (fun K hK => ?_); apply Exists.intro; refine ⟨fun x hx => ?_, ?_⟩; (next => have HX := Lib.hid hx; have hc0 := Ext.cellAt hx (b := z0.heap.size) (by first | omega | (simp; done) | (simp; omega)); clear hx; go_simp; first | done | ((try go_ints); first | done | rfl | (fail))); go_simp; refine hK _ ?_; clear hK K)
      (refine Rt.takeP Ext.refl (fun _ _ _ => Ext.trans) rfl rfl (by kernel_rfl) (fun K hK => ?_); apply Exists.intro; refine ⟨fun x => ?_, ?_⟩; (next => go_simp; first | done | rfl | ((try go_ints); first | done | rfl | (fail))); go_simp; refine hK _ ?_; clear hK K)
      (refine Rt.takeP Ext.refl (fun _ _ _ => Ext.trans) rfl rfl (by kernel_rfl) (fun K hK => ?_); apply Exists.intro; refine ⟨fun x => ?_, ?_⟩; (next => go_simp; first | done | rfl | ((try go_ints); first | done | rfl | (fail))); go_simp; refine hK _ ?_; clear hK K)
      (refine Rt.takeP Ext.refl (fun _ _ _ => Ext.trans) rfl rfl (by kernel_rfl) (fun K hK => ?_); apply Exists.intro; refine ⟨fun x => ?_, ?_⟩; (next => go_simp; first | done | rfl | ((try go_ints); first | done | rfl | (fail))); go_simp; refine hK _ ?_; clear hK K)
      (refine Rt.takeU Ext.refl (fun _ _ _ => Ext.trans) rfl rfl (by kernel_rfl) (fun K hK => ?_); apply Exists.intro; refine ⟨fun x hx => ?_, ?_⟩; (next => have HX := Lib.hid hx; have hc0 := Ext.cellAt hx (b := ab) (by first | omega | (simp; done) | (simp; omega)); clear hx; go_simp; first | done | ((try go_ints); first | done | rfl | (fail))); go_simp; refine hK _ ?_; clear hK K)
      refine Rt.fork 10 rfl rfl (by kernel_rfl) (fun x hx K hK => ?_) (fun x hx K hK => ?_)
      · have HXc := Lib.hid (Ext.trans (Ext.drew (Ext.refl z1)) hx)
        clear hx
        go_wp2_with fail
        refine (hplain.out _ _ (HMV.out.ext HXc.out)).mono ?_
        rintro e z2 ⟨v', r', rfl, hv', hrel', hz2⟩
        have HR' := Lib.hid hrel'
        have HE2 := Lib.hid (HXc.out.trans hz2)
        obtain ⟨p2, cn2, q2, cq2, rfl, ht1, ht2⟩ := hv'
        have HV2 : Hid (RefV z2 (.agg #[.int .i64 n, .slice p2 r'.length cn2, .slice q2 r'.length cq2]) n r') := ⟨p2, cn2, q2, cq2, rfl, ht1, ht2⟩
        clear ht1 ht2 hrel'
        go_wp2
        refine hK _ _ hz2 ?_
        clear hz2 hK K
        (refine Rt.takeP Ext.refl (fun _ _ _ => Ext.trans) rfl rfl (by kernel_rfl) (fun K hK => ?_); apply Exists.intro; refine ⟨fun x => ?_, ?_⟩; (next => go_simp; first | done | rfl | ((try go_ints); first | done | rfl | (fail))); go_simp; refine hK _ ?_; clear hK K)
        (refine Rt.takeP Ext.refl (fun _ _ _ => Ext.trans) rfl rfl (by kernel_rfl) (fun K hK => ?_); apply Exists.intro; refine ⟨fun x => ?_, ?_⟩; (next => go_simp; first | done | rfl | ((try go_ints); first | done | rfl | (fail))); go_simp; refine hK _ ?_; clear hK K)
        (refine Rt.takeP Ext.refl (fun _ _ _ => Ext.trans) rfl rfl (by kernel_rfl) (fun K hK => ?_); apply Exists.intro; refine ⟨fun x => ?_, ?_⟩; (next => go_simp; first | done | rfl | ((try go_ints); first | done | rfl | (fail))); go_simp; refine hK _ ?_; clear hK K)
        (refine Rt.takeP Ext.refl (fun _ _ _ => Ext.trans) rfl rfl (by kernel_rfl) (fun K hK => ?_); apply Exists.intro; refine ⟨fun x => ?_, ?_⟩; (next => go_simp; first | done | rfl | ((try go_ints); first | done | rfl | (fail))); go_simp; refine hK _ ?_; clear hK K)
        refine Rt.only rfl (by kernel_rfl) (fun x hx K hK => ?_)
        have HXb := Lib.hid (HE2.out.trans hx)
        have HVb := Lib.hid (HV2.out.ext (hx.trans (Ext.alloc (Ext.refl x) (.cells #[.int .i64 0, .slice none 0 0, .slice none 0 0] 58))))
        clear hx
        go_wp2
        refine hK _ _ (Ext.alloc (Ext.refl _) _) ?_
        clear hK K
        have hgl : z1.heap.size ≤ x.heap.size := HXb.out.size
        refine Rt.tail0 rfl (by kernel_rfl) (fun y hy K hK => ?_)
        have HY := Lib.hid ((Ext.alloc HXb.out _).trans hy)
        have HVy := Lib.hid (HVb.out.ext hy)
        have hgc : ∀ o, y.cell? ⟨x.heap.size, o, none⟩ = (#[.int .i64 0, .slice none 0 0, .slice none 0 0] : Array Value)[o]? := fun o => by rw [hy.cellAt (by simp)]; simp
        have hgf : ∀ o, y.frozen? ⟨x.heap.size, o, none⟩ = false := fun o => by rw [hy.frozenAt (by simp)]; simp
        clear hy HXb HVb
        have hC := commit HX1.out HY.out HDa.out HM1.out HVy.out hgl hgc hMd hMb hMw
        unfold set3 at hC
        have HC := Lib.hid hC
        clear hC
        have hmcy : ∀ o, y.cell? ⟨z0.heap.size, o, none⟩ = (#[.int .i64 n, .slice p1 rn cn1, .slice q1 rn cq1] : Array Value)[o]? := fun o => by rw [HY.out.cellAt hml]; exact hmc o
        have hmfy : ∀ o, y.frozen? ⟨z0.heap.size, o, none⟩ = false := fun o => by rw [HY.out.frozenAt hml]; exact hmf o
        have hne : ¬ x.heap.size = z0.heap.size := by omega
        have hne2 : ¬ z0.heap.size = x.heap.size := by omega
        clear hmc hmf hc0 hc1 hc2 hc3 hc4
        go_wp2
        refine hK _ _ ?_
        clear hK K
        go_wp2_with fail
        generalize World.setCell _ ⟨z0.heap.size, 2, none⟩ _ = zz at *
        obtain ⟨p3, cn3, q3, cq3, hmc3, hmf3, hmv3⟩ := HC.out.2.1.val
        obtain ⟨_, _, _, _, e3, hb3, hb4⟩ := hmv3
        injection e3 with e3
        simp at e3
        obtain ⟨⟨rfl, rfl⟩, rfl, rfl⟩ := e3
        have HB3 := Lib.hid hb3
        have HB4 := Lib.hid hb4
        clear hb3 hb4
        have HDz := Lib.hid HC.out.1
        have HXz := Lib.hid HC.out.2.2
        have HMz := Lib.hid HC.out.2.1
        have hzl : z0.heap.size < zz.heap.size := HC.out.2.1.lt
        have hur := used_perm HR'.out.perm
        have hrl' : r'.length ≤ j + 1 := by rw [HR'.out.perm.length_eq]; omega
        have hR1 := Lib.hid (fun w hd => room_any d b n al w hd)
        have hR2 := Lib.hid (fun w hN hB => refroom_any n r' p3 q3 cn3 cq3 w (by omega) h0 h1 (by have := HDz.out.fits; omega) hN hB)
        rw [hur] at hR2
        have hN1 := Lib.hid (fun w hd => names_any d b n al w hd (by omega) (fun p hp => by have h5 : p.1.size + p.2.size + 16 ≤ used al := used_mem hp; have := HDz.out.fits; omega))
        rw [HR'.out.names] at hN1
        have hnl : (names r').length = r'.length := by simp [names]
        have hS1 := Lib.hid (fun p q cp cq w hP hQ => same_true (names r') p q cp cq w (by rw [hnl]; omega) hP hQ)
        rw [hnl] at hS1
        have HNL := Lib.hid hnl
        have HRL := Lib.hid hrl'
        generalize hrn : r'.length = rn' at *
        have HRN := Lib.hid hrn
        clear hrn
        generalize used al = u at *
        clear hur hnl hrl' hgc hgf HY HVy HV2 HE2 hmcy hmfy hne hne2 hgl HC
        try clear HXg2
        try clear HXc
        refine wp_region_Rt Ext Ext.refl (by kernel_rfl) ?_
        repeat (first | (refine Rt.takeU Ext.refl (fun _ _ _ => Ext.trans) rfl rfl (by kernel_rfl) (fun K hK => ?_); apply Exists.intro; refine ⟨fun x hx => ?_, ?_⟩; (next => have HX := Lib.hid hx; have hc0 := Ext.cellAt hx (b := z0.heap.size) (by first | omega | (simp; done) | (simp; omega)); clear hx; go_simp; first | done | ((try go_ints); first | done | rfl | (fail))); go_simp; refine hK _ ?_; clear hK K) | (refine Rt.take Ext.refl (fun _ _ _ => Ext.trans) rfl (by kernel_rfl) (fun K hK => ?_); rw [if_pos (by first | rfl | kernel_rfl)]; apply Exists.intro; refine ⟨fun x hx => ?_, ?_⟩; (next => have HX := Lib.hid hx; (have hc0 := Ext.cellAt hx (b := z0.heap.size) (by first | omega | (simp; done) | (simp; omega))); clear hx; go_simp; first | done | ((try go_ints); first | done | rfl | (first | (go_at_call 18; refine (hR1.out _ (HDz.out.ext (Ext.trans (Ext.drew (Ext.refl zz)) HX.out))).mono ?_; rintro e w' ⟨rfl, he⟩; exact ⟨rfl, he⟩) | (go_at_call 26; refine (hR2.out _ (HB3.out.ext (Ext.trans (Ext.drew (Ext.refl zz)) HX.out)) (HB4.out.ext (Ext.trans (Ext.drew (Ext.refl zz)) HX.out))).mono ?_; rintro e w' ⟨rfl, he⟩; exact ⟨rfl, he⟩)))); go_simp; refine hK _ ?_; clear hK K))
        (refine Rt.early 18 Ext.refl (fun _ _ _ => Ext.trans) rfl (by kernel_rfl) (fun K hK => ?_); rw [if_pos (by first | rfl | kernel_rfl)]; apply Exists.intro; refine ⟨fun x hx => ?_, ?_⟩; (next => have HX := Lib.hid hx; (have hc0 := Ext.cellAt hx (b := z0.heap.size) (by first | omega | (simp; done) | (simp; omega))); clear hx; go_simp; first | done | ((try go_ints); first | done | rfl | (fail))); go_simp; refine hK _ ?_; clear hK K)
        (refine Rt.early 19 Ext.refl (fun _ _ _ => Ext.trans) rfl (by kernel_rfl) (fun K hK => ?_); rw [if_pos (by first | rfl | kernel_rfl)]; apply Exists.intro; refine ⟨fun x hx => ?_, ?_⟩; (next => have HX := Lib.hid hx; (have hc0 := Ext.cellAt hx (b := z0.heap.size) (by first | omega | (simp; done) | (simp; omega))); clear hx; go_simp; first | done | ((try go_ints); first | done | rfl | (fail))); go_simp; refine hK _ ?_; clear hK K)
        refine Rt.only rfl (by kernel_rfl) (fun x hx K hK => ?_)
        have HXd := Lib.hid (Ext.trans (Ext.drew (Ext.refl zz)) hx)
        clear hx
        go_wp2_with fail
        refine (hN1.out _ (HDz.out.ext HXd.out)).mono ?_
        rintro e z4 ⟨v4, rfl, hst, hz4⟩
        obtain ⟨p4, c4, rfl, ht4⟩ := strs_texts hst
        rw [HNL.out]
        have HT4 := Lib.hid ht4
        have HXe := Lib.hid (HXd.out.trans hz4)
        clear hst ht4
        go_wp2
        refine hK _ _ hz4 ?_
        clear hz4 hK K
        refine Rt.skip rfl ?_
        refine Rt.skip rfl ?_
        repeat (first | (refine Rt.takeU Ext.refl (fun _ _ _ => Ext.trans) rfl rfl (by kernel_rfl) (fun K hK => ?_); apply Exists.intro; refine ⟨fun x hx => ?_, ?_⟩; (next => have HX := Lib.hid hx; have hc0 := Ext.cellAt hx (b := z0.heap.size) (by first | omega | (simp; done) | (simp; omega)); clear hx; go_simp; first | done | ((try go_ints); first | done | rfl | (fail))); go_simp; refine hK _ ?_; clear hK K) | (refine Rt.take Ext.refl (fun _ _ _ => Ext.trans) rfl (by kernel_rfl) (fun K hK => ?_); rw [if_pos (by first | rfl | kernel_rfl)]; apply Exists.intro; refine ⟨fun x hx => ?_, ?_⟩; (next => have HX := Lib.hid hx; (have hc0 := Ext.cellAt hx (b := z0.heap.size) (by have := HXe.out.size; omega)); clear hx; go_simp; first | done | ((try go_ints); first | done | rfl | ((go_at_call 27; refine (hS1.out _ _ _ _ _ (HT4.out.ext HX.out) (HB3.out.ext (HXe.out.trans HX.out))).mono ?_; rintro e w' ⟨rfl, he⟩; exact ⟨rfl, he⟩)))); go_simp; refine hK _ ?_; clear hK K))
        refine Rt.done (by kernel_rfl) (fun z8 hz8 => ?_)
        have HX8 := Lib.hid (HXz.out.trans (HXe.out.trans hz8))
        have HD8 := Lib.hid (HDz.out.ext (HXe.out.trans hz8))
        have HM8 := Lib.hid (HMz.out.ext (HXe.out.trans hz8))
        clear hz8
        go_wp2
        go_roundw
        case rel => exact ⟨j + 1, al, r', by omega, by go_num, HD8.out.ext (by repeat (first | (with_reducible exact Ext.refl _) | (with_reducible assumption) | (with_reducible refine Ext.drewN ?_ _) | (with_reducible refine Ext.drew ?_) | (with_reducible refine Ext.alloc ?_ _) | (refine Ext.trans ?_ (by with_reducible assumption)))), HR'.out, HM8.out.ext (by repeat (first | (with_reducible exact Ext.refl _) | (with_reducible assumption) | (with_reducible refine Ext.drewN ?_ _) | (with_reducible refine Ext.drew ?_) | (with_reducible refine Ext.alloc ?_ _) | (refine Ext.trans ?_ (by with_reducible assumption)))), by rw [HRN.out]; exact HRL.out, by repeat (first | (with_reducible exact HX8.out) | (with_reducible refine Ext.drewN ?_ _) | (with_reducible refine Ext.drew ?_) | (with_reducible refine Ext.setCell ?_ (by first | omega | (simp; done) | (simp; omega)) _) | (with_reducible refine Ext.alloc ?_ _))⟩
        case measure => simp [intOf]; omega
      · have HXc0 := Lib.hid (Ext.trans (Ext.drew (Ext.refl z1)) hx)
        clear hx
        go_wp2
        refine hK _ _ (Ext.alloc (Ext.refl _) _) ?_
        clear hK K
        obtain ⟨xa, rfl⟩ : ∃ xa, xa = x := ⟨_, rfl⟩
        refine Rt.only rfl (by kernel_rfl) (fun x hx K hK => ?_)
        have HXg := Lib.hid hx
        have hx := Ext.trans (Ext.alloc HXc0.out _) hx
        have HXc := Lib.hid hx
        clear hx
        go_wp2_with fail
        refine (hplain.out _ _ (HMV.out.ext HXc.out)).mono ?_
        rintro e z2 ⟨v', r', rfl, hv', hrel', hz2⟩
        have HR' := Lib.hid hrel'
        have HE2 := Lib.hid (HXc.out.trans hz2)
        have HXg2 := Lib.hid (HXg.out.trans hz2)
        obtain ⟨p2, cn2, q2, cq2, rfl, ht1, ht2⟩ := hv'
        have HV2 : Hid (RefV z2 (.agg #[.int .i64 n, .slice p2 r'.length cn2, .slice q2 r'.length cq2]) n r') := ⟨p2, cn2, q2, cq2, rfl, ht1, ht2⟩
        clear ht1 ht2 hrel'
        go_wp2
        refine hK _ _ hz2 ?_
        clear hz2 hK K HXg
        (refine Rt.takeP Ext.refl (fun _ _ _ => Ext.trans) rfl rfl (by kernel_rfl) (fun K hK => ?_); apply Exists.intro; refine ⟨fun x => ?_, ?_⟩; (next => go_simp; first | done | rfl | ((try go_ints); first | done | rfl | (fail))); go_simp; refine hK _ ?_; clear hK K)
        (refine Rt.takeP Ext.refl (fun _ _ _ => Ext.trans) rfl rfl (by kernel_rfl) (fun K hK => ?_); apply Exists.intro; refine ⟨fun x => ?_, ?_⟩; (next => go_simp; first | done | rfl | ((try go_ints); first | done | rfl | (fail))); go_simp; refine hK _ ?_; clear hK K)
        (refine Rt.takeP Ext.refl (fun _ _ _ => Ext.trans) rfl rfl (by kernel_rfl) (fun K hK => ?_); apply Exists.intro; refine ⟨fun x => ?_, ?_⟩; (next => go_simp; first | done | rfl | ((try go_ints); first | done | rfl | (fail))); go_simp; refine hK _ ?_; clear hK K)
        (refine Rt.takeP Ext.refl (fun _ _ _ => Ext.trans) rfl rfl (by kernel_rfl) (fun K hK => ?_); apply Exists.intro; refine ⟨fun x => ?_, ?_⟩; (next => go_simp; first | done | rfl | ((try go_ints); first | done | rfl | (fail))); go_simp; refine hK _ ?_; clear hK K)
        refine Rt.skip rfl ?_
        have hgl : z1.heap.size ≤ xa.heap.size := HXc0.out.size
        refine Rt.tail0 rfl (by kernel_rfl) (fun y hy K hK => ?_)
        have HY := Lib.hid (HE2.out.trans hy)
        have HVy := Lib.hid (HV2.out.ext hy)
        have hgy := HXg2.out.trans hy
        have hgc : ∀ o, y.cell? ⟨xa.heap.size, o, none⟩ = (#[.int .i64 0, .slice none 0 0, .slice none 0 0] : Array Value)[o]? := fun o => by rw [hgy.cellAt (by simp)]; simp
        have hgf : ∀ o, y.frozen? ⟨xa.heap.size, o, none⟩ = false := fun o => by rw [hgy.frozenAt (by simp)]; simp
        clear hy hgy
        have hC := commit HX1.out HY.out HDa.out HM1.out HVy.out hgl hgc hMd hMb hMw
        unfold set3 at hC
        have HC := Lib.hid hC
        clear hC
        have hmcy : ∀ o, y.cell? ⟨z0.heap.size, o, none⟩ = (#[.int .i64 n, .slice p1 rn cn1, .slice q1 rn cq1] : Array Value)[o]? := fun o => by rw [HY.out.cellAt hml]; exact hmc o
        have hmfy : ∀ o, y.frozen? ⟨z0.heap.size, o, none⟩ = false := fun o => by rw [HY.out.frozenAt hml]; exact hmf o
        have hne : ¬ xa.heap.size = z0.heap.size := by omega
        have hne2 : ¬ z0.heap.size = xa.heap.size := by omega
        clear hmc hmf hc0 hc1 hc2 hc3 hc4
        go_wp2
        refine hK _ _ ?_
        clear hK K
        go_wp2_with fail
        generalize World.setCell _ ⟨z0.heap.size, 2, none⟩ _ = zz at *
        obtain ⟨p3, cn3, q3, cq3, hmc3, hmf3, hmv3⟩ := HC.out.2.1.val
        obtain ⟨_, _, _, _, e3, hb3, hb4⟩ := hmv3
        injection e3 with e3
        simp at e3
        obtain ⟨⟨rfl, rfl⟩, rfl, rfl⟩ := e3
        have HB3 := Lib.hid hb3
        have HB4 := Lib.hid hb4
        clear hb3 hb4
        have HDz := Lib.hid HC.out.1
        have HXz := Lib.hid HC.out.2.2
        have HMz := Lib.hid HC.out.2.1
        have hzl : z0.heap.size < zz.heap.size := HC.out.2.1.lt
        have hur := used_perm HR'.out.perm
        have hrl' : r'.length ≤ j + 1 := by rw [HR'.out.perm.length_eq]; omega
        have hR1 := Lib.hid (fun w hd => room_any d b n al w hd)
        have hR2 := Lib.hid (fun w hN hB => refroom_any n r' p3 q3 cn3 cq3 w (by omega) h0 h1 (by have := HDz.out.fits; omega) hN hB)
        rw [hur] at hR2
        have hN1 := Lib.hid (fun w hd => names_any d b n al w hd (by omega) (fun p hp => by have h5 : p.1.size + p.2.size + 16 ≤ used al := used_mem hp; have := HDz.out.fits; omega))
        rw [HR'.out.names] at hN1
        have hnl : (names r').length = r'.length := by simp [names]
        have hS1 := Lib.hid (fun p q cp cq w hP hQ => same_true (names r') p q cp cq w (by rw [hnl]; omega) hP hQ)
        rw [hnl] at hS1
        have HNL := Lib.hid hnl
        have HRL := Lib.hid hrl'
        generalize hrn : r'.length = rn' at *
        have HRN := Lib.hid hrn
        clear hrn
        generalize used al = u at *
        clear hur hnl hrl' hgc hgf HY HVy HV2 HE2 hmcy hmfy hne hne2 hgl HC
        try clear HXg2
        try clear HXc
        refine wp_region_Rt Ext Ext.refl (by kernel_rfl) ?_
        repeat (first | (refine Rt.takeU Ext.refl (fun _ _ _ => Ext.trans) rfl rfl (by kernel_rfl) (fun K hK => ?_); apply Exists.intro; refine ⟨fun x hx => ?_, ?_⟩; (next => have HX := Lib.hid hx; have hc0 := Ext.cellAt hx (b := z0.heap.size) (by first | omega | (simp; done) | (simp; omega)); clear hx; go_simp; first | done | ((try go_ints); first | done | rfl | (fail))); go_simp; refine hK _ ?_; clear hK K) | (refine Rt.take Ext.refl (fun _ _ _ => Ext.trans) rfl (by kernel_rfl) (fun K hK => ?_); rw [if_pos (by first | rfl | kernel_rfl)]; apply Exists.intro; refine ⟨fun x hx => ?_, ?_⟩; (next => have HX := Lib.hid hx; (have hc0 := Ext.cellAt hx (b := z0.heap.size) (by first | omega | (simp; done) | (simp; omega))); clear hx; go_simp; first | done | ((try go_ints); first | done | rfl | (first | (go_at_call 18; refine (hR1.out _ (HDz.out.ext (Ext.trans (Ext.drew (Ext.refl zz)) HX.out))).mono ?_; rintro e w' ⟨rfl, he⟩; exact ⟨rfl, he⟩) | (go_at_call 26; refine (hR2.out _ (HB3.out.ext (Ext.trans (Ext.drew (Ext.refl zz)) HX.out)) (HB4.out.ext (Ext.trans (Ext.drew (Ext.refl zz)) HX.out))).mono ?_; rintro e w' ⟨rfl, he⟩; exact ⟨rfl, he⟩)))); go_simp; refine hK _ ?_; clear hK K))
        (refine Rt.early 18 Ext.refl (fun _ _ _ => Ext.trans) rfl (by kernel_rfl) (fun K hK => ?_); rw [if_pos (by first | rfl | kernel_rfl)]; apply Exists.intro; refine ⟨fun x hx => ?_, ?_⟩; (next => have HX := Lib.hid hx; (have hc0 := Ext.cellAt hx (b := z0.heap.size) (by first | omega | (simp; done) | (simp; omega))); clear hx; go_simp; first | done | ((try go_ints); first | done | rfl | (fail))); go_simp; refine hK _ ?_; clear hK K)
        (refine Rt.early 19 Ext.refl (fun _ _ _ => Ext.trans) rfl (by kernel_rfl) (fun K hK => ?_); rw [if_pos (by first | rfl | kernel_rfl)]; apply Exists.intro; refine ⟨fun x hx => ?_, ?_⟩; (next => have HX := Lib.hid hx; (have hc0 := Ext.cellAt hx (b := z0.heap.size) (by first | omega | (simp; done) | (simp; omega))); clear hx; go_simp; first | done | ((try go_ints); first | done | rfl | (fail))); go_simp; refine hK _ ?_; clear hK K)
        refine Rt.only rfl (by kernel_rfl) (fun x hx K hK => ?_)
        have HXd := Lib.hid (Ext.trans (Ext.drew (Ext.refl zz)) hx)
        clear hx
        go_wp2_with fail
        refine (hN1.out _ (HDz.out.ext HXd.out)).mono ?_
        rintro e z4 ⟨v4, rfl, hst, hz4⟩
        obtain ⟨p4, c4, rfl, ht4⟩ := strs_texts hst
        rw [HNL.out]
        have HT4 := Lib.hid ht4
        have HXe := Lib.hid (HXd.out.trans hz4)
        clear hst ht4
        go_wp2
        refine hK _ _ hz4 ?_
        clear hz4 hK K
        refine Rt.skip rfl ?_
        refine Rt.skip rfl ?_
        repeat (first | (refine Rt.takeU Ext.refl (fun _ _ _ => Ext.trans) rfl rfl (by kernel_rfl) (fun K hK => ?_); apply Exists.intro; refine ⟨fun x hx => ?_, ?_⟩; (next => have HX := Lib.hid hx; have hc0 := Ext.cellAt hx (b := z0.heap.size) (by first | omega | (simp; done) | (simp; omega)); clear hx; go_simp; first | done | ((try go_ints); first | done | rfl | (fail))); go_simp; refine hK _ ?_; clear hK K) | (refine Rt.take Ext.refl (fun _ _ _ => Ext.trans) rfl (by kernel_rfl) (fun K hK => ?_); rw [if_pos (by first | rfl | kernel_rfl)]; apply Exists.intro; refine ⟨fun x hx => ?_, ?_⟩; (next => have HX := Lib.hid hx; (have hc0 := Ext.cellAt hx (b := z0.heap.size) (by have := HXe.out.size; omega)); clear hx; go_simp; first | done | ((try go_ints); first | done | rfl | ((go_at_call 27; refine (hS1.out _ _ _ _ _ (HT4.out.ext HX.out) (HB3.out.ext (HXe.out.trans HX.out))).mono ?_; rintro e w' ⟨rfl, he⟩; exact ⟨rfl, he⟩)))); go_simp; refine hK _ ?_; clear hK K))
        refine Rt.done (by kernel_rfl) (fun z8 hz8 => ?_)
        have HX8 := Lib.hid (HXz.out.trans (HXe.out.trans hz8))
        have HD8 := Lib.hid (HDz.out.ext (HXe.out.trans hz8))
        have HM8 := Lib.hid (HMz.out.ext (HXe.out.trans hz8))
        clear hz8
        go_wp2
        go_roundw
        case rel => exact ⟨j + 1, al, r', by omega, by go_num, HD8.out.ext (by repeat (first | (with_reducible exact Ext.refl _) | (with_reducible assumption) | (with_reducible refine Ext.drewN ?_ _) | (with_reducible refine Ext.drew ?_) | (with_reducible refine Ext.alloc ?_ _) | (refine Ext.trans ?_ (by with_reducible assumption)))), HR'.out, HM8.out.ext (by repeat (first | (with_reducible exact Ext.refl _) | (with_reducible assumption) | (with_reducible refine Ext.drewN ?_ _) | (with_reducible refine Ext.drew ?_) | (with_reducible refine Ext.alloc ?_ _) | (refine Ext.trans ?_ (by with_reducible assumption)))), by rw [HRN.out]; exact HRL.out, by repeat (first | (with_reducible exact HX8.out) | (with_reducible refine Ext.drewN ?_ _) | (with_reducible refine Ext.drew ?_) | (with_reducible refine Ext.setCell ?_ (by first | omega | (simp; done) | (simp; omega)) _) | (with_reducible refine Ext.alloc ?_ _))⟩
        case measure => simp [intOf]; omega
      --ROUND END
    · go_wp2
      go_ret
      exact ⟨rfl, HX.out⟩
end Go.Proofs.Ytlihjhalbemfmaa
