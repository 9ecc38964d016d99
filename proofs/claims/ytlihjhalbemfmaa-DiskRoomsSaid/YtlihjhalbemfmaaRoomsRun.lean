/- The law of rooms: what is looked at. -/
import Derived.Test.YtlihjhalbemfmaaLawRooms
namespace Go.Proofs.Ytlihjhalbemfmaa
open Go.RowKit

structure RoomRel (z wr : World) (d b : Nat) (n : Int) (ns : List ByteArray) (lo hi : Nat) (h : Held) : Prop where
  disk : DiskAt wr d b n h
  but : But (· = b) z wr
  len : h.length ≤ 30
  keys : ∀ p ∈ h, ∃ j, lo ≤ j ∧ j < hi ∧ p.1 = ns.getD j ⟨#[]⟩
  small : ∀ p ∈ h, p.1.size ≤ 64

/-- What a round of the law looks at. -/
def wantOf (n : Int) (h : Held) (k s : ByteArray) : Int := match getL h k with | some o => n - used h - s.size + o.size | none => n - used h - s.size - k.size - 16
def fits (n : Int) (h : Held) (k s : ByteArray) : Bool := writeE n h k s == 0

theorem round_ok {n : Int} {h : Held} (hn : (h.map (·.1)).Nodup) (k s : ByteArray) : (writeE n h k s = 0 → n - used (writeL n h k s) = wantOf n h k s) ∧ (writeE n h k s ≠ 0 → used (writeL n h k s) = used h) ∧ (writeE n h k s = 9 → wantOf n h k s < 0) ∧ (writeE n h k s = 0 ∨ writeE n h k s = 1 ∨ writeE n h k s = 9) := by
  refine ⟨fun h0 => ?_, fun h0 => ?_, fun h0 => ?_, ?_⟩
  · unfold writeL wantOf
    rw [if_pos h0]
    cases hg : getL h k with
    | none => have := used_put_new (s := s) hg; simp only; omega
    | some o => have := used_put_old (s := s) hn hg; simp only; omega
  · unfold writeL; rw [if_neg h0]
  · unfold writeE at h0
    unfold wantOf
    split at h0
    · cases h0
    · split at h0
      · rename_i hr
        unfold roomFor at hr
        cases hg : getL h k with
        | none => rw [hg] at hr; simp only at hr ⊢; omega
        | some o => rw [hg] at hr; simp only at hr ⊢; omega
      · cases h0
  · unfold writeE
    split
    · exact .inr (.inl rfl)
    · split
      · exact .inr (.inr rfl)
      · exact .inl rfl
theorem used_writeL {n : Int} {h : Held} (hn : (h.map (·.1)).Nodup) (k s : ByteArray) (hf : (used h : Int) ≤ n) : (used (writeL n h k s) : Int) ≤ n := by
  unfold writeL
  by_cases h0 : writeE n h k s = 0
  · rw [if_pos h0]
    unfold writeE at h0
    split at h0
    · cases h0
    · split at h0
      · cases h0
      · rename_i hr
        unfold roomFor at hr
        cases hg : getL h k with
        | none => rw [hg] at hr; have := used_put_new (s := s) hg; simp only at hr; omega
        | some o => rw [hg] at hr; have := used_put_old (s := s) hn hg; simp only at hr; omega
  · rw [if_neg h0]; exact hf
theorem len_writeL {n : Int} {h : Held} (k s : ByteArray) : (writeL n h k s).length ≤ h.length + 1 := by
  unfold writeL
  split
  · exact put_len h k s
  · omega
theorem keys_writeL {n : Int} {h : Held} {k s : ByteArray} : ∀ p ∈ writeL n h k s, (p.1 = k ∧ k.size ≤ 64) ∨ ∃ q ∈ h, q.1 = p.1 := by
  intro p hp
  unfold writeL at hp
  split at hp
  · rename_i h0
    rcases put_keys p hp with e | e
    · left
      refine ⟨e, ?_⟩
      unfold writeE at h0
      split at h0
      · cases h0
      · omega
    · exact .inr e
  · exact .inr ⟨p, hp, rfl⟩
theorem RoomRel.write {z wr wr' : World} {d b : Nat} {n : Int} {ns : List ByteArray} {k : Nat} {h : Held} {nm s : ByteArray} (H : RoomRel z wr d b n ns 0 k h) (hnm : ns.getD k ⟨#[]⟩ = nm) (hk : h.length ≤ k) (hk2 : k < 30)
    (hd : DiskAt wr' d b n (writeL n h nm s)) (hb : But (· = b) wr wr') : RoomRel z wr' d b n ns 0 (k + 1) (writeL n h nm s) := by
  refine ⟨hd, H.but.trans hb, ?_, fun p hp => ?_, fun p hp => ?_⟩
  · have := len_writeL (n := n) (h := h) nm s; omega
  · rcases keys_writeL p hp with ⟨e, _⟩ | ⟨q, hq, e⟩
    · exact ⟨k, Nat.zero_le _, by omega, by rw [hnm]; exact e⟩
    · obtain ⟨j, h1, h2, h3⟩ := H.keys q hq
      exact ⟨j, h1, by omega, by rw [← e]; exact h3⟩
  · rcases keys_writeL p hp with ⟨e, h64⟩ | ⟨q, hq, e⟩
    · rw [e]; exact h64
    · rw [← e]; exact H.small q hq
theorem RoomRel.drop {z wr wr' : World} {d b : Nat} {n : Int} {ns : List ByteArray} {k hi : Nat} {h : Held} {nm : ByteArray} (H : RoomRel z wr d b n ns k hi h) (hnm : ns.getD k ⟨#[]⟩ = nm)
    (hd : DiskAt wr' d b n (dropAt h nm)) (hb : But (· = b) wr wr') : RoomRel z wr' d b n ns (k + 1) hi (dropAt h nm) := by
  have hs := drop_sub h nm
  refine ⟨hd, H.but.trans hb, Nat.le_trans hs.length_le H.len, fun p hp => ?_, fun p hp => H.small p (hs.subset hp)⟩
  obtain ⟨j, h1, h2, h3⟩ := H.keys p (hs.subset hp)
  have hne : p.1 ≠ nm := by simpa using (List.mem_filter.1 hp).2
  have : j ≠ k := fun e => hne (by rw [h3, e, hnm])
  exact ⟨j, by omega, h2, h3⟩
theorem RoomRel.empty {z wr : World} {d b : Nat} {n : Int} {ns : List ByteArray} {hi : Nat} {h : Held} (H : RoomRel z wr d b n ns hi hi h) : h = [] := by
  cases h with
  | nil => rfl
  | cons p l => obtain ⟨j, h1, h2, _⟩ := H.keys p List.mem_cons_self; omega
theorem RoomRel.ext {z wr wr' : World} {d b : Nat} {n : Int} {ns : List ByteArray} {lo hi : Nat} {h : Held} (H : RoomRel z wr d b n ns lo hi h) (hx : Ext wr wr') : RoomRel z wr' d b n ns lo hi h :=
  ⟨H.disk.ext hx, H.but.trans (But.of_ext hx), H.len, H.keys, H.small⟩
theorem RoomRel.arg {w z wr : World} {d b : Nat} {n : Int} {ns : List ByteArray} {lo hi : Nat} {h : Held} (H : RoomRel z wr d b n ns lo hi h) (hz : Ext w z) (hb : w.heap.size ≤ b) {b' : Nat} (hb' : b' < w.heap.size) (o : Nat) : wr.cell? ⟨b', o, none⟩ = w.cell? ⟨b', o, none⟩ := by
  rw [H.but.cellAt (Nat.lt_of_lt_of_le hb' hz.size) (show ¬ b' = b by omega), hz.cellAt hb']
theorem RoomRel.nodup {z wr : World} {d b : Nat} {n : Int} {ns : List ByteArray} {lo hi : Nat} {h : Held} (H : RoomRel z wr d b n ns lo hi h) : (h.map (·.1)).Nodup := by
  have := H.disk.map.nodup; rw [vals_keys] at this; exact this

set_option maxRecDepth 30000 in
set_option maxHeartbeats 8000000 in
theorem rooms_run (n : Int) (ns ls : List ByteArray) (p q : Option Addr) (cn cl : Nat) (w : World) (h0 : 0 ≤ n) (h1 : n ≤ 65535) (h30 : ns.length ≤ 30) (hle : ns.length ≤ ls.length) (hm : ls.length ≤ 9223372036854775807)
    (hN : TextsAt w p ns) (hL : TextsAt w q ls) :
    Calls Try.prog 5 #[.int .u16 n, .slice p ns.length cn, .slice q ls.length cl] w fun e w' => e = .returned (.bool true) ∧ Ext w w' := by
  have HN := Lib.hid hN
  have HL := Lib.hid hL
  have hD := Lib.hid (fun w => new_disk n w h0 (by omega))
  clear hN hL
  go_enter Try.func5, Try.ntmps5
  go_wp2_with fail
  refine (awakeDisk _).mono ?_
  rintro e z0 ⟨rfl, hz0⟩
  have E0 := Lib.hid hz0
  clear hz0
  go_wp2_with fail
  refine (hD.out _).mono ?_
  rintro e z ⟨d, b, rfl, hd, hz, hdn, hbn⟩
  have HD := Lib.hid hd
  have HZ := Lib.hid (E0.out.trans hz)
  have hbw : w.heap.size ≤ b := by have := E0.out.size; omega
  clear hd hz
  go_wp2_with fail
  go_loopw [9] (fun x wr => ∃ (k : Nat) (h : Held), k ≤ ns.length ∧ x = .int .i64 k ∧ RoomRel z wr d b n ns 0 k h ∧ h.length ≤ k) (fun x _ => ns.length - (intOf x).toNat)
  case atStart => exact ⟨0, [], Nat.zero_le _, rfl, ⟨HD.out, But.refl _, by simp, by simp, by simp⟩, Nat.le_refl _⟩
  case round =>
    obtain ⟨k, h, hk, rfl, hrel, hhk⟩ := hrel
    have HR := Lib.hid hrel
    clear hrel
    by_cases hlt : k < ns.length
    · have hN := HN.out
      have hL := HL.out
      rcases hN with hN | ⟨bn, on, rfl, hbn1, hcn⟩
      · rw [hN] at hlt; simp at hlt
      rcases hL with hL | ⟨bl, ol, rfl, hbl1, hcl⟩
      · have : ls.length = 0 := by rw [hL]; rfl
        omega
      have HcN := Lib.hid (hcn k hlt)
      have HcL := Lib.hid (hcl k (by omega))
      have hltl : k < ls.length := by omega
      clear hcn hcl
      generalize hnm : ns.getD k ⟨#[]⟩ = nm at *
      generalize hsl : ls.getD k ⟨#[]⟩ = s at *
      have HNM := Lib.hid hnm
      clear hnm hsl
      have cN : wr.cell? ⟨bn, on + k, none⟩ = some (.string nm) := (HR.out.arg HZ.out hbw hbn1 _).trans HcN.out
      have cL : wr.cell? ⟨bl, ol + k, none⟩ = some (.string s) := (HR.out.arg HZ.out hbw hbl1 _).trans HcL.out
      by_cases hb1 : 5000 < s.size ∨ 100 < nm.size
      · have E1 := Lib.hid (But.ext HZ.out HR.out.but (fun j hj => by omega))
        rcases hb1 with hb1 | hb1
        all_goals
          go_wp2
          all_goals
            go_ret
            exact ⟨rfl, E1.out⟩
      · have hs5 : s.size ≤ 5000 := by omega
        have hn1 : nm.size ≤ 100 := by omega
        have hroom := Lib.hid (fun h w => room_any d b n h w)
        have hread := Lib.hid (fun w => read_any d b n h nm w)
        have hwrite := Lib.hid (fun w hd => write_any d b n h nm s w hd (by omega))
        have hR := round_ok (n := n) HR.out.nodup nm s
        have hfit := used_writeL (n := n) HR.out.nodup nm s HR.out.disk.fits
        have hfit0 := HR.out.disk.fits
        have hgu : ∀ o, getL h nm = some o → o.size ≤ used h := fun o ho => by have : nm.size + o.size + 16 ≤ used h := used_mem (get_mem ho); omega
        have HH : Hid (∀ wr1 wr', Ext wr wr1 → DiskAt wr' d b n (writeL n h nm s) → But (· = b) wr1 wr' → RoomRel z wr' d b n ns 0 (k + 1) (writeL n h nm s) ∧ (writeL n h nm s).length ≤ k + 1) := fun wr1 wr' hx hd hb =>
          ⟨(HR.out.ext hx).write HNM.out hhk (by omega) hd hb, by have := len_writeL (n := n) (h := h) nm s; omega⟩
        generalize writeL n h nm s = hh at *
        obtain ⟨r1, r2, r3, r4⟩ := hR
        unfold wantOf at r1 r3
        unfold readOf at hread
        clear hb1 HNM
        generalize hu' : used hh = u' at *
        generalize hu : used h = u at *
        have HU := Lib.hid hu
        have HU' := Lib.hid hu'
        clear hu hu'
        cases hg : getL h nm with
        | none =>
          rw [hg] at r1 r3 hread
          clear hgu hg
          simp only at r1 r3
          rcases r4 with e | e | e
          all_goals
            rw [e] at r1 r2 r3 hwrite
            simp at r1 r2 r3
            clear e
            go_wp2_with fail
            refine (hroom.out _ _ HR.out.disk).mono ?_
            rintro e z1 ⟨rfl, hz1⟩
            rw [HU.out]
            have HR1 := Lib.hid (HR.out.ext hz1)
            have HX1 := Lib.hid hz1
            have cN : z1.cell? ⟨bn, on + k, none⟩ = some (.string nm) := (HR1.out.arg HZ.out hbw hbn1 _).trans HcN.out
            have cL : z1.cell? ⟨bl, ol + k, none⟩ = some (.string s) := (HR1.out.arg HZ.out hbw hbl1 _).trans HcL.out
            have hbz1 : bn < z1.heap.size := by have := HZ.out.size; have := HR1.out.but.size; omega
            have hbz2 : bl < z1.heap.size := by have := HZ.out.size; have := HR1.out.but.size; omega
            clear hz1
            go_wp2_with fail
            refine (hread.out _ HR1.out.disk).mono ?_
            rintro e z2 ⟨rfl, rfl⟩
            go_wp2_with fail
            refine wp_region_Rt Ext Ext.refl (by kernel_rfl) ?_
            repeat (refine Rt.takeU Ext.refl (fun _ _ _ => Ext.trans) rfl rfl (by kernel_rfl) (fun K hK => ?_); apply Exists.intro; refine ⟨fun x hx => ?_, ?_⟩; (next => have HX := Lib.hid hx; have hc0 := Ext.cellAt hx (b := bn) (by first | omega | (simp; done) | (simp; omega)); have hc1 := Ext.cellAt hx (b := bl) (by first | omega | (simp; done) | (simp; omega)); clear hx; go_simp; first | done | ((try go_ints); first | done | rfl | (fail))); go_simp; refine hK _ ?_; clear hK K)
            refine Rt.tail rfl (by kernel_rfl) (fun x hx K hK => ?_)
            have HX := Lib.hid (Ext.trans ((Ext.refl _).drew) hx)
            clear hx
            go_wp2_with fail
            refine (hwrite.out _ (HR1.out.disk.ext HX.out)).mono ?_
            rintro e z3 ⟨rfl, hd3, hb3⟩
            have HR3 := Lib.hid (HH.out _ _ (HX1.out.trans HX.out) hd3 hb3)
            have cL3 : z3.cell? ⟨bl, ol + k, none⟩ = some (.string s) := (HR3.out.1.arg HZ.out hbw hbl1 _).trans HcL.out
            have cN3 : z3.cell? ⟨bn, on + k, none⟩ = some (.string nm) := (HR3.out.1.arg HZ.out hbw hbn1 _).trans HcN.out
            clear hd3 hb3 cN cL
            go_wp2
            refine hK _ _ ?_
            clear hK K
            go_wp2_with fail
            refine (hroom.out _ _ HR3.out.1.disk).mono ?_
            rintro e z4 ⟨rfl, hz4⟩
            rw [HU'.out]
            have HR4 := Lib.hid (HR3.out.1.ext hz4)
            clear hz4
            go_wp2
            go_roundw
            case rel => exact ⟨k + 1, hh, by omega, by go_num, HR4.out, HR3.out.2⟩
            case measure => simp [intOf]; omega
        | some o =>
          have ho := hgu o hg
          rw [hg] at r1 r3 hread
          clear hgu hg
          simp only at r1 r3
          rcases r4 with e | e | e
          all_goals
            rw [e] at r1 r2 r3 hwrite
            simp at r1 r2 r3
            clear e
            go_wp2_with fail
            refine (hroom.out _ _ HR.out.disk).mono ?_
            rintro e z1 ⟨rfl, hz1⟩
            rw [HU.out]
            have HR1 := Lib.hid (HR.out.ext hz1)
            have HX1 := Lib.hid hz1
            have cN : z1.cell? ⟨bn, on + k, none⟩ = some (.string nm) := (HR1.out.arg HZ.out hbw hbn1 _).trans HcN.out
            have cL : z1.cell? ⟨bl, ol + k, none⟩ = some (.string s) := (HR1.out.arg HZ.out hbw hbl1 _).trans HcL.out
            have hbz1 : bn < z1.heap.size := by have := HZ.out.size; have := HR1.out.but.size; omega
            have hbz2 : bl < z1.heap.size := by have := HZ.out.size; have := HR1.out.but.size; omega
            clear hz1
            go_wp2_with fail
            refine (hread.out _ HR1.out.disk).mono ?_
            rintro e z2 ⟨rfl, rfl⟩
            go_wp2_with fail
            refine wp_region_Rt Ext Ext.refl (by kernel_rfl) ?_
            repeat (refine Rt.takeU Ext.refl (fun _ _ _ => Ext.trans) rfl rfl (by kernel_rfl) (fun K hK => ?_); apply Exists.intro; refine ⟨fun x hx => ?_, ?_⟩; (next => have HX := Lib.hid hx; have hc0 := Ext.cellAt hx (b := bn) (by first | omega | (simp; done) | (simp; omega)); have hc1 := Ext.cellAt hx (b := bl) (by first | omega | (simp; done) | (simp; omega)); clear hx; go_simp; first | done | ((try go_ints); first | done | rfl | (fail))); go_simp; refine hK _ ?_; clear hK K)
            refine Rt.tail rfl (by kernel_rfl) (fun x hx K hK => ?_)
            have HX := Lib.hid (Ext.trans ((Ext.refl _).drew) hx)
            clear hx
            go_wp2_with fail
            refine (hwrite.out _ (HR1.out.disk.ext HX.out)).mono ?_
            rintro e z3 ⟨rfl, hd3, hb3⟩
            have HR3 := Lib.hid (HH.out _ _ (HX1.out.trans HX.out) hd3 hb3)
            have cL3 : z3.cell? ⟨bl, ol + k, none⟩ = some (.string s) := (HR3.out.1.arg HZ.out hbw hbl1 _).trans HcL.out
            have cN3 : z3.cell? ⟨bn, on + k, none⟩ = some (.string nm) := (HR3.out.1.arg HZ.out hbw hbn1 _).trans HcN.out
            clear hd3 hb3 cN cL
            go_wp2
            refine hK _ _ ?_
            clear hK K
            go_wp2_with fail
            refine (hroom.out _ _ HR3.out.1.disk).mono ?_
            rintro e z4 ⟨rfl, hz4⟩
            rw [HU'.out]
            have HR4 := Lib.hid (HR3.out.1.ext hz4)
            clear hz4
            go_wp2
            go_roundw
            case rel => exact ⟨k + 1, hh, by omega, by go_num, HR4.out, HR3.out.2⟩
            case measure => simp [intOf]; omega
    · obtain rfl : k = ns.length := by omega
      have E1 := Lib.hid (But.ext HZ.out HR.out.but (fun j hj => by omega))
      have hdel := Lib.hid (fun h k w => delete_any d b n h k w)
      have hroom := Lib.hid (fun w => room_any d b n [] w)
      have hnames := Lib.hid (fun w hd => names_any d b n [] w hd (by simp) (by simp))
      go_wp2_with fail
      go_loopw [15] (fun x wr => ∃ (k : Nat) (h : Held), k ≤ ns.length ∧ x = .int .i64 k ∧ RoomRel z wr d b n ns k ns.length h) (fun x _ => ns.length - (intOf x).toNat)
      case atStart => exact ⟨0, h, Nat.zero_le _, rfl, HR.out⟩
      case round =>
        clear HR hhk hk hlt E1
        clear h
        obtain ⟨k, h, hk, rfl, hrel⟩ := hrel
        have HR := Lib.hid hrel
        clear hrel
        by_cases hlt : k < ns.length
        · have hN := HN.out
          rcases hN with hN | ⟨bn, on, rfl, hbn1, hcn⟩
          · rw [hN] at hlt; simp at hlt
          have HcN := Lib.hid (hcn k hlt)
          clear hcn
          generalize hnm : ns.getD k ⟨#[]⟩ = nm at *
          have HNM := Lib.hid hnm
          clear hnm
          have cN : wr.cell? ⟨bn, on + k, none⟩ = some (.string nm) := (HR.out.arg HZ.out hbw hbn1 _).trans HcN.out
          go_wp2_with fail
          refine (hdel.out h nm _ HR.out.disk).mono ?_
          rintro e z3 ⟨rfl, hd3, hb3⟩
          have HR3 := Lib.hid (HR.out.drop HNM.out hd3 hb3)
          clear hd3 hb3
          go_wp2
          go_roundw
          case rel => exact ⟨k + 1, _, by omega, by go_num, HR3.out⟩
          case measure => simp [intOf]; omega
        · obtain rfl : k = ns.length := by omega
          obtain rfl := HR.out.empty
          go_wp2_with fail
          refine (hroom.out _ HR.out.disk).mono ?_
          rintro e z3 ⟨rfl, hz3⟩
          have HR3 := Lib.hid (HR.out.ext hz3)
          clear hz3
          have hu0 : used [] = 0 := rfl
          go_wp2_with fail
          refine (hnames.out _ HR3.out.disk).mono ?_
          rintro e z4 ⟨v, rfl, hv, hz4⟩
          have E4 := Lib.hid (But.ext HZ.out (HR3.out.but.trans (But.of_ext hz4)) (fun j hj => by omega))
          have hnil : namesOf [] = [] := by simp [namesOf]
          rw [hnil] at hv
          obtain ⟨a, c, rfl⟩ : ∃ a c, v = .slice a 0 c := by
            rcases hv with ⟨h, _⟩ | ⟨g, cap, h, _⟩
            · exact ⟨_, _, h⟩
            · exact ⟨_, _, h⟩
          clear hv hz4 hnil
          go_wp2
          go_ret
          exact ⟨rfl, E4.out⟩
end Go.Proofs.Ytlihjhalbemfmaa
