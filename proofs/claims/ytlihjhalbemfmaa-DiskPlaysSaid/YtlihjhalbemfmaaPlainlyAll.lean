/- What the reference says to a call, all together. -/
import Derived.Test.YtlihjhalbemfmaaPlaysLaw
namespace Go.Proofs.Ytlihjhalbemfmaa
open Go.RowKit

theorem roomFor_eq {size : Int} {l : Held} (hn : (l.map (·.1)).Nodup) (k : ByteArray) : roomFor size l k = size - used (dropAt l k) := by
  unfold roomFor
  cases hg : getL l k with
  | none => rw [drop_none hg]; simp
  | some o =>
    have h : used (dropAt l k) + (k.size + o.size + 16) = used l := used_drop hn (get_mem hg)
    simp only
    omega

theorem plainly_any (size : Int) (l r : Held) (v : Value) (c : Call) (w : World) (hrel : Rel l r) (hv : RefV w v size r) (h0 : 0 ≤ size) (h1 : size ≤ 4194304) (hf : (used l : Int) ≤ size) (hl : r.length ≤ 100000) (hk : 0 ≤ c.kind) (hs : c.s.size ≤ 100000000) :
    Calls Try.prog 25 #[v, c.v] w fun e w' => ∃ v' r', e = .returned (.tuple #[v', .string (actOf size l c).1, .int .i64 (actOf size l c).2.1]) ∧ RefV w' v' size r' ∧ Rel (actOf size l c).2.2 r' ∧ Ext w w' := by
  obtain ⟨p, cn, q, cq, rfl, hN, hB⟩ := hv
  have hget := hrel.get c.name
  have hur := used_perm hrel.perm
  have same : ∀ w', Ext w w' → RefV w' (.agg #[.int .i64 size, .slice p r.length cn, .slice q r.length cq]) size r := fun w' hx => ⟨p, cn, q, cq, rfl, hN.ext hx, hB.ext hx⟩
  by_cases k4 : c.kind % 8 = 4
  · have ha : actOf size l c = (match getL l c.name with | some s => (s, 0, l) | none => (⟨#[]⟩, 8, l)) := by unfold actOf; rw [if_pos k4]; cases getL l c.name <;> rfl
    rw [ha]
    cases hg : getL l c.name with
    | none =>
      refine (plainly_read_none size r p q cn cq c w hl hN hk k4 (hget.trans hg)).mono ?_
      rintro e w' ⟨rfl, hx⟩
      exact ⟨_, r, rfl, same w' hx, hrel, hx⟩
    | some o =>
      refine (plainly_read_some size r p q cn cq c w hl hN hB hk k4 o (hget.trans hg)).mono ?_
      rintro e w' ⟨rfl, hx⟩
      exact ⟨_, r, rfl, same w' hx, hrel, hx⟩
  by_cases k5 : c.kind % 8 = 5
  · have ha : actOf size l c = (⟨#[]⟩, delE l c.name, dropAt l c.name) := by unfold actOf; rw [if_neg k4, if_pos k5]
    rw [ha]
    unfold delE
    cases hg : getL l c.name with
    | none =>
      refine (plainly_del_none size r p q cn cq c w hl hN hB hk k5 (hget.trans hg)).mono ?_
      rintro e w' ⟨rfl, hx⟩
      refine ⟨_, r, rfl, same w' hx, ?_, hx⟩
      simp only [drop_none hg]; exact hrel
    | some o =>
      refine (plainly_del_some size r p q cn cq c w hl hN hB hk k5 o (hget.trans hg)).mono ?_
      rintro e w' ⟨v, rfl, hv, hx⟩
      exact ⟨v, _, rfl, hv, hrel.drop _, hx⟩
  by_cases k6 : c.kind % 8 = 6
  · have ha : actOf size l c = (match getL l c.name with | some s => if s.size = 0 ∨ c.by' = 0 then (⟨#[]⟩, 0, l) else (⟨#[]⟩, 1, putL l c.name (spoil s c.spot c.by')) | none => (⟨#[]⟩, 0, l)) := by unfold actOf; rw [if_neg k4, if_neg k5, if_pos k6]; cases getL l c.name <;> rfl
    rw [ha]
    cases hg : getL l c.name with
    | none =>
      refine (plainly_spoil_none size r p q cn cq c w hl hN hB hk k6 (hget.trans hg)).mono ?_
      rintro e w' ⟨rfl, hx⟩
      exact ⟨_, r, rfl, same w' hx, hrel, hx⟩
    | some o =>
      simp only
      by_cases hn : o.size = 0 ∨ c.by' = 0
      · rw [if_pos hn]
        by_cases ho : o.size = 0
        · refine (plainly_spoil_empty size r p q cn cq c w hl hN hB hk k6 o (hget.trans hg) ho).mono ?_
          rintro e w' ⟨rfl, hx⟩
          exact ⟨_, r, rfl, same w' hx, hrel, hx⟩
        · refine (plainly_spoil_zero size r p q cn cq c w hl hN hB hk k6 o (hget.trans hg) (by omega) (by omega)).mono ?_
          rintro e w' ⟨rfl, hx⟩
          exact ⟨_, r, rfl, same w' hx, hrel, hx⟩
      · rw [if_neg hn]
        have hos : o.size ≤ 1000000000 := by have : c.name.size + o.size + 16 ≤ used l := used_mem (get_mem hg); omega
        obtain ⟨i, hi, hfi, hri⟩ := findR_some (hget.trans hg) 0
        rw [Nat.zero_add] at hfi
        refine (plainly_spoil_yes size r p q cn cq c w hl hN hB hk k6 o i hfi hri (by omega) hos (by omega) hrel.full).mono ?_
        rintro e w' ⟨v, rfl, hv, hx⟩
        rw [setR_put hrel.nodupR hri] at hv
        exact ⟨v, _, rfl, hv, hrel.set hg _, hx⟩
  by_cases k7 : c.kind % 8 = 7
  · have ha : actOf size l c = (⟨#[]⟩, (l.length : Int), []) := by unfold actOf; rw [if_neg k4, if_neg k5, if_neg k6, if_pos k7]
    rw [ha]
    refine (plainly_lose size r p q cn cq c w hl hN hk k7).mono ?_
    rintro e w' ⟨rfl, hx⟩
    exact ⟨_, [], by rw [hrel.perm.length_eq]; rfl, ⟨none, 0, none, 0, rfl, .inl rfl, .inl rfl⟩, Rel.nil, hx⟩
  · have ha : actOf size l c = (⟨#[]⟩, writeE size l c.name c.s, writeL size l c.name c.s) := by unfold actOf; rw [if_neg k4, if_neg k5, if_neg k6, if_neg k7]
    rw [ha]
    have hdu : used (dropAt r c.name) = used (dropAt l c.name) := used_perm (hrel.drop c.name).perm
    by_cases hb : c.name.size = 0 ∨ 64 < c.name.size
    · have he : writeE size l c.name c.s = 1 := by unfold writeE; rw [if_pos hb]
      unfold writeL
      rw [he]
      refine (plainly_write size r r p q cn cq c w 1 hl hN hB hk (by omega) (fun w hN hB => (refwrite_bad size r p q cn cq c.name c.s w hb).mono fun e w' ⟨he, hx⟩ => ⟨_, he, ⟨p, cn, q, cq, rfl, hN.ext hx, hB.ext hx⟩, hx⟩)).mono ?_
      rintro e w' ⟨v, rfl, hv, hx⟩
      exact ⟨v, r, rfl, hv, hrel, hx⟩
    · by_cases hr : roomFor size l c.name < c.name.size + c.s.size + 16
      · have he : writeE size l c.name c.s = 9 := by unfold writeE; rw [if_neg hb, if_pos hr]
        unfold writeL
        rw [he]
        rw [roomFor_eq hrel.nodup, ← hdu] at hr
        refine (plainly_write size r r p q cn cq c w 9 hl hN hB hk (by omega) (fun w hN hB => (refwrite_full size r p q cn cq c.name c.s w (by omega) h0 h1 (by omega) (by omega) (by omega) hs hN hB hr).mono fun e w' ⟨he, hx⟩ => ⟨_, he, ⟨p, cn, q, cq, rfl, hN.ext hx, hB.ext hx⟩, hx⟩)).mono ?_
        rintro e w' ⟨v, rfl, hv, hx⟩
        exact ⟨v, r, rfl, hv, hrel, hx⟩
      · have he : writeE size l c.name c.s = 0 := by unfold writeE; rw [if_neg hb, if_neg hr]
        unfold writeL
        rw [he]
        rw [roomFor_eq hrel.nodup, ← hdu] at hr
        refine (plainly_write size r (insertR c.name c.s (dropAt r c.name)) p q cn cq c w 0 hl hN hB hk (by omega) (fun w hN hB => refwrite_ok size r p q cn cq c.name c.s w hl h0 h1 (by omega) (by omega) (by omega) hs hN hB hr)).mono ?_
        rintro e w' ⟨v, rfl, hv, hx⟩
        refine ⟨v, _, rfl, hv, ?_, hx⟩
        simp only [if_true]
        exact hrel.put (fun h => hb (.inl (by rw [h]; rfl))) _
end Go.Proofs.Ytlihjhalbemfmaa
