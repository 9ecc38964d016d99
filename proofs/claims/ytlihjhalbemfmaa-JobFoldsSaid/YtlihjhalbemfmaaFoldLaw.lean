/- Plain law: a fold of three values is the same, whichever two come first, and in whatever order. -/
import Derived.Test.YtlihjhalbemfmaaJobFold
namespace Go.Proofs.Ytlihjhalbemfmaa
open Gs (Sm)

theorem cmpI_neg (a b : Int) : cmpI b a = -cmpI a b := by unfold cmpI; split <;> split <;> first | rfl | omega | (split <;> first | rfl | omega)
theorem cmpI_zero {a b : Int} : cmpI a b = 0 ↔ a = b := by unfold cmpI; constructor <;> (intro h; split at * <;> first | omega | (split at * <;> omega))
theorem cmpI_trans {a b c : Int} (h : cmpI a b ≤ 0) (k : cmpI b c ≤ 0) : cmpI a c ≤ 0 := by
  unfold cmpI at *; split <;> first | omega | (split <;> first | omega | (split at h <;> split at k <;> first | omega | (split at h <;> first | omega | (split at k <;> omega)) | (split at k <;> omega)))

theorem cmpB_neg : ∀ a b : List UInt8, Lib.compareBytes b a = -Lib.compareBytes a b
  | [], [] => rfl
  | [], _ :: _ => rfl
  | _ :: _, [] => rfl
  | x :: a, y :: b => by
    have ih := cmpB_neg a b
    unfold Lib.compareBytes
    by_cases h : x < y
    · have h2 : ¬ y < x := by simp only [UInt8.lt_iff_toNat_lt] at *; omega
      rw [if_pos h, if_neg h2, if_pos h]; rfl
    · by_cases h2 : y < x
      · rw [if_pos h2, if_neg h, if_pos h2]
      · rw [if_neg h2, if_neg h, if_neg h, if_neg h2]; exact ih
theorem cmpB_zero : ∀ {a b : List UInt8}, Lib.compareBytes a b = 0 → a = b
  | [], [], _ => rfl
  | [], _ :: _, h => by simp [Lib.compareBytes] at h
  | _ :: _, [], h => by simp [Lib.compareBytes] at h
  | x :: a, y :: b, h => by
    unfold Lib.compareBytes at h
    by_cases h1 : x < y
    · rw [if_pos h1] at h; omega
    · by_cases h2 : y < x
      · rw [if_neg h1, if_pos h2] at h; omega
      · rw [if_neg h1, if_neg h2] at h
        have e : x = y := by
          rw [← UInt8.toNat_inj]; simp only [UInt8.lt_iff_toNat_lt] at *; omega
        rw [e, cmpB_zero h]
theorem cmpB_self : ∀ a : List UInt8, Lib.compareBytes a a = 0
  | [] => rfl
  | x :: a => by
    have : ¬ x < x := by simp only [UInt8.lt_iff_toNat_lt]; omega
    unfold Lib.compareBytes; rw [if_neg this, if_neg this]; exact cmpB_self a
theorem cmpB_trans : ∀ {a b c : List UInt8}, Lib.compareBytes a b ≤ 0 → Lib.compareBytes b c ≤ 0 → Lib.compareBytes a c ≤ 0
  | [], _, [], _, _ => by simp [Lib.compareBytes]
  | [], _, _ :: _, _, _ => by simp [Lib.compareBytes]
  | _ :: _, [], _, h, _ => by simp [Lib.compareBytes] at h
  | _ :: _, _ :: _, [], _, h => by simp [Lib.compareBytes] at h
  | x :: a, y :: b, z :: c, h, k => by
    unfold Lib.compareBytes at h k ⊢
    by_cases h1 : x < y
    · by_cases k1 : y < z
      · rw [if_pos (by simp only [UInt8.lt_iff_toNat_lt] at *; omega)]; omega
      · rw [if_neg k1] at k
        by_cases k2 : z < y
        · rw [if_pos k2] at k; omega
        · rw [if_pos (by simp only [UInt8.lt_iff_toNat_lt] at *; omega)]; omega
    · rw [if_neg h1] at h
      by_cases h2 : y < x
      · rw [if_pos h2] at h; omega
      · rw [if_neg h2] at h
        by_cases k1 : y < z
        · rw [if_pos (by simp only [UInt8.lt_iff_toNat_lt] at *; omega)]; omega
        · rw [if_neg k1] at k
          by_cases k2 : z < y
          · rw [if_pos k2] at k; omega
          · rw [if_neg k2] at k
            rw [if_neg (by simp only [UInt8.lt_iff_toNat_lt] at *; omega), if_neg (by simp only [UInt8.lt_iff_toNat_lt] at *; omega)]
            exact cmpB_trans h k

/-- A comparison: turned about it is turned about, nought is the same, and it goes on. -/
structure IsCmp {α : Type} (c : α → α → Int) : Prop where
  neg : ∀ a b, c b a = -c a b
  trans : ∀ a b d, c a b ≤ 0 → c b d ≤ 0 → c a d ≤ 0

theorem IsCmp.zero_left {α : Type} {c : α → α → Int} (h : IsCmp c) {a b d : α} (e : c a b = 0) : c a d ≤ 0 ↔ c b d ≤ 0 := by
  have e2 := h.neg a b
  exact ⟨fun k => h.trans b a d (by omega) k, fun k => h.trans a b d (by omega) k⟩

/-- One behind the other. -/
theorem IsCmp.lex {α : Type} {c d : α → α → Int} (hc : IsCmp c) (hd : IsCmp d) : IsCmp (fun a b => if c a b = 0 then d a b else c a b) := by
  constructor
  · intro a b
    have h1 := hc.neg a b
    have h2 := hd.neg a b
    by_cases h : c a b = 0
    · rw [if_pos h, if_pos (by omega)]; exact h2
    · rw [if_neg h, if_neg (by omega)]; exact h1
  · intro a b e h k
    have n1 := hc.neg a b
    have n2 := hc.neg b e
    have n3 := hc.neg a e
    by_cases h1 : c a b = 0
    · rw [if_pos h1] at h
      by_cases k1 : c b e = 0
      · rw [if_pos k1] at k
        have t1 := hc.trans a b e (by omega) (by omega)
        have t2 := hc.trans e b a (by omega) (by omega)
        rw [if_pos (by omega)]
        exact hd.trans a b e h k
      · rw [if_neg k1] at k
        have t1 := hc.trans a b e (by omega) (by omega)
        have t2 : c a e ≠ 0 := fun z => by have := hc.trans e a b (by omega) (by omega); omega
        rw [if_neg t2]; exact t1
    · rw [if_neg h1] at h
      by_cases k1 : c b e = 0
      · have t1 := hc.trans a b e (by omega) (by omega)
        have t2 : c a e ≠ 0 := fun z => by have := hc.trans b e a (by omega) (by omega); omega
        rw [if_neg t2]; exact t1
      · rw [if_neg k1] at k
        have t1 := hc.trans a b e (by omega) (by omega)
        have t2 : c a e ≠ 0 := fun z => by have := hc.trans e a b (by omega) (by omega); omega
        rw [if_neg t2]; exact t1

theorem isCmpI {α : Type} (f : α → Int) : IsCmp (fun a b => cmpI (f a) (f b)) := ⟨fun _ _ => cmpI_neg _ _, fun _ _ _ => cmpI_trans⟩
theorem isCmpB {α : Type} (f : α → List UInt8) : IsCmp (fun a b => Lib.compareBytes (f a) (f b)) := ⟨fun _ _ => cmpB_neg _ _, fun _ _ _ => cmpB_trans⟩

theorem order_eq (a b : Val) : a.order b =
    if cmpI a.k b.k = 0 then (if cmpI a.n b.n = 0 then (if Lib.compareBytes a.s.data.toList b.s.data.toList = 0 then (if cmpI a.x b.x = 0 then cmpI a.y b.y else cmpI a.x b.x) else Lib.compareBytes a.s.data.toList b.s.data.toList) else cmpI a.n b.n) else cmpI a.k b.k := by
  have e : ∀ x : Int, (if x = 0 then 0 else x) = x := fun x => by split <;> omega
  simp only [Val.order, firstNot, e]

theorem isCmp_order : IsCmp Val.order := by
  have h := ((isCmpI Val.k).lex ((isCmpI Val.n).lex ((isCmpB fun a : Val => a.s.data.toList).lex ((isCmpI Val.x).lex (isCmpI Val.y)))))
  constructor
  · intro a b; rw [order_eq, order_eq]; exact h.neg a b
  · intro a b c; rw [order_eq, order_eq, order_eq]; exact h.trans a b c

theorem order_zero {a b : Val} (h : a.order b = 0) : a = b := by
  rw [order_eq] at h
  by_cases h1 : cmpI a.k b.k = 0
  · rw [if_pos h1] at h
    by_cases h2 : cmpI a.n b.n = 0
    · rw [if_pos h2] at h
      by_cases h3 : Lib.compareBytes a.s.data.toList b.s.data.toList = 0
      · rw [if_pos h3] at h
        by_cases h4 : cmpI a.x b.x = 0
        · rw [if_pos h4] at h
          obtain ⟨ak, an, ⟨⟨sa⟩⟩, ax, ay⟩ := a
          obtain ⟨bk, bn, ⟨⟨sb⟩⟩, bx, yb⟩ := b
          have e3 := cmpB_zero h3
          dsimp only at *
          rw [cmpI_zero] at h1 h2 h4 h
          subst h1 h2 h4 h e3
          rfl
        · rw [if_neg h4] at h; omega
      · rw [if_neg h3] at h; omega
    · rw [if_neg h2] at h; omega
  · rw [if_neg h1] at h; omega

def vmax (a b : Val) : Val := if 0 < a.order b then a else b
def vmin (a b : Val) : Val := if a.order b < 0 then a else b

theorem vmax_comm (a b : Val) : vmax a b = vmax b a := by
  unfold vmax
  have h := isCmp_order.neg a b
  by_cases h1 : 0 < a.order b
  · rw [if_pos h1, if_neg (by omega)]
  · by_cases h2 : 0 < b.order a
    · rw [if_neg h1, if_pos h2]
    · rw [if_neg h1, if_neg h2]; exact (order_zero (by omega)).symm
theorem vmin_comm (a b : Val) : vmin a b = vmin b a := by
  unfold vmin
  have h := isCmp_order.neg a b
  by_cases h1 : a.order b < 0
  · rw [if_pos h1, if_neg (by omega)]
  · by_cases h2 : b.order a < 0
    · rw [if_neg h1, if_pos h2]
    · rw [if_neg h1, if_neg h2]; exact (order_zero (by omega)).symm
theorem vmax_assoc (a b c : Val) : vmax (vmax a b) c = vmax a (vmax b c) := by
  have n1 := isCmp_order.neg a b
  have n2 := isCmp_order.neg b c
  have n3 := isCmp_order.neg a c
  unfold vmax
  by_cases h1 : 0 < a.order b <;> by_cases h2 : 0 < b.order c <;> by_cases h3 : 0 < a.order c
  · rw [if_pos h1, if_pos h2, if_pos h3, if_pos h1]
  · have := isCmp_order.trans a c b (by omega) (by omega); omega
  · rw [if_pos h1, if_pos h3, if_neg h2, if_pos h3]
  · rw [if_pos h1, if_neg h3, if_neg h2, if_neg h3]
  · rw [if_neg h1, if_pos h2, if_neg h1]
  · rw [if_neg h1, if_pos h2, if_neg h1]
  · have := isCmp_order.trans a b c (by omega) (by omega); omega
  · rw [if_neg h1, if_neg h2, if_neg h3]
theorem vmin_assoc (a b c : Val) : vmin (vmin a b) c = vmin a (vmin b c) := by
  have n1 := isCmp_order.neg a b
  have n2 := isCmp_order.neg b c
  have n3 := isCmp_order.neg a c
  unfold vmin
  by_cases h1 : a.order b < 0 <;> by_cases h2 : b.order c < 0 <;> by_cases h3 : a.order c < 0
  · rw [if_pos h1, if_pos h2, if_pos h3, if_pos h1]
  · have t := isCmp_order.trans a b c (by omega) (by omega)
    have e := order_zero (a := a) (b := c) (by omega)
    subst e; omega
  · rw [if_pos h1, if_pos h3, if_neg h2, if_pos h3]
  · rw [if_pos h1, if_neg h3, if_neg h2, if_neg h3]
  · rw [if_neg h1, if_pos h2, if_neg h1]
  · rw [if_neg h1, if_pos h2, if_neg h1]
  · have := isCmp_order.trans c b a (by omega) (by omega)
    omega
  · rw [if_neg h1, if_neg h2, if_neg h3]

theorem wrapV_assoc (a b c L : Int) (hL : 0 < L) (ha : -L ≤ a ∧ a ≤ L) (hb : -L ≤ b ∧ b ≤ L) (hc : -L ≤ c ∧ c ≤ L) : wrapV (wrapV (a + b) L + c) L = wrapV (a + wrapV (b + c) L) L := by
  unfold wrapV
  repeat' split
  all_goals omega
theorem wrapV_bd (a b L : Int) (ha : -L ≤ a ∧ a ≤ L) (hb : -L ≤ b ∧ b ≤ L) : -L ≤ wrapV (a + b) L ∧ wrapV (a + b) L ≤ L := by
  unfold wrapV
  repeat' split
  all_goals omega

theorem wrapV_comm (a b L : Int) : wrapV (a + b) L = wrapV (b + a) L := by rw [Int.add_comm]

/-- Folds of right values of one kind. -/
def Val.fold1 (f : Word) (a b : Val) : Val × Int :=
  match f with
  | .max => (vmax a b, 0)
  | .min => (vmin a b, 0)
  | .sum => if a.k = 0 then (⟨0, wrapV (a.n + b.n) 9007199254740992, ⟨#[]⟩, 0, 0⟩, 0) else if a.k = 2 then (⟨2, 0, ⟨#[]⟩, wrapV (a.x + b.x) 16777216, wrapV (a.y + b.y) 16777216⟩, 0) else (⟨0, 0, ⟨#[]⟩, 0, 0⟩, 13)
  | .gcd => if a.k = 0 then (⟨0, Int.gcd a.n b.n, ⟨#[]⟩, 0, 0⟩, 0) else if a.k = 2 then (⟨2, 0, ⟨#[]⟩, (Gs.common ⟨a.x, a.y⟩ ⟨b.x, b.y⟩).x, (Gs.common ⟨a.x, a.y⟩ ⟨b.x, b.y⟩).y⟩, 0) else (⟨0, 0, ⟨#[]⟩, 0, 0⟩, 13)

theorem fold_eq (f : Word) (a b : Val) : a.fold f b = if a.ok = true ∧ b.ok = true then (if a.k = b.k then a.fold1 f b else (⟨0, 0, ⟨#[]⟩, 0, 0⟩, 13)) else (⟨0, 0, ⟨#[]⟩, 0, 0⟩, 1) := by
  unfold Val.fold
  by_cases h : a.ok = true ∧ b.ok = true
  · rw [if_pos (by rw [h.1, h.2]; rfl), if_pos h]
    cases f <;> rfl
  · rw [if_neg (by simpa using h), if_neg h]

theorem fold1_comm (f : Word) (a b : Val) (hk : a.k = b.k) : a.fold1 f b = b.fold1 f a := by
  cases f with
  | max => simp only [Val.fold1, vmax_comm]
  | min => simp only [Val.fold1, vmin_comm]
  | sum => simp only [Val.fold1, hk, wrapV_comm b.n a.n, wrapV_comm b.x a.x, wrapV_comm b.y a.y]
  | gcd => simp only [Val.fold1, hk, Int.gcd_comm b.n a.n, Gs.common_comm ⟨b.x, b.y⟩ ⟨a.x, a.y⟩]

theorem fold_comm (f : Word) (a b : Val) : a.fold f b = b.fold f a := by
  rw [fold_eq, fold_eq]
  by_cases h : a.ok = true ∧ b.ok = true
  · rw [if_pos h, if_pos h.symm]
    by_cases hk : a.k = b.k
    · rw [if_pos hk, if_pos hk.symm]; exact fold1_comm f a b hk
    · rw [if_neg hk, if_neg (Ne.symm hk)]
  · rw [if_neg h, if_neg (fun k => h k.symm)]

theorem fold1_err (f : Word) (a b : Val) : (a.fold1 f b).2 = 0 ∨ (a.fold1 f b).2 = 13 := by
  cases f <;> simp only [Val.fold1] <;> first | exact .inl trivial | (split <;> first | exact .inl rfl | (split <;> first | exact .inl rfl | exact .inr rfl))

theorem fold_err (f : Word) (a b : Val) : (a.fold f b).2 = 0 ∨ (a.fold f b).2 = 1 ∨ (a.fold f b).2 = 13 := by
  rw [fold_eq]
  split
  · split
    · rcases fold1_err f a b with h | h
      · exact .inl h
      · exact .inr (.inr h)
    · exact .inr (.inr rfl)
  · exact .inr (.inl rfl)

theorem gcd_bd {a b : Int} (ha : -9007199254740992 ≤ a ∧ a ≤ 9007199254740992) (hb : -9007199254740992 ≤ b ∧ b ≤ 9007199254740992) : (Int.gcd a b : Int) ≤ 9007199254740992 := by
  by_cases h : a = 0
  · subst h; rw [Int.gcd_zero_left]; omega
  · have := Nat.gcd_le_left b.natAbs (show 0 < a.natAbs by omega)
    unfold Int.gcd; omega

theorem sm_of {n : Int} {s : ByteArray} {x y : Int} (h : (⟨2, n, s, x, y⟩ : Val).ok = true) : Sm ⟨x, y⟩ := (Val.ok_point h).1

/-- What comes of right values of one kind, without an error, is right and of their kind. -/
theorem fold1_ok {f : Word} {a b : Val} (ha : a.ok = true) (hb : b.ok = true) (hk : a.k = b.k) (h : (a.fold1 f b).2 = 0) : (a.fold1 f b).1.ok = true ∧ (a.fold1 f b).1.k = a.k := by
  cases f with
  | max => simp only [Val.fold1, vmax]; split; exact ⟨ha, rfl⟩; exact ⟨hb, hk.symm⟩
  | min => simp only [Val.fold1, vmin]; split; exact ⟨ha, rfl⟩; exact ⟨hb, hk.symm⟩
  | sum =>
    obtain ⟨ak, an, sa, ax, ay⟩ := a
    obtain ⟨bk, bn, sb, bx, yb⟩ := b
    dsimp only at hk
    subst hk
    rcases Val.ok_kind ha with e | e | e <;> (dsimp only at e; subst e)
    · obtain ⟨a1, a2, _⟩ := Val.ok_int ha
      obtain ⟨b1, b2, _⟩ := Val.ok_int hb
      obtain ⟨h1, h2⟩ := wrapV_bd an bn 9007199254740992 ⟨a1, a2⟩ ⟨b1, b2⟩
      simp [Val.fold1, Val.ok, h1, h2, ByteArray.toList_eq]
    · simp [Val.fold1] at h
    · obtain ⟨a1, a2, a3, a4⟩ := sm_of ha
      obtain ⟨b1, b2, b3, b4⟩ := sm_of hb
      obtain ⟨h1, h2⟩ := wrapV_bd ax bx 16777216 ⟨a1, a2⟩ ⟨b1, b2⟩
      obtain ⟨h3, h4⟩ := wrapV_bd ay yb 16777216 ⟨a3, a4⟩ ⟨b3, b4⟩
      simp [Val.fold1, Val.ok, spotOk, h1, h2, h3, h4, ByteArray.toList_eq]
  | gcd =>
    obtain ⟨ak, an, sa, ax, ay⟩ := a
    obtain ⟨bk, bn, sb, bx, yb⟩ := b
    dsimp only at hk
    subst hk
    rcases Val.ok_kind ha with e | e | e <;> (dsimp only at e; subst e)
    · obtain ⟨a1, a2, _⟩ := Val.ok_int ha
      obtain ⟨b1, b2, _⟩ := Val.ok_int hb
      have h2 := gcd_bd ⟨a1, a2⟩ ⟨b1, b2⟩
      have h1 : -9007199254740992 ≤ (Int.gcd an bn : Int) := by omega
      simp [Val.fold1, Val.ok, h1, h2, ByteArray.toList_eq]
    · simp [Val.fold1] at h
    · obtain ⟨h1, h2, h3, h4⟩ := Gs.common_small (sm_of ha) (sm_of hb)
      simp [Val.fold1, Val.ok, spotOk, h1, h2, h3, h4, ByteArray.toList_eq]

theorem fold1_assoc {f : Word} {a b c : Val} (ha : a.ok = true) (hb : b.ok = true) (hc : c.ok = true) (hab : a.k = b.k) (hbc : b.k = c.k) (h : (a.fold1 f b).2 = 0) :
    (a.fold1 f b).1.fold1 f c = a.fold1 f (b.fold1 f c).1 := by
  cases f with
  | max => simp only [Val.fold1, vmax_assoc]
  | min => simp only [Val.fold1, vmin_assoc]
  | sum =>
    obtain ⟨ak, an, sa, ax, ay⟩ := a
    obtain ⟨bk, bn, sb, bx, yb⟩ := b
    obtain ⟨ck, cn, sc, cx, cy⟩ := c
    dsimp only at hab hbc
    subst hab hbc
    rcases Val.ok_kind ha with e | e | e <;> (dsimp only at e; subst e)
    · obtain ⟨a1, a2, _⟩ := Val.ok_int ha
      obtain ⟨b1, b2, _⟩ := Val.ok_int hb
      obtain ⟨c1, c2, _⟩ := Val.ok_int hc
      simp [Val.fold1, wrapV_assoc an bn cn 9007199254740992 (by omega) ⟨a1, a2⟩ ⟨b1, b2⟩ ⟨c1, c2⟩]
    · simp [Val.fold1] at h
    · obtain ⟨a1, a2, a3, a4⟩ := sm_of ha
      obtain ⟨b1, b2, b3, b4⟩ := sm_of hb
      obtain ⟨c1, c2, c3, c4⟩ := sm_of hc
      simp [Val.fold1, wrapV_assoc ax bx cx 16777216 (by omega) ⟨a1, a2⟩ ⟨b1, b2⟩ ⟨c1, c2⟩, wrapV_assoc ay yb cy 16777216 (by omega) ⟨a3, a4⟩ ⟨b3, b4⟩ ⟨c3, c4⟩]
  | gcd =>
    obtain ⟨ak, an, sa, ax, ay⟩ := a
    obtain ⟨bk, bn, sb, bx, yb⟩ := b
    obtain ⟨ck, cn, sc, cx, cy⟩ := c
    dsimp only at hab hbc
    subst hab hbc
    rcases Val.ok_kind ha with e | e | e <;> (dsimp only at e; subst e)
    · have e : Int.gcd (Int.gcd an bn) cn = Int.gcd an (Int.gcd bn cn) := by
        unfold Int.gcd; simp only [Int.natAbs_natCast]; exact Nat.gcd_assoc _ _ _
      simp only [Val.fold1, if_true, e]
    · simp [Val.fold1] at h
    · have e := Gs.common_assoc ⟨ax, ay⟩ ⟨bx, yb⟩ ⟨cx, cy⟩
      have e0 : ¬ ((2 : Int) = 0) := by omega
      simp only [Val.fold1, if_true, if_neg e0]
      rw [show (⟨(Gs.common ⟨ax, ay⟩ ⟨bx, yb⟩).x, (Gs.common ⟨ax, ay⟩ ⟨bx, yb⟩).y⟩ : Gs.Pt) = Gs.common ⟨ax, ay⟩ ⟨bx, yb⟩ from rfl,
        show (⟨(Gs.common ⟨bx, yb⟩ ⟨cx, cy⟩).x, (Gs.common ⟨bx, yb⟩ ⟨cx, cy⟩).y⟩ : Gs.Pt) = Gs.common ⟨bx, yb⟩ ⟨cx, cy⟩ from rfl, e]

theorem fold_zero {f : Word} {a b : Val} (h : (a.fold f b).2 = 0) : a.ok = true ∧ b.ok = true ∧ a.k = b.k ∧ a.fold f b = a.fold1 f b := by
  rw [fold_eq] at h ⊢
  split at h
  · rename_i hok
    split at h
    · rename_i hk
      exact ⟨hok.1, hok.2, hk, by rw [if_pos hok, if_pos hk]⟩
    · cases h
  · cases h

theorem fold_assoc {f : Word} {a b c : Val} (h : (a.fold f b).2 = 0) (k : (b.fold f c).2 = 0) : (a.fold f b).1.fold f c = a.fold f (b.fold f c).1 := by
  obtain ⟨ha, hb, hab, e1⟩ := fold_zero h
  obtain ⟨_, hc, hbc, e2⟩ := fold_zero k
  rw [e1] at h ⊢
  rw [e2] at k ⊢
  obtain ⟨o1, k1⟩ := fold1_ok ha hb hab h
  obtain ⟨o2, k2⟩ := fold1_ok hb hc hbc k
  rw [fold_eq f (a.fold1 f b).1 c, if_pos ⟨o1, hc⟩, if_pos (by rw [k1, hab, hbc]), fold_eq f a (b.fold1 f c).1, if_pos ⟨ha, o2⟩, if_pos (by rw [k2, hab])]
  exact fold1_assoc ha hb hc hab hbc h

theorem fold_left_err {f : Word} {a b c : Val} (h : (a.fold f b).2 = 0) (k : (b.fold f c).2 = 13) : ((a.fold f b).1.fold f c).2 = 13 := by
  obtain ⟨ha, hb, hab, e1⟩ := fold_zero h
  rw [e1] at h ⊢
  obtain ⟨o1, k1⟩ := fold1_ok ha hb hab h
  have hc : c.ok = true := by
    cases hc : c.ok
    · rw [fold_eq, if_neg (by simp [hc])] at k; cases k
    · rfl
  have hbc : b.k ≠ c.k := by
    intro e
    rw [fold_eq, if_pos ⟨hb, hc⟩, if_pos e] at k
    have h2 : (a.fold1 f b).2 = (b.fold1 f c).2 := by
      cases f <;> simp only [Val.fold1, hab] <;> first | rfl | (split <;> first | rfl | (split <;> rfl))
    omega
  rw [fold_eq, if_pos ⟨o1, hc⟩, if_neg (by rw [k1, hab]; exact hbc)]

end Go.Proofs.Ytlihjhalbemfmaa
