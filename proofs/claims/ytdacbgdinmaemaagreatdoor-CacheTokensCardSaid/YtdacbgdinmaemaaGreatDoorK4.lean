/- Contracts and plain laws of this claim, part K4. -/

import Derived.Test.YtdacbgdinmaemaaGreatDoorK3
import Derived.Test.YtdacbgdinmaemaaGreatDoorK1
set_option linter.all false

namespace Go.Proofs.YtdacbgdinmaemaaGreatDoor
open Go Go.RowKit Vz

theorem bitLenAux_spec (f : Nat) : ∀ x, x < 2 ^ f → x < 2 ^ Lib.bitLenAux f x ∧ (x ≠ 0 → 2 ^ (Lib.bitLenAux f x - 1) ≤ x) := by
  induction f with
  | zero => intro x hx; simp at hx; subst hx; exact ⟨by simp [Lib.bitLenAux], fun h => absurd rfl h⟩
  | succ f ih =>
    intro x hx
    unfold Lib.bitLenAux
    by_cases h0 : x = 0
    · subst h0; simp
    · rw [if_neg h0]
      obtain ⟨h1, h2⟩ := ih (x / 2) (by rw [Nat.pow_succ] at hx; omega)
      refine ⟨by rw [Nat.add_comm, Nat.pow_succ]; omega, fun _ => ?_⟩
      rw [Nat.add_sub_cancel_left]
      by_cases h3 : x / 2 = 0
      · have : Lib.bitLenAux f (x / 2) = 0 := by rw [h3]; cases f <;> simp [Lib.bitLenAux]
        rw [this]; simp; omega
      · have h4 := h2 h3
        have h5 : Lib.bitLenAux f (x / 2) ≠ 0 := fun e => by rw [e] at h1; simp at h1; omega
        obtain ⟨n, hn⟩ : ∃ n, Lib.bitLenAux f (x / 2) = n + 1 := ⟨_, (Nat.succ_pred h5).symm⟩
        rw [hn] at h4 ⊢
        simp only [Nat.add_sub_cancel] at h4
        rw [Nat.pow_succ]; omega

theorem xor_div (a b m : Nat) : (a ^^^ b) / 2 ^ m = (a / 2 ^ m) ^^^ (b / 2 ^ m) := by
  rw [← Nat.shiftRight_eq_div_pow, ← Nat.shiftRight_eq_div_pow, ← Nat.shiftRight_eq_div_pow, Nat.shiftRight_xor_distrib]
theorem xor_zero_iff (a b : Nat) : a ^^^ b = 0 ↔ a = b := by
  constructor
  · intro e
    have h2 : a ^^^ b ^^^ b = b := by rw [e]; simp
    rw [Nat.xor_assoc, Nat.xor_self, Nat.xor_zero] at h2; exact h2
  · rintro rfl; exact Nat.xor_self _

/-- what the level of a timer says -/
theorem level_iff (now d k : Nat) (h1 : now < 2 ^ 64) (h2 : d < 2 ^ 64) (hne : now ≠ d) :
    levelOf now d = k ↔ d / 2 ^ (6 * (k + 1)) = now / 2 ^ (6 * (k + 1)) ∧ d / 2 ^ (6 * k) ≠ now / 2 ^ (6 * k) := by
  have hx : d ^^^ now < 2 ^ 64 := Nat.xor_lt_two_pow h2 h1
  have hx0 : d ^^^ now ≠ 0 := fun e => hne ((xor_zero_iff d now).1 e).symm
  obtain ⟨hu, hl⟩ := bitLenAux_spec 64 _ hx
  have hl := hl hx0
  have e1 : d / 2 ^ (6 * (k + 1)) = now / 2 ^ (6 * (k + 1)) ↔ d ^^^ now < 2 ^ (6 * (k + 1)) := by
    rw [← xor_zero_iff, ← xor_div, Nat.div_eq_zero_iff]
    constructor
    · rintro (h | h)
      · exact absurd h (Nat.ne_of_gt (Nat.two_pow_pos _))
      · exact h
    · exact .inr
  have e2 : d / 2 ^ (6 * k) ≠ now / 2 ^ (6 * k) ↔ 2 ^ (6 * k) ≤ d ^^^ now := by
    rw [ne_eq, ← xor_zero_iff, ← xor_div, Nat.div_eq_zero_iff]
    constructor
    · intro h; exact Nat.le_of_not_lt (fun x => h (.inr x))
    · rintro h (h' | h')
      · exact absurd h' (Nat.ne_of_gt (Nat.two_pow_pos _))
      · omega
  rw [e1, e2]
  unfold levelOf Lib.bitLen
  generalize Lib.bitLenAux 64 (d ^^^ now) = n at hu hl ⊢
  have hn : n ≠ 0 := fun e => by subst e; simp at hu; exact hx0 hu
  constructor
  · intro h
    refine ⟨Nat.lt_of_lt_of_le hu (Nat.pow_le_pow_right (by omega) (by omega)), Nat.le_trans (Nat.pow_le_pow_right (by omega) (by omega)) hl⟩
  · rintro ⟨ha, hb⟩
    have h3 : n - 1 < 6 * (k + 1) := by
      rcases Nat.lt_or_ge (n - 1) (6 * (k + 1)) with h | h
      · exact h
      · have := Nat.pow_le_pow_right (n := 2) (by omega) h; omega
    have h4 : 6 * k < n := by
      rcases Nat.lt_or_ge (6 * k) n with h | h
      · exact h
      · have := Nat.pow_le_pow_right (n := 2) (by omega) h; omega
    omega

theorem div_pow_add (x a b : Nat) : x / 2 ^ (a + b) = x / 2 ^ a / 2 ^ b := by rw [Nat.pow_add, Nat.div_div_eq_div_mul]

/-- the time from which a slot's timers are due -/
def fromOf (k d : Nat) : Nat := d / 2 ^ (6 * k) * 2 ^ (6 * k)
theorem fromOf_le (k d : Nat) : fromOf k d ≤ d := Nat.div_mul_le_self _ _
theorem fromOf_div (k d m : Nat) (hm : k ≤ m) : fromOf k d / 2 ^ (6 * m) = d / 2 ^ (6 * m) := by
  unfold fromOf
  obtain ⟨c, rfl⟩ : ∃ c, m = k + c := ⟨m - k, by omega⟩
  rw [show 6 * (k + c) = 6 * k + 6 * c by omega, div_pow_add, div_pow_add, Nat.mul_div_cancel _ (Nat.two_pow_pos _)]
theorem group_split (k d : Nat) : d / 2 ^ (6 * k) = d / 2 ^ (6 * (k + 1)) * 64 + slotOf k d := by
  unfold slotOf
  rw [show 6 * (k + 1) = 6 * k + 6 by omega, div_pow_add]
  have := Nat.div_add_mod (d / 2 ^ (6 * k)) 64
  omega
theorem lt_of_div {a b m : Nat} (h : a / 2 ^ m < b / 2 ^ m) : a < b := by
  rcases Nat.lt_or_ge a b with h' | h'
  · exact h'
  · have := Nat.div_le_div_right (c := 2 ^ m) h'; omega
theorem div_lt_of_ne {a b m : Nat} (h : a < b) (hne : b / 2 ^ m ≠ a / 2 ^ m) : a / 2 ^ m < b / 2 ^ m := by
  have := Nat.div_le_div_right (c := 2 ^ m) (Nat.le_of_lt h); omega

theorem spotOf_some {now d k j : Nat} (h : spotOf now d = some (k, j)) : now < d ∧ levelOf now d = k ∧ slotOf k d = j := by
  unfold spotOf at h
  split at h
  · cases h
  · rename_i hle; cases h; exact ⟨by omega, rfl, rfl⟩

/-- the time of a slot is later than now -/
theorem now_lt_from {now d k j : Nat} (h1 : now < 2 ^ 64) (h2 : d < 2 ^ 64) (h : spotOf now d = some (k, j)) : now < fromOf k d := by
  obtain ⟨hlt, hl, _⟩ := spotOf_some h
  obtain ⟨_, hne⟩ := (level_iff now d k h1 h2 (by omega)).1 hl
  have := div_lt_of_ne hlt hne
  refine lt_of_div (m := 6 * k) ?_
  rw [fromOf_div k d k (Nat.le_refl _)]; exact this

/-- where the others hang, once the time is a slot's -/
theorem spot_stays {now d0 d k j : Nat} (h1 : now < 2 ^ 64) (h2 : d0 < 2 ^ 64) (h3 : d < 2 ^ 64) (h0 : spotOf now d0 = some (k, j))
    (hmin : ∀ k' j', spotOf now d = some (k', j') → k < k' ∨ k' = k ∧ j < j') : spotOf (fromOf k d0) d = spotOf now d := by
  obtain ⟨hlt0, hl0, hs0⟩ := spotOf_some h0
  obtain ⟨he0, hne0⟩ := (level_iff now d0 k h1 h2 (by omega)).1 hl0
  have hf := now_lt_from h1 h2 h0
  have hf64 : fromOf k d0 < 2 ^ 64 := Nat.lt_of_le_of_lt (fromOf_le k d0) h2
  cases hs : spotOf now d with
  | none =>
    unfold spotOf at hs ⊢
    split at hs
    · rw [if_pos (by omega)]
    · cases hs
  | some p =>
    obtain ⟨k', j'⟩ := p
    obtain ⟨hlt, hl, hsl⟩ := spotOf_some hs
    obtain ⟨he, hne⟩ := (level_iff now d k' h1 h3 (by omega)).1 hl
    have key : fromOf k d0 < d ∧ levelOf (fromOf k d0) d = k' := by
      rcases hmin k' j' hs with hk | ⟨rfl, hj⟩
      · have e1 : ∀ m, k < m → fromOf k d0 / 2 ^ (6 * m) = now / 2 ^ (6 * m) := fun m hm => by
          rw [fromOf_div k d0 m (by omega)]
          obtain ⟨c, rfl⟩ : ∃ c, m = (k + 1) + c := ⟨m - (k + 1), by omega⟩
          rw [show 6 * (k + 1 + c) = 6 * (k + 1) + 6 * c by omega, div_pow_add, div_pow_add, he0]
        have hlt' : fromOf k d0 < d := by
          refine lt_of_div (m := 6 * k') ?_
          rw [e1 k' hk]; exact div_lt_of_ne hlt hne
        exact ⟨hlt', (level_iff _ d k' hf64 h3 (by omega)).2 ⟨by rw [e1 (k' + 1) (by omega)]; exact he, by rw [e1 k' hk]; exact hne⟩⟩
      · have g1 := group_split k' d
        have g2 := group_split k' d0
        rw [hsl] at g1; rw [hs0] at g2
        have hdiv : fromOf k' d0 / 2 ^ (6 * k') = d0 / 2 ^ (6 * k') := fromOf_div k' d0 k' (Nat.le_refl _)
        have hlt' : fromOf k' d0 < d := by
          refine lt_of_div (m := 6 * k') ?_
          rw [hdiv]; omega
        exact ⟨hlt', (level_iff _ d k' hf64 h3 (by omega)).2 ⟨by rw [fromOf_div k' d0 (k' + 1) (by omega), he, he0], by rw [hdiv]; omega⟩⟩
    show (if d ≤ fromOf k d0 then none else some (levelOf (fromOf k d0) d, slotOf (levelOf (fromOf k d0) d) d)) = _
    rw [if_neg (by omega), key.2, hsl]

/-- the word that 'first' reckons -/
theorem from_word {now d k j : Nat} (hk : k < 11) (h1 : now ≤ 4611686018427387904) (h2 : d ≤ 4611686018427387904) (h : spotOf now d = some (k, j)) :
    bits BinOp.or IntKind.u64 (IntKind.u64.wrap ((now : Int) / 2 ^ min (6 * (k + 1)) 64 * 2 ^ min (6 * (k + 1)) 64)) (IntKind.u64.wrap ((j : Int) * 2 ^ (6 * k))) = ((fromOf k d : Nat) : Int) := by
  have p64 : (2 : Nat) ^ 64 = 18446744073709551616 := by decide
  obtain ⟨hlt, hl, hs⟩ := spotOf_some h
  obtain ⟨he, _⟩ := (level_iff now d k (by omega) (by omega) (by omega)).1 hl
  have hA : now / 2 ^ min (6 * (k + 1)) 64 * 2 ^ min (6 * (k + 1)) 64 = d / 2 ^ (6 * (k + 1)) * 2 ^ (6 * (k + 1)) := by
    rcases Nat.lt_or_ge k 10 with hk' | hk'
    · rw [Nat.min_eq_left (by omega), he]
    · obtain rfl : k = 10 := by omega
      have e1 : now / 2 ^ min (6 * (10 + 1)) 64 = 0 := Nat.div_eq_of_lt (by rw [Nat.min_eq_right (by omega), p64]; omega)
      have e2 : d / 2 ^ (6 * (10 + 1)) = 0 := Nat.div_eq_of_lt (by have : (2 : Nat) ^ (6 * (10 + 1)) = 73786976294838206464 := by decide
                                                                   omega)
      rw [e1, e2]; simp
  have hS : j * 2 ^ (6 * k) ≤ d := by
    have : d / 2 ^ (6 * k) * 2 ^ (6 * k) ≤ d := Nat.div_mul_le_self _ _
    rw [group_split k d, hs, Nat.add_mul] at this; omega
  have hA' : d / 2 ^ (6 * (k + 1)) * 2 ^ (6 * (k + 1)) ≤ d := Nat.div_mul_le_self _ _
  have c1 : ((now : Int) / 2 ^ min (6 * (k + 1)) 64 * 2 ^ min (6 * (k + 1)) 64) = ((now / 2 ^ min (6 * (k + 1)) 64 * 2 ^ min (6 * (k + 1)) 64 : Nat) : Int) := by simp
  have c2 : ((j : Int) * 2 ^ (6 * k)) = ((j * 2 ^ (6 * k) : Nat) : Int) := by simp
  rw [c1, c2, hA, IntKind.wrap_u64, IntKind.wrap_u64, Int.emod_eq_of_lt (by omega) (by omega), Int.emod_eq_of_lt (by omega) (by omega), u64_or_nat _ _ (by omega) (by omega)]
  congr 1
  have hj : j < 64 := by rw [← hs]; exact slotOf_lt k d
  have hb : j * 2 ^ (6 * k) < 2 ^ (6 * (k + 1)) := by
    rw [show 6 * (k + 1) = 6 + 6 * k by omega, Nat.pow_add]
    exact Nat.mul_lt_mul_of_pos_right (by omega) (Nat.two_pow_pos _)
  rw [Nat.mul_comm (d / 2 ^ (6 * (k + 1))), ← Nat.two_pow_add_eq_or_of_lt hb]
  unfold fromOf
  rw [group_split k d, hs, Nat.add_mul, show 6 * (k + 1) = 6 + 6 * k by omega, Nat.pow_add]
  have : (2 : Nat) ^ 6 = 64 := by decide
  rw [this, Nat.mul_assoc (d / (64 * 2 ^ (6 * k))) 64, Nat.mul_comm (64 * 2 ^ (6 * k))]
end Go.Proofs.YtdacbgdinmaemaaGreatDoor

namespace Go.Proofs.YtdacbgdinmaemaaGreatDoor
open Go Go.RowKit Vz

/-- the table that bits.TrailingZeros64 reads -/
def Tab (w : World) : Prop := TabAt 1 Lib.deBruijn64tab w

set_option maxRecDepth 100000 in
set_option maxHeartbeats 400000 in
theorem first_none (b now : Nat) (tm : List (Int × Nat)) (B : WB) (w : World) (h : WheelAt w b now tm B) (hf : ∀ k, k < 11 → B.full k = 0) :
    Calls Tryz.prog 171 #[.pointer (some ⟨b, 0, none⟩)] w fun e w' => e = .returned (.tuple #[.int .i64 0, .int .i64 0, .int .u64 0, .bool false]) ∧ w' = w := by
  have hw := h.raw.cells
  have hc : ∀ k, k < 11 → w.cell? ⟨b, 2 + k * 65 + 64, none⟩ = some (.int .u64 0) := fun k hk => by
    rw [hw.cell (o := 2 + k * 65 + 64) (by omega), wcells_word now B k hk, hf k hk]; rfl
  have Hc := Lib.hid hc
  clear hc hf
  go_enter Tryz.func171, Tryz.ntmps171
  go_wp2
  go_loop [10] (fun i => ∃ k : Nat, k ≤ 11 ∧ i = .int .i64 k) (fun i => 11 - (intOf i).toNat)
  case atStart => exact ⟨0, by omega, rfl⟩
  case round =>
    obtain ⟨k, hk, rfl⟩ := hrel
    by_cases hlt : k < 11
    · have hi : (k : Int) < 11 := by omega
      have hck := Hc.out k hlt
      go_wp2
      go_round
      case rel => exact ⟨k + 1, by omega, by go_num⟩
      case measure => simp [intOf]; omega
    · obtain rfl : k = 11 := by omega
      go_wp2
      exact bodyPost_ret (v := .tuple #[.int .i64 0, .int .i64 0, .int .u64 0, .bool false]) (by simp [results, Tryz.results171, go_sem]) rfl ⟨rfl, rfl⟩

set_option maxRecDepth 100000 in
set_option maxHeartbeats 400000 in
theorem first_some (b now : Nat) (tm : List (Int × Nat)) (B : WB) (w : World) (h : WheelAt w b now tm B) (hT : Tab w) (m : Nat) (hm : m < 11) (hf : ∀ k, k < m → B.full k = 0) (hfm : B.full m ≠ 0) (d : Nat) (hd : d ≤ 4611686018427387904) (hsp : spotOf now d = some (m, Lib.ctz 64 (B.full m))) :
    Calls Tryz.prog 171 #[.pointer (some ⟨b, 0, none⟩)] w fun e w' => e = .returned (.tuple #[.int .i64 m, .int .i64 (Lib.ctz 64 (B.full m)), .int .u64 (fromOf m d), .bool true]) ∧ ∃ n, w' = w.drewN n := by
  have hw := h.raw.cells
  have hF := (h.raw.full m hm).1
  have hc0 : w.cell? ⟨b, 0, none⟩ = some (.int .u64 now) := hw.cell (o := 0) (by omega)
  have hc : ∀ k, k < m → w.cell? ⟨b, 2 + k * 65 + 64, none⟩ = some (.int .u64 0) := fun k hk => by
    rw [hw.cell (o := 2 + k * 65 + 64) (by omega), wcells_word now B k (by omega), hf k hk]; rfl
  have hcm : w.cell? ⟨b, 2 + m * 65 + 64, none⟩ = some (.int .u64 (B.full m)) := by
    rw [hw.cell (o := 2 + m * 65 + 64) (by omega), wcells_word now B m hm]
  have Hc := Lib.hid hc
  have HT := Lib.hid hT
  have hb2 := h.now
  have hfb : (((B.full m : Nat) : Int) != 0) = true := by simp; omega
  have hfb2 : (((B.full m : Nat) : Int) == 0) = false := by simp; omega
  have Hfm := Lib.hid hfm
  have HF := Lib.hid (from_word hm h.now hd hsp)
  have hslt : Lib.ctz 64 (B.full m) < 64 := by obtain ⟨_, _, h3⟩ := spotOf_some hsp; rw [← h3]; exact slotOf_lt _ _
  clear hc hf hT hfm hsp
  go_enter Tryz.func171, Tryz.ntmps171
  go_wp2
  go_loop [10] (fun i => ∃ k : Nat, k ≤ m ∧ i = .int .i64 k) (fun i => 11 - (intOf i).toNat)
  case atStart => exact ⟨0, by omega, rfl⟩
  case round =>
    obtain ⟨k, hk, rfl⟩ := hrel
    by_cases hlt : k < m
    · have hi : (k : Int) < 11 := by omega
      have hck := Hc.out k hlt
      clear hcm hfb hfb2
      go_wp2
      go_round
      case rel => exact ⟨k + 1, by omega, by go_num⟩
      case measure => simp [intOf]; omega
    · obtain rfl : k = m := by omega
      have hi : (k : Int) < 11 := by omega
      go_wp2_with fail
      refine (Tryz.bits_TrailingZeros64 (B.full k) hF _ (fun _ => HT.out)).mono ?_
      rintro e w' ⟨rfl, rfl⟩
      go_wp2_with fail
      have ha0 : 0 ≤ 6 * ((k : Int) + 1) := by omega
      have ha1 : 0 ≤ 6 * (k : Int) := by omega
      have ha2 : IntKind.i64.wrap (6 * (k : Int)) = 6 * (k : Int) := by rw [IntKind.wrap_i64]; omega
      have ha3 : IntKind.u64.wrap (Lib.ctz 64 (B.full k) : Int) = (Lib.ctz 64 (B.full k) : Int) := by rw [IntKind.wrap_u64]; omega
      go_quiet (fail)
      go_wp2
      exact bodyPost_ret (v := .tuple #[.int .i64 k, .int .i64 (Lib.ctz 64 (B.full k)), .int .u64 _, .bool true]) (by simp [results, Tryz.results171, go_sem]; rfl) rfl ⟨by rw [HF.out], _, rfl⟩
end Go.Proofs.YtdacbgdinmaemaaGreatDoor

namespace Go.Proofs.YtdacbgdinmaemaaGreatDoor
open Go Go.RowKit Vz

theorem IterAt.left {w : World} {it r : Nat} {l rem : List (Int × Bool)} (h : IterAt w it r ki Value.bool l rem) : w.rangeLeft r it = rem.length := by
  obtain ⟨es, clock, since, seen, c0, h1, h2, h3, h4, h5, h6, h7, h8, h8', h9⟩ := h
  simp only [World.rangeLeft, h1, h6]
  have := congrArg List.length h9
  simp only [List.length_map] at this
  rw [← this, ← Array.length_toList]; simp [leftOf]

theorem put_mid {tm : List (Int × Nat)} (hn : (keys tm).Nodup) {t : Int} {d : Nat} {s : Spot} (hl : lk tm t = some d) (g g' : Int → Nat → Spot) (hg : ∀ x y, x ≠ t → g x y = g' x y) (ht : g' t d = s) :
    put (tm.map fun p => (p.1, (p.2, g p.1 p.2))) t (d, s) = tm.map fun p => (p.1, (p.2, g' p.1 p.2)) := by
  induction tm with
  | nil => cases hl
  | cons p l ih =>
    unfold keys at hn ih
    rw [List.map_cons, List.nodup_cons] at hn
    rw [lk_cons] at hl
    rw [List.map_cons, List.map_cons]; unfold put
    by_cases e : p.1 = t
    · rw [if_pos e] at hl; cases hl
      simp only [e, if_true]
      rw [← ht]
      congr 1
      apply List.map_congr_left
      intro q hq
      have : q.1 ≠ t := fun x => hn.1 (by rw [e, ← x]; exact List.mem_map_of_mem hq)
      rw [hg _ _ this]
    · rw [if_neg e] at hl
      simp only [e, if_false]
      rw [ih hn.2 hl, hg _ _ e]

def tvMid (now F : Nat) (tm : List (Int × Nat)) (rk : List Int) : List (Int × (Nat × Spot)) := tm.map fun p => (p.1, (p.2, if p.1 ∈ rk then spotOf now p.2 else spotOf F p.2))
def hungMid (F : Nat) (tm : List (Int × Nat)) (rk : List Int) : Int → Option Spot := fun t => if t ∈ rk then none else (lk tm t).map (spotOf F)
theorem lk_tvMid {now F : Nat} {tm : List (Int × Nat)} {rk : List Int} {t : Int} {d : Nat} (hn : (keys tm).Nodup) (hl : lk tm t = some d) : lk (tvMid now F tm rk) t = some (d, if t ∈ rk then spotOf now d else spotOf F d) := by
  have : (t, d) ∈ tm := mem_keys_of_lk hl
  refine lk_of_mem (by unfold tvMid keys; simpa [keys, Function.comp_def] using hn) ?_
  exact List.mem_map.2 ⟨(t, d), this, rfl⟩

def WB.empty (B : WB) (k j F : Nat) : WB := { B with sm := fun k' j' => if k' = k ∧ j' = j then none else B.sm k' j', full := fun k' => if k' = k then F else B.full k' }

theorem wcells_empty (now from' : Nat) (B : WB) (k j F o : Nat) (hk : k < 11) (hj : j < 64) (ho : o < 718) :
    (if o = 0 then Value.int .u64 (from' : Int) else if o = 2 + k * 65 + 64 then Value.int .u64 (F : Int) else if o = 2 + k * 65 + j then .map none else wcells now B o) = wcells from' (B.empty k j F) o := by
  unfold wcells
  by_cases e0 : o = 0
  · rw [if_pos e0, if_pos e0]
  by_cases e1 : o = 1
  · rw [if_neg e0, if_neg (by omega), if_neg (by omega), if_neg e0, if_pos e1, if_neg e0, if_pos e1]; rfl
  by_cases e7 : o = 717
  · rw [if_neg e0, if_neg (by omega), if_neg (by omega), if_neg e0, if_neg e1, if_pos e7, if_neg e0, if_neg e1, if_pos e7]; rfl
  rw [if_neg e0, if_neg e0, if_neg e1, if_neg e7, if_neg e0, if_neg e1, if_neg e7]
  by_cases e6 : (o - 2) % 65 = 64
  · rw [if_pos e6, if_pos e6]
    simp only [WB.empty]
    by_cases ek : (o - 2) / 65 = k
    · rw [if_pos (by omega), if_pos ek]
    · rw [if_neg (by omega), if_neg (by omega), if_neg ek]
  · rw [if_neg e6, if_neg e6, if_neg (by omega)]
    simp only [WB.empty]
    by_cases ek : (o - 2) / 65 = k ∧ (o - 2) % 65 = j
    · rw [if_pos (by omega), if_pos ek]
    · rw [if_neg (by omega), if_neg ek]

/-- a slot has been taken out, and the time is its own -/
theorem spill_start {w w1 : World} {b now k j r d0 F : Nat} {tm : List (Int × Nat)} {B : WB} {ks : List Int} (h : WheelAt w b now tm B) (hk : k < 11) (hj : j < 64) (hr : B.sm k j = some r)
    (hmem : ∀ t, t ∈ ks ↔ hungOf now tm t = some (some (k, j))) (hF : F < 18446744073709551616) (hbits : ∀ i, i < 64 → (F.testBit i = true ↔ i ≠ j ∧ (B.full k).testBit i = true))
    (h0 : spotOf now d0 = some (k, j)) (hd0 : d0 ≤ 4611686018427387904) (hmin : ∀ t k' j', hungOf now tm t = some (some (k', j')) → k < k' ∨ k' = k ∧ j ≤ j')
    (hC : HoldsF w1 b 236 718 (wcells (fromOf k d0) (B.empty k j F))) (hK : Keep (fun i => i = b) w w1) :
    WheelRaw w1 b (fromOf k d0) (tvMid now (fromOf k d0) tm ks) (hungMid (fromOf k d0) tm ks) (B.empty k j F) := by
  have hw := h.raw
  have hn := h.now
  have hblk : ∀ i, B.fp b i → i ≠ b → w1.heap[i]? = w.heap[i]? := fun i hi h1 => hK.block i (hw.lt hi) h1
  have stays : ∀ t d, lk tm t = some d → t ∉ ks → spotOf (fromOf k d0) d = spotOf now d := fun t d hl ht => by
    have hd := h.due _ (mem_keys_of_lk hl)
    refine spot_stays (by omega) (by omega) (by simp at hd; omega) h0 fun k' j' hs => ?_
    have hh : hungOf now tm t = some (some (k', j')) := by unfold hungOf; rw [hl]; simp [hs]
    rcases hmin t k' j' hh with h1 | ⟨h1, h2⟩
    · exact .inl h1
    · refine .inr ⟨h1, Nat.lt_of_le_of_ne h2 fun e => ht ((hmem t).2 ?_)⟩
      rw [hh, h1, e]
  have hung1 : ∀ t, hungMid (fromOf k d0) tm ks t = if t ∈ ks then none else hungOf now tm t := fun t => by
    unfold hungMid; by_cases ht : t ∈ ks
    · rw [if_pos ht, if_pos ht]
    · rw [if_neg ht, if_neg ht]; unfold hungOf
      cases hl : lk tm t with
      | none => rfl
      | some d => simp [stays t d hl ht]
  have hu : ∀ (x : Int) (s : Spot), s ≠ some (k, j) → (hungMid (fromOf k d0) tm ks x = some s ↔ hungOf now tm x = some s) := fun x s hne => by
    rw [hung1]; by_cases ht : x ∈ ks
    · rw [if_pos ht]; have := (hmem x).1 ht; rw [this]; simp [Ne.symm hne]
    · rw [if_neg ht]
  have hu0 : ∀ x : Int, hungMid (fromOf k d0) tm ks x ≠ some (some (k, j)) := fun x => by
    rw [hung1]; by_cases ht : x ∈ ks
    · rw [if_pos ht]; simp
    · rw [if_neg ht]; exact fun e => ht ((hmem x).2 e)
  have htv : tvMid now (fromOf k d0) tm ks = tvOf now tm := by
    unfold tvMid tvOf; apply List.map_congr_left; rintro ⟨t, d⟩ hp
    by_cases ht : t ∈ ks
    · simp [ht]
    · simp [ht, stays t d (lk_of_mem h.nodup hp) ht]
  refine ⟨hC, ?_, ?_, fun k' j' hk' hj' => ?_, fun k' hk' => ?_, fun x k' j' hx => ?_, hw.apart1, fun k' j' r' hk' hj' hr' => ?_, fun k1 j1 k2 j2 r' h1 h2 h3 h4 h5 h6 => ?_⟩
  · rw [htv]; exact hw.timers.of_block (hblk _ (.inr (.inl rfl)) hw.apart1.1.symm)
  · exact (hw.over.of_block (hblk _ (.inr (.inr (.inl rfl))) hw.apart1.2.1.symm)).congr fun x => (hu x none (by simp)).symm
  · show SlotAt w1 (if k' = k ∧ j' = j then none else B.sm k' j') _
    by_cases e : k' = k ∧ j' = j
    · rw [if_pos e, e.1, e.2]; exact hu0
    · rw [if_neg e]
      have hs := hw.slots k' j' hk' hj'
      have hne : (some (k', j') : Spot) ≠ some (k, j) := fun x => by cases x; exact e ⟨rfl, rfl⟩
      cases hrr : B.sm k' j' with
      | none => rw [hrr] at hs; intro x hx; exact hs x ((hu x _ hne).1 hx)
      | some r' =>
        rw [hrr] at hs
        exact (SetAt.of_block hs (hblk r' (.inr (.inr (.inr ⟨k', j', hk', hj', hrr⟩))) (hw.apart2 k' j' r' hk' hj' hrr).1)).congr fun x => (hu x _ hne).symm
  · show (if k' = k then F else B.full k') < _ ∧ ∀ i, i < 64 → ((if k' = k then F else B.full k').testBit i = true ↔ _)
    by_cases e : k' = k
    · subst e; rw [if_pos rfl]
      refine ⟨hF, fun i hi => (hbits i hi).trans ?_⟩
      rw [(hw.full k' hk').2 i hi]
      by_cases ei : i = j
      · subst ei; simp only [ne_eq, not_true_eq_false, false_and, false_iff]; rintro ⟨x, hx⟩; exact hu0 x hx
      · have hne : (some (k', i) : Spot) ≠ some (k', j) := fun x => by cases x; exact ei rfl
        simp only [ne_eq, ei, not_false_eq_true, true_and]
        exact ⟨fun ⟨x, hx⟩ => ⟨x, (hu x _ hne).2 hx⟩, fun ⟨x, hx⟩ => ⟨x, (hu x _ hne).1 hx⟩⟩
    · rw [if_neg e]
      refine ⟨(hw.full k' hk').1, fun i hi => ((hw.full k' hk').2 i hi).trans ?_⟩
      have hne : (some (k', i) : Spot) ≠ some (k, j) := fun x => by cases x; exact e rfl
      exact ⟨fun ⟨x, hx⟩ => ⟨x, (hu x _ hne).2 hx⟩, fun ⟨x, hx⟩ => ⟨x, (hu x _ hne).1 hx⟩⟩
  · rw [hung1] at hx; by_cases ht : x ∈ ks
    · rw [if_pos ht] at hx; cases hx
    · rw [if_neg ht] at hx; exact hw.bound x k' j' hx
  · simp only [WB.empty] at hr'
    by_cases e : k' = k ∧ j' = j
    · rw [if_pos e] at hr'; cases hr'
    · rw [if_neg e] at hr'; exact hw.apart2 k' j' r' hk' hj' hr'
  · simp only [WB.empty] at h5 h6
    by_cases e1 : k1 = k ∧ j1 = j
    · rw [if_pos e1] at h5; cases h5
    · rw [if_neg e1] at h5
      by_cases e2 : k2 = k ∧ j2 = j
      · rw [if_pos e2] at h6; cases h6
      · rw [if_neg e2] at h6; exact hw.apart3 k1 j1 k2 j2 r' h1 h2 h3 h4 h5 h6
theorem fp_empty {B : WB} {b k j F r i : Nat} (hk : k < 11) (hj : j < 64) (hr : B.sm k j = some r) (h3 : ∀ k' j', k' < 11 → j' < 64 → B.sm k' j' = some r → k' = k ∧ j' = j) (hne : r ≠ b ∧ r ≠ B.mt ∧ r ≠ B.mo) (h : (B.empty k j F).fp b i) : B.fp b i ∧ i ≠ r := by
  rcases h with rfl | rfl | rfl | ⟨k', j', hk', hj', hs⟩
  · exact ⟨.inl rfl, hne.1.symm⟩
  · exact ⟨.inr (.inl rfl), hne.2.1.symm⟩
  · exact ⟨.inr (.inr (.inl rfl)), hne.2.2.symm⟩
  · simp only [WB.empty] at hs
    by_cases e : k' = k ∧ j' = j
    · rw [if_pos e] at hs; cases hs
    · rw [if_neg e] at hs
      exact ⟨.inr (.inr (.inr ⟨k', j', hk', hj', hs⟩)), fun x => by subst x; exact e (h3 k' j' hk' hj' hs)⟩
end Go.Proofs.YtdacbgdinmaemaaGreatDoor

namespace Go.Proofs.YtdacbgdinmaemaaGreatDoor
open Go Go.RowKit Vz

def SpillRel (w : World) (b now F r it : Nat) (tm : List (Int × Nat)) (B : WB) (ks : List Int) (wr : World) : Prop :=
  ∃ rk B', IterAt wr it r ki Value.bool (tru ks) (tru rk) ∧ rk.Nodup ∧ (∀ x, x ∈ rk → x ∈ ks) ∧ WheelRaw wr b F (tvMid now F tm rk) (hungMid F tm rk) B' ∧
    Keep (B.fp b) w wr ∧ w.heap.size < wr.heap.size ∧ ∀ i, B'.fp b i → (B.fp b i ∧ i ≠ r) ∨ w.heap.size < i

theorem tru_split {rk : List Int} {r1 r2 : List (Int × Bool)} {p : Int × Bool} (h : tru rk = r1 ++ p :: r2) : ∃ k1 k2, rk = k1 ++ p.1 :: k2 ∧ r1 = tru k1 ∧ r2 = tru k2 ∧ p.2 = true := by
  unfold tru at h
  obtain ⟨k1, k', h1, h2, h3⟩ := List.map_eq_append_iff.1 h
  obtain ⟨a, k2, h4, h5, h6⟩ := List.map_eq_cons_iff.1 h3
  subst h4
  exact ⟨k1, k2, by rw [h1, ← h5], h2.symm, h6.symm, by rw [← h5]⟩

theorem tru_append (a b : List Int) : tru (a ++ b) = tru a ++ tru b := by simp [tru]

/-- the round's hang brings the relation on -/
theorem spill_round {w wr w2 : World} {b now F r it : Nat} {tm : List (Int × Nat)} {B B' : WB} {ks k1 k2 : List Int} {t : Int} {d : Nat} (hn : (keys tm).Nodup) (hl : lk tm t = some d)
    (hnd : (k1 ++ t :: k2).Nodup) (hsub : ∀ x, x ∈ k1 ++ t :: k2 → x ∈ ks) (hI : IterAt wr it r ki Value.bool (tru ks) (tru (k1 ++ k2)))
    (hK : Keep (B.fp b) w wr) (hz : w.heap.size < wr.heap.size) (hfp : ∀ i, B'.fp b i → (B.fp b i ∧ i ≠ r) ∨ w.heap.size < i) (hit : it = w.heap.size) (hitf : ¬ B.fp b it) (hrl : r < w.heap.size)
    (hp : HangPost b F d t (tvMid now F tm (k1 ++ t :: k2)) (hungMid F tm (k1 ++ t :: k2)) B' wr w2) : SpillRel w b now F r it tm B ks w2 ∧ w2.rangeLeft r it = (k1 ++ k2).length := by
  obtain ⟨B2, h1, h2, h3⟩ := hp
  have hnt : t ∉ k1 ++ k2 := by
    have := List.nodup_append.1 hnd
    have h4 := List.nodup_cons.1 this.2.1
    intro h; rcases List.mem_append.1 h with h | h
    · exact this.2.2 t h t (by simp) rfl
    · exact h4.1 h
  have hiff : ∀ x, x ≠ t → (x ∈ k1 ++ t :: k2 ↔ x ∈ k1 ++ k2) := fun x hx => by simp [hx]
  have e1 : put (tvMid now F tm (k1 ++ t :: k2)) t (d, spotOf F d) = tvMid now F tm (k1 ++ k2) := by
    unfold tvMid
    exact put_mid hn hl (fun x y => if x ∈ k1 ++ t :: k2 then spotOf now y else spotOf F y) (fun x y => if x ∈ k1 ++ k2 then spotOf now y else spotOf F y) (fun x y hx => by simp only [hiff x hx]) (by simp only [hnt, if_false])
  have e2 : upd (hungMid F tm (k1 ++ t :: k2)) t (some (spotOf F d)) = hungMid F tm (k1 ++ k2) := by
    funext x; unfold upd hungMid
    by_cases e : x = t
    · subst e; rw [if_pos rfl, if_neg hnt, hl]; rfl
    · simp only [if_neg e, hiff x e]
  rw [e1, e2] at h1
  have hnr : ¬ B'.fp b r := fun h => by
    rcases hfp r h with h | h
    · exact h.2 rfl
    · omega
  have hnit : ¬ B'.fp b it := fun h => by
    rcases hfp it h with h | h
    · exact hitf h.1
    · omega
  have hI2 := hI.keep h2 hnr hnit
  refine ⟨⟨k1 ++ k2, B2, hI2, (List.nodup_append.1 hnd) |> fun h => ?_, fun x hx => hsub x ?_, h1, hK.trans h2 (fun _ h => h) (fun i hi h => ?_), Nat.lt_of_lt_of_le hz h2.size, fun i hi => ?_⟩, by rw [IterAt.left hI2]; simp [tru]⟩
  · have h4 := List.nodup_cons.1 h.2.1
    rw [List.nodup_append]; exact ⟨h.1, h4.2, fun a ha c hc => h.2.2 a ha c (List.mem_cons_of_mem _ hc)⟩
  · rcases List.mem_append.1 hx with h | h
    · exact List.mem_append_left _ h
    · exact List.mem_append_right _ (List.mem_cons_of_mem _ h)
  · rcases hfp i h with h | h
    · exact h.1
    · omega
  · rcases h3 i hi with h | h
    · exact hfp i h
    · exact .inr (by omega)

theorem field_spot0 (x y z : Value) (w : World) : (Instr.field 241 (.agg #[x, y, z]) 0).run Tryz.prog w = .ok x w := by kernel_rfl

set_option maxRecDepth 100000 in
set_option maxHeartbeats 1000000 in
theorem spill_any (b now k j r d0 : Nat) (tm : List (Int × Nat)) (B : WB) (w : World) (h : WheelAt w b now tm B) (hk : k < 11) (hj : j < 64) (hr : B.sm k j = some r)
    (h0 : spotOf now d0 = some (k, j)) (hd0 : d0 ≤ 4611686018427387904) (hmin : ∀ t k' j', hungOf now tm t = some (some (k', j')) → k < k' ∨ k' = k ∧ j ≤ j') :
    Calls Tryz.prog 172 #[.pointer (some ⟨b, 0, none⟩), .int .i64 k, .int .i64 j, .int .u64 (fromOf k d0)] w fun e w' => e = .returned (.tuple #[]) ∧ WheelPost b (fromOf k d0) tm B w w' := by
  have hw := h.raw
  have hb := hw.cells.lt
  have hki : (k : Int) < 11 := by omega
  have hji : (j : Int) < 64 := by omega
  have hap := hw.apart2 k j r hk hj hr
  have hap3 : ∀ k' j', k' < 11 → j' < 64 → B.sm k' j' = some r → k' = k ∧ j' = j := fun k' j' h1 h2 h3 => hw.apart3 k' j' k j r h1 h2 hk hj h3 hr
  have hR : SetAt w r (fun t => hungOf now tm t = some (some (k, j))) := by have := hw.slots k j hk hj; rw [hr] at this; exact this
  obtain ⟨ks, hks, hnd, hmem⟩ := hR
  have hsl : w.cell? ⟨b, 2 + k * 65 + j, none⟩ = some (.map (some r)) := by rw [hw.cells.cell (o := 2 + k * 65 + j) (by omega), wcells_slot now B k j hk hj, hr]
  have hfl : w.cell? ⟨b, 2 + k * 65 + 64, none⟩ = some (.int .u64 (B.full k)) := by rw [hw.cells.cell (o := 2 + k * 65 + 64) (by omega), wcells_word now B k hk]
  have hc0 : w.cell? ⟨b, 0, none⟩ = some (.int .u64 now) := hw.cells.cell (o := 0) (by omega)
  have hz0 := hw.cells.frozen 0
  have hz1 := hw.cells.frozen (2 + k * 65 + j)
  have hz2 := hw.cells.frozen (2 + k * 65 + 64)
  have hfull := (hw.full k hk).1
  obtain ⟨e1, e2, e3⟩ := word_andNot (B.full k) j hfull hj
  have E1 := Lib.hid e1
  have E3 := Lib.hid e3
  have Hr := Lib.hid hr
  have H0 := Lib.hid h0
  have Hm := Lib.hid hmem
  have Hmin := Lib.hid hmin
  have Hap3 := Lib.hid hap3
  clear e1 e3 hr h0 hmem hmin hap3
  have Hget : Hid (∀ t, t ∈ ks → ∃ d, lk tm t = some d ∧ spotOf now d = some (k, j)) := by
    intro t ht
    have this : hungOf now tm t = some (some (k, j)) := (Hm.out t).1 ht
    unfold hungOf at this
    cases hl : lk tm t with
    | none => rw [hl] at this; cases this
    | some d => rw [hl] at this; exact ⟨d, rfl, by simpa using this⟩
  have hfs := field_spot0
  go_enter Tryz.func172, Tryz.ntmps172
  go_wp2_with fail
  refine wp_region_still_tail 9 (by kernel_rfl) (by kernel_rfl) ?_
  simp only [List.take_succ_cons, List.take_zero, List.drop_succ_cons, List.drop_zero, World.drew_eq]
  repeat still_step
  refine wpStill_nil ?_
  go_wp2_with (at_range; refine wpList_range_at rfl _ _ rfl und_boolmap rfl (hks.of_block (((Below.heap_setCell _ _ _ _ (by exact hap.1)).trans (Below.heap_setCell _ _ _ _ (by exact hap.1))).trans (Below.heap_setCell _ _ _ _ (by exact hap.1)))) ?_; intro ob hit; simp only [World.size_drew, World.size_setCell] at hit ⊢)
  go_frame
  go_loopw [10] (fun _ wr => SpillRel w b now (fromOf k d0) r w.heap.size tm B ks wr) (fun _ wr => wr.rangeLeft r w.heap.size)
  case atStart =>
    have hC := ((hw.cells.setCell (2 + k * 65 + j) (.map none)).setCell (2 + k * 65 + 64) (.int .u64 ((B.full k &&& (18446744073709551615 - 2 ^ j) : Nat) : Int))).setCell 0 (.int .u64 (fromOf k d0 : Int))
    rw [E1.out] at hit ⊢
    have hK1 : Keep (fun i => i = b) w _ := ((((((Keep.refl (fun i => i = b) w).setCell (p := ⟨b, 2 + k * 65 + j, none⟩) (fun _ => rfl) (.map none)).setCell (p := ⟨b, 2 + k * 65 + 64, none⟩) (fun _ => rfl) (.int .u64 ((B.full k &&& (18446744073709551615 - 2 ^ j) : Nat) : Int))).setCell (p := ⟨b, 0, none⟩) (fun _ => rfl) (.int .u64 (fromOf k d0 : Int))).drew).alloc ob)
    have hbig : WheelRaw _ b (fromOf k d0) (tvMid now (fromOf k d0) tm ks) (hungMid (fromOf k d0) tm ks) (B.empty k j (B.full k &&& (18446744073709551615 - 2 ^ j))) :=
      spill_start h hk hj Hr.out Hm.out e2 (fun i hi => by rw [E3.out i hi, Bool.and_eq_true]; simp [and_comm]) H0.out hd0 Hmin.out
        (((hC.of_block (w' := World.drew _) rfl).of_block (Below.heap_alloc (World.drew _) ob _ (by simp; omega))).congr fun o ho => wcells_empty now (fromOf k d0) B k j _ o hk hj ho) hK1
    exact ⟨ks, _, hit, hnd, fun _ h => h, hbig, hK1.mono (fun i _ e => .inl e), by simp, fun i hi => .inl (fp_empty hk hj Hr.out Hap3.out hap hi)⟩
  case round =>
    obtain ⟨rk, B', hI, hrn, hsub, hW, hKr, hzr, hfp⟩ := hrel
    have HL := Lib.hid (IterAt.left hI)
    cases rk with
    | nil =>
      go_wp2_with (at_next; refine wpList_next_done rfl _ rfl rfl hI ?_)
      refine bodyPost_end (results_none rfl _ _ _) rfl ?_
      refine ⟨rfl, B', ⟨?_, h.nodup, h.due, Nat.le_trans (fromOf_le k d0) hd0⟩, hKr, fun i hi => (hfp i hi).elim (fun x => .inl x.1) (fun x => .inr (by omega))⟩
      have e1 : tvMid now (fromOf k d0) tm [] = tvOf (fromOf k d0) tm := by unfold tvMid tvOf; simp
      have e2 : hungMid (fromOf k d0) tm [] = hungOf (fromOf k d0) tm := by funext t; unfold hungMid hungOf; simp
      rw [e1, e2] at hW; exact hW
    | cons t0 rk0 =>
      have hne : tru (t0 :: rk0) ≠ [] := by simp [tru]
      generalize t0 :: rk0 = rk at *
      have hitf : ¬ B'.fp b w.heap.size := fun x => (hfp _ x).elim (fun y => absurd (hw.lt y.1) (by omega)) (fun y => by omega)
      go_wp2_with (first
        | (at_next; refine wpList_next_more rfl _ rfl rfl hI hne ?_; intro r1 t v r2 w2 hsp hk2 hz2 hI2 hen; dsimp only [ki] at hen ⊢; obtain ⟨k1, k2, hrk, hr1, hr2, hv⟩ := tru_split hsp; have hW2 := hW.keep hk2 (fun i hi e => hitf (e ▸ hi)); have hc1 : w2.cell? ⟨b, 1, none⟩ = some (.map (some B'.mt)) := hW2.cells.cell (o := 1) (by omega); have htm : t ∈ rk := by rw [hrk]; simp
           obtain ⟨d, hd1, hd2⟩ := Hget.out t (hsub t htm); have Hlk := Lib.hid (lk_tvMid (now := now) (F := fromOf k d0) (rk := rk) h.nodup hd1); clear hd2)
        | (at_lookup; refine wpList_lookup_at rfl _ _ _ rfl kInt und_spotmap (zspot _) rfl hW2.timers t rfl ?_; rw [Hlk.out]; simp only [Option.map_some, Option.getD_some, spotV]))
      have hdm := h.due _ (mem_keys_of_lk hd1)
      refine (hang_any b (fromOf k d0) d t _ _ B' w2 hW2 (by unfold hungMid; rw [if_pos htm]) (by simp at hdm; omega) (by have := fromOf_le k d0; omega)).mono ?_
      rintro e w3 ⟨rfl, hp⟩
      go_wp2_with fail
      subst hr1 hr2 hrk
      rw [← tru_append] at hI2
      have hrel := spill_round h.nodup hd1 hrn hsub hI2 (hKr.trans hk2 (fun _ h => h) (fun i hi e => absurd hi (by omega))) (by omega) hfp rfl (fun x => absurd (hw.lt x) (by omega)) hks.lt hp
      go_roundw
      case rel => exact hrel.1
      case measure => rw [hrel.2, HL.out]; simp [tru]
end Go.Proofs.YtdacbgdinmaemaaGreatDoor

namespace Go.Proofs.YtdacbgdinmaemaaGreatDoor
open Go Go.RowKit Vz Go.Sort

def dueIn (tm : List (Int × Nat)) (t : Int) : Nat := (lk tm t).getD 0
/-- the order of Go's answer: by the time, then by the number -/
def cmpDue (tm : List (Int × Nat)) (x y : Int) : Int := if cmpI (dueIn tm x) (dueIn tm y) = 0 then cmpI x y else cmpI (dueIn tm x) (dueIn tm y)

theorem run_spot (now mt : Nat) (tm : List (Int × Nat)) (w : World) (hM : MapAt w mt ki spotV (tvOf now tm)) (x : Int) :
    ∃ s t, (Instr.lookup 229 (.map (some mt)) (.int .i64 x) false).run Tryz.prog w = .ok (.agg #[.int .u64 (dueIn tm x), s, t]) w := by
  have h := run_lookup_at (P := Tryz.prog) (T := 229) kInt und_spotmap (zspot w) hM x false
  rw [lk_tvOf] at h
  unfold dueIn
  cases hl : lk tm x with
  | none => rw [hl] at h; exact ⟨_, _, h⟩
  | some d => rw [hl] at h; exact ⟨_, _, h⟩

theorem or_due (s : Nat) (tm : List (Int × Nat)) (x y : Int) (w : World) (h0 : w.cell? ⟨s, 0, none⟩ = some (.int .i64 (cmpI (dueIn tm x) (dueIn tm y)))) (h1 : w.cell? ⟨s, 1, none⟩ = some (.int .i64 (cmpI x y))) :
    Calls Tryz.prog 176 #[.slice (some ⟨s, 0, none⟩) 2 2] w fun e w' => e = .returned (.int .i64 (cmpDue tm x y)) ∧ w' = w := or_two s _ _ w h0 h1

set_option maxRecDepth 100000 in
set_option maxHeartbeats 400000 in
theorem go_cmp (b bx now mt : Nat) (tm : List (Int × Nat)) (w : World) (x y : Int) (hbx : w.cell? ⟨bx, 0, none⟩ = some (.pointer (some ⟨b, 0, none⟩))) (hc1 : w.cell? ⟨b, 1, none⟩ = some (.map (some mt)))
    (hM : MapAt w mt ki spotV (tvOf now tm)) :
    Calls Tryz.prog 175 #[.int .i64 x, .int .i64 y, .pointer (some ⟨bx, 0, none⟩)] w fun e w' => e = .returned (.int .i64 (cmpDue tm x y)) ∧ ∃ q os', w' = grow (w.drewN q) os' := by
  obtain ⟨s1, t1, hl1⟩ := run_spot now mt tm w.drew hM x
  obtain ⟨s2, t2, hl2⟩ := run_spot now mt tm w.drew hM y
  have hf1 := field_spot0 (.int .u64 (dueIn tm x)) s1 t1 w.drew
  have hf2 := field_spot0 (.int .u64 (dueIn tm y)) s2 t2 w.drew
  go_enter Tryz.func175, Tryz.ntmps175
  go_wp2_with fail
  refine wp_region_still_tail 18 (by kernel_rfl) (by kernel_rfl) ?_
  simp only [List.take_succ_cons, List.take_zero, List.drop_succ_cons, List.drop_zero, World.drew_eq]
  repeat still_step
  still_call (compareU64 _ _ _)
  still_step
  still_step
  still_call (compareInt _ _ _)
  refine wpStill_nil ?_
  go_wp2_with fail
  refine (or_due _ tm x y _ (by simp) (by simp)).mono ?_
  rintro e w' ⟨rfl, rfl⟩
  go_wp2_with fail
  go_ret
  exact ⟨rfl, 1, #[_], (alloc_eq_grow w.drew _)⟩
end Go.Proofs.YtdacbgdinmaemaaGreatDoor
