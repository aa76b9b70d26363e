/- Contracts and plain laws of this claim, part K5. -/
import Derived.Lib.TrailingZeros
import Derived.RangeFuncNested
import Derived.RangeFuncBound
import Derived.RangeFuncCalls
import Derived.RangeFuncLeaves
import Derived.RangeFuncBox
import Derived.Shelf.Abstract
import Derived.Shelf.RegionOpen
import Derived.OwnWalkIn
import Derived.TacticsInMore
import Derived.LoopNIn
import Derived.LoopIn
import Derived.Maps.AppendAt
import Derived.Sort.MapsRangeIn
import Derived.Sort.OwnSortedInts
import Derived.Shelf.SlSortCmp.Kit1
import Derived.Test.YtdacbgdinmaemaaGreatDoorProg
import Derived.Test.YtdacbgdinmaemaaGreatDoorK4
import Derived.Test.YtdacbgdinmaemaaGreatDoorK1
import Derived.Test.YtdacbgdinmaemaaGreatDoorShelf
set_option linter.all false

namespace Go.Proofs.YtdacbgdinmaemaaGreatDoor
open Go Go.RowKit Vz Go.Sort

theorem spot_go {now target d : Nat} (h1 : now ≤ target) (ht : target < 2 ^ 64) (h3 : d < 2 ^ 64) (h : ∀ k j, spotOf now d = some (k, j) → target < fromOf k d) : spotOf target d = spotOf now d := by
  cases hs : spotOf now d with
  | none =>
    unfold spotOf at hs ⊢
    split at hs
    · rw [if_pos (by omega)]
    · cases hs
  | some p =>
    obtain ⟨k, j⟩ := p
    obtain ⟨hlt, hl, hsl⟩ := spotOf_some hs
    obtain ⟨he, hne⟩ := (level_iff now d k (by omega) h3 (by omega)).1 hl
    have hf := h k j hs
    have hfd := fromOf_le k d
    have e1 : d / 2 ^ (6 * (k + 1)) = target / 2 ^ (6 * (k + 1)) := by
      have a1 : now / 2 ^ (6 * (k + 1)) ≤ target / 2 ^ (6 * (k + 1)) := Nat.div_le_div_right h1
      have a2 : target / 2 ^ (6 * (k + 1)) ≤ d / 2 ^ (6 * (k + 1)) := Nat.div_le_div_right (by omega)
      omega
    have e2 : d / 2 ^ (6 * k) ≠ target / 2 ^ (6 * k) := by
      have : target / 2 ^ (6 * k) < d / 2 ^ (6 * k) := by
        rw [Nat.div_lt_iff_lt_mul (Nat.two_pow_pos _)]; exact hf
      omega
    have hk := (level_iff target d k ht h3 (by omega)).2 ⟨e1, e2⟩
    unfold spotOf
    rw [if_neg (by omega), hk, hsl]

theorem from_mono {now d0 d k j k' j' : Nat} (h1 : now < 2 ^ 64) (h2 : d0 < 2 ^ 64) (h3 : d < 2 ^ 64) (h0 : spotOf now d0 = some (k, j)) (h : spotOf now d = some (k', j')) (hm : k < k' ∨ k' = k ∧ j ≤ j') :
    fromOf k d0 ≤ fromOf k' d := by
  obtain ⟨hlt0, hl0, hs0⟩ := spotOf_some h0
  obtain ⟨he0, hne0⟩ := (level_iff now d0 k h1 h2 (by omega)).1 hl0
  obtain ⟨hlt, hl, hsl⟩ := spotOf_some h
  obtain ⟨he, hne⟩ := (level_iff now d k' h1 h3 (by omega)).1 hl
  rcases hm with hk | ⟨rfl, hj⟩
  · have e1 : d0 / 2 ^ (6 * k') = now / 2 ^ (6 * k') := by
      obtain ⟨c, rfl⟩ : ∃ c, k' = (k + 1) + c := ⟨k' - (k + 1), by omega⟩
      rw [show 6 * (k + 1 + c) = 6 * (k + 1) + 6 * c by omega, div_pow_add, div_pow_add, he0]
    have : d0 < fromOf k' d := by
      refine lt_of_div (m := 6 * k') ?_
      rw [e1, fromOf_div k' d k' (Nat.le_refl _)]; exact div_lt_of_ne hlt hne
    have := fromOf_le k d0
    omega
  · have g1 := group_split k' d
    have g2 := group_split k' d0
    unfold fromOf
    refine Nat.mul_le_mul_right _ ?_
    rw [g1, g2, he, he0, hsl, hs0]; omega

theorem ctz_bit {x : Nat} (h0 : x ≠ 0) (hx : x < 18446744073709551616) : x.testBit (Lib.ctz 64 x) = true ∧ Lib.ctz 64 x < 64 ∧ ∀ i, i < Lib.ctz 64 x → x.testBit i = false := by
  obtain ⟨m, hm, hlt⟩ := Lib.ctzFrom_spec 64 x (by omega) hx
  have e : Lib.ctz 64 x = Lib.ctzFrom 64 x := by unfold Lib.ctz; rw [if_neg h0]
  rw [e]
  generalize Lib.ctzFrom 64 x = c at *
  subst hm
  refine ⟨?_, hlt, fun i hi => ?_⟩
  · rw [Nat.testBit_two_pow_mul]; simp
  · rw [Nat.testBit_two_pow_mul]; simp; omega

theorem least_or (p : Nat → Prop) (n : Nat) : (∀ k, k < n → ¬ p k) ∨ ∃ m, m < n ∧ p m ∧ ∀ k, k < m → ¬ p k := by
  induction n with
  | zero => exact .inl (fun k hk => absurd hk (by omega))
  | succ n ih =>
    rcases ih with h | ⟨m, h1, h2⟩
    · by_cases hp : p n
      · exact .inr ⟨n, by omega, hp, h⟩
      · refine .inl fun k hk => ?_
        rcases Nat.lt_or_ge k n with hk' | hk'
        · exact h k hk'
        · obtain rfl : k = n := by omega
          exact hp
    · exact .inr ⟨m, by omega, h2⟩

theorem first_any (b now : Nat) (tm : List (Int × Nat)) (B : WB) (w : World) (h : WheelAt w b now tm B) (hT : Tab w) :
    Calls Tryz.prog 171 #[.pointer (some ⟨b, 0, none⟩)] w fun e w' => (∃ n, w' = w.drewN n) ∧
      ((e = .returned (.tuple #[.int .i64 0, .int .i64 0, .int .u64 0, .bool false]) ∧ ∀ p ∈ tm, p.2 ≤ now) ∨
       (∃ k j d0 r, e = .returned (.tuple #[.int .i64 (k : Nat), .int .i64 (j : Nat), .int .u64 (fromOf k d0 : Nat), .bool true]) ∧ k < 11 ∧ j < 64 ∧ d0 ≤ 4611686018427387904 ∧ spotOf now d0 = some (k, j) ∧ B.sm k j = some r ∧
         ∀ t k' j', hungOf now tm t = some (some (k', j')) → k < k' ∨ k' = k ∧ j ≤ j')) := by
  have hw := h.raw
  rcases least_or (fun k => B.full k ≠ 0) 11 with hf | ⟨m, hm, hfm, hf⟩
  · refine (first_none b now tm B w h (fun k hk => by simpa using hf k hk)).mono ?_
    rintro e w' ⟨rfl, rfl⟩
    refine ⟨⟨0, rfl⟩, .inl ⟨rfl, fun p hp => ?_⟩⟩
    rcases Nat.lt_or_ge now p.2 with hlt | hge
    · exfalso
      have hl := lk_of_mem h.nodup (k := p.1) (v := p.2) hp
      have hs : hungOf now tm p.1 = some (some (levelOf now p.2, slotOf (levelOf now p.2) p.2)) := by
        unfold hungOf; rw [hl]; simp [spotOf]; omega
      obtain ⟨hk, hj⟩ := hw.bound _ _ _ hs
      have h1 := ((hw.full _ hk).2 _ hj).2 ⟨_, hs⟩
      have h2 : B.full (levelOf now p.2) = 0 := by simpa using hf _ hk
      rw [h2] at h1; simp at h1
    · exact hge
  · have hF := (hw.full m hm).1
    obtain ⟨hb1, hb2, hb3⟩ := ctz_bit hfm hF
    obtain ⟨t0, ht0⟩ := ((hw.full m hm).2 _ hb2).1 hb1
    obtain ⟨d0, hd0, hs0⟩ : ∃ d, lk tm t0 = some d ∧ spotOf now d = some (m, Lib.ctz 64 (B.full m)) := by
      have this := ht0
      unfold hungOf at this
      cases hl : lk tm t0 with
      | none => rw [hl] at this; cases this
      | some d => rw [hl] at this; exact ⟨d, rfl, by simpa using this⟩
    have hd2 : d0 ≤ 4611686018427387904 := h.due _ (mem_keys_of_lk hd0)
    refine (first_some b now tm B w h hT m hm (fun k hk => by simpa using hf k hk) hfm d0 hd2 hs0).mono ?_
    rintro e w' ⟨rfl, hn⟩
    obtain ⟨r, hr⟩ : ∃ r, B.sm m (Lib.ctz 64 (B.full m)) = some r := by
      have := hw.slots m _ hm hb2
      cases hr : B.sm m (Lib.ctz 64 (B.full m)) with
      | none => rw [hr] at this; exact absurd ht0 (this t0)
      | some r => exact ⟨r, rfl⟩
    refine ⟨hn, .inr ⟨m, _, d0, r, rfl, hm, hb2, hd2, hs0, hr, fun t k' j' ht => ?_⟩⟩
    obtain ⟨hk', hj'⟩ := hw.bound _ _ _ ht
    have h1 := ((hw.full _ hk').2 _ hj').2 ⟨_, ht⟩
    rcases Nat.lt_trichotomy m k' with hlt | rfl | hgt
    · exact .inl hlt
    · refine .inr ⟨rfl, ?_⟩
      rcases Nat.lt_or_ge j' (Lib.ctz 64 (B.full m)) with h2 | h2
      · rw [hb3 _ h2] at h1; cases h1
      · exact h2
    · have h2 : B.full k' = 0 := by simpa using hf _ hgt
      rw [h2] at h1; simp at h1

/-- the order of the answer is total -/
theorem cmpI_lt {x y : Int} : cmpI x y < 0 ↔ x < y := by unfold cmpI; split <;> (try split) <;> omega
theorem cmpI_zero {x y : Int} : cmpI x y = 0 ↔ x = y := by unfold cmpI; split <;> (try split) <;> omega
theorem cmpDue_lt {tm : List (Int × Nat)} {x y : Int} : cmpDue tm x y < 0 ↔ dueIn tm x < dueIn tm y ∨ dueIn tm x = dueIn tm y ∧ x < y := by
  unfold cmpDue
  split
  · rename_i h; rw [cmpI_zero] at h; rw [cmpI_lt]; omega
  · rename_i h; rw [cmpI_zero] at h; rw [cmpI_lt]; omega
theorem cmpDue_swo (tm : List (Int × Nat)) : SWO (Go.Proofs.ltOf (cmpDue tm)) where
  irrefl x := by unfold Go.Proofs.ltOf; simp only [cmpDue_lt]; simp
  trans x y z h1 h2 := by unfold Go.Proofs.ltOf at *; simp only [cmpDue_lt, decide_eq_true_eq] at *; omega
  ntrans x y z h1 h2 := by unfold Go.Proofs.ltOf at *; simp only [cmpDue_lt, decide_eq_false_iff_not] at *; omega
theorem cmpDue_total (tm : List (Int × Nat)) (x y : Int) (h1 : Go.Proofs.ltOf (cmpDue tm) x y = false) (h2 : Go.Proofs.ltOf (cmpDue tm) y x = false) : x = y := by
  unfold Go.Proofs.ltOf at *; simp only [cmpDue_lt, decide_eq_false_iff_not] at *; omega

theorem del_filter {ν : Type} {l : List (Int × ν)} (hn : (keys l).Nodup) (k : Int) : del l k = l.filter (fun p => p.1 ≠ k) := by
  induction l with
  | nil => rfl
  | cons p l ih =>
    unfold keys at hn ih
    rw [List.map_cons, List.nodup_cons] at hn
    unfold del
    by_cases e : p.1 = k
    · rw [if_pos e, List.filter_cons]
      simp only [e, ne_eq, not_true_eq_false, decide_false, Bool.false_eq_true, if_false]
      symm
      rw [List.filter_eq_self]
      intro q hq
      simp only [ne_eq, decide_eq_true_eq]
      intro x; exact hn.1 (by rw [e, ← x]; exact List.mem_map_of_mem hq)
    · rw [if_neg e, List.filter_cons]; simp [e, ih hn.2]
theorem foldl_del {ν : Type} (xs : List Int) : ∀ {l : List (Int × ν)}, (keys l).Nodup → xs.foldl del l = l.filter (fun p => p.1 ∉ xs) := by
  induction xs with
  | nil => intro l _; exact (List.filter_eq_self.2 (fun _ _ => by simp)).symm
  | cons x xs ih =>
    intro l hn
    rw [List.foldl_cons, ih (nodup_del hn x), del_filter hn, List.filter_filter]
    apply List.filter_congr
    intro p _
    simp only [List.mem_cons, not_or, ne_eq, Bool.decide_and, Bool.and_comm]
end Go.Proofs.YtdacbgdinmaemaaGreatDoor

namespace Go.Proofs.YtdacbgdinmaemaaGreatDoor
open Go Go.RowKit Vz Go.Sort

theorem tvOf_congr {a b : Nat} {tm : List (Int × Nat)} (h : ∀ p ∈ tm, spotOf a p.2 = spotOf b p.2) : tvOf a tm = tvOf b tm := by
  unfold tvOf; apply List.map_congr_left; intro p hp; rw [h p hp]
theorem hungOf_congr {a b : Nat} {tm : List (Int × Nat)} (h : ∀ p ∈ tm, spotOf a p.2 = spotOf b p.2) : hungOf a tm = hungOf b tm := by
  funext t; unfold hungOf
  cases hl : lk tm t with
  | none => rfl
  | some d => simp only [Option.map_some]; rw [h _ (mem_keys_of_lk hl)]

/-- the time goes on, and no timer is elsewhere for it -/
theorem WheelAt.advance {w : World} {b now target : Nat} {tm : List (Int × Nat)} {B : WB} (h : WheelAt w b now tm B) (ht : target ≤ 4611686018427387904) (hsp : ∀ p ∈ tm, spotOf target p.2 = spotOf now p.2) :
    WheelAt (w.setCell ⟨b, 0, none⟩ (.int .u64 (target : Int))) b target tm B := by
  have hr := h.raw
  have hblk : ∀ i, i ≠ b → (w.setCell ⟨b, 0, none⟩ (.int .u64 (target : Int))).heap[i]? = w.heap[i]? := fun i hi => Below.heap_setCell _ _ _ _ hi
  refine ⟨⟨(hr.cells.setCell 0 (.int .u64 (target : Int))).congr fun o ho => ?_, ?_, ?_, fun k j hk hj => ?_, ?_, ?_, hr.apart1, hr.apart2, hr.apart3⟩, h.nodup, h.due, ht⟩
  · by_cases e : o = 0
    · rw [if_pos e]; unfold wcells; rw [if_pos e]
    · rw [if_neg e]; unfold wcells; rw [if_neg e, if_neg e]
  · rw [tvOf_congr hsp]; exact hr.timers.of_block (hblk _ hr.apart1.1.symm)
  · rw [hungOf_congr hsp]; exact hr.over.of_block (hblk _ hr.apart1.2.1.symm)
  · rw [hungOf_congr hsp]
    have hs := hr.slots k j hk hj
    cases hrr : B.sm k j with
    | none => rw [hrr] at hs; exact hs
    | some r => rw [hrr] at hs; exact SetAt.of_block hs (hblk r (hr.apart2 k j r hk hj hrr).1)
  · rw [hungOf_congr hsp]; exact hr.full
  · rw [hungOf_congr hsp]; exact hr.bound

theorem filter_tvOf (now : Nat) (tm : List (Int × Nat)) (q : Int → Bool) : (tvOf now tm).filter (fun p => q p.1) = tvOf now (tm.filter (fun p => q p.1)) := by
  unfold tvOf; rw [List.filter_map]; rfl

theorem lk_filter {tm : List (Int × Nat)} (hn : (keys tm).Nodup) (q : Int × Nat → Bool) (t : Int) : lk (tm.filter q) t = (lk tm t).bind fun d => if q (t, d) then some d else none := by
  cases hl : lk tm t with
  | none =>
    rw [Option.bind_none, lk_eq_none]
    rw [lk_eq_none] at hl
    intro hx; exact hl ((List.Sublist.map (·.1) (List.filter_sublist (p := q) (l := tm))).subset hx)
  | some d =>
    have hm := mem_keys_of_lk hl
    simp only [Option.bind_some]
    by_cases hq : q (t, d) = true
    · rw [if_pos hq]
      refine lk_of_mem ?_ (List.mem_filter.2 ⟨hm, hq⟩)
      exact ((List.filter_sublist (p := q) (l := tm)).map _).nodup hn
    · rw [if_neg hq, lk_eq_none]
      intro hx
      obtain ⟨⟨t', d'⟩, hp, e⟩ := List.mem_map.1 hx
      simp only at e; subst e
      obtain ⟨hp1, hp2⟩ := List.mem_filter.1 hp
      have := lk_of_mem hn hp1
      rw [hl] at this; cases this
      exact hq hp2

theorem go_end {w3 w5 : World} {b target : Nat} {tm : List (Int × Nat)} {B : WB} {xs : List Int} (h : WheelAt w3 b target tm B) (hx : xs.Perm (keys (tm.filter (fun p => p.2 ≤ target))))
    (hmt : MapAt w5 B.mt ki spotV (xs.foldl del (tvOf target tm))) (hmo : MapAt w5 B.mo ki Value.bool (tru [])) (hK : Keep (fun i => i = B.mt ∨ i = B.mo) w3 w5) : WheelAt w5 b target (tm.filter (fun p => target < p.2)) B := by
  have hr := h.raw
  have hkt : keys (tvOf target tm) = keys tm := keys_map (fun d => (d, spotOf target d)) tm
  have hmx : ∀ p ∈ tm, (p.1 ∉ xs) ↔ target < p.2 := fun p hp => by
    rw [hx.mem_iff]
    constructor
    · intro hn
      rcases Nat.lt_or_ge target p.2 with h1 | h1
      · exact h1
      · exact absurd (List.mem_map_of_mem (f := Prod.fst) (List.mem_filter.2 ⟨hp, by simpa using h1⟩)) hn
    · intro hlt hm
      obtain ⟨p', hp', e⟩ := List.mem_map.1 hm
      obtain ⟨h1, h2⟩ := List.mem_filter.1 hp'
      have e1 := lk_of_mem h.nodup (k := p.1) (v := p.2) hp
      have e2 := lk_of_mem h.nodup (k := p'.1) (v := p'.2) h1
      rw [e, e1] at e2
      have e3 : p.2 = p'.2 := Option.some.inj e2
      simp at h2; omega
  have hfold : xs.foldl del (tvOf target tm) = tvOf target (tm.filter (fun p => target < p.2)) := by
    rw [foldl_del xs (by rw [hkt]; exact h.nodup), filter_tvOf target tm (fun k => decide (k ∉ xs))]
    congr 1
    apply List.filter_congr
    intro p hp
    exact decide_eq_decide.2 (hmx p hp)
  have hlk := fun t => lk_filter h.nodup (fun p => decide (target < p.2)) t
  have hu : ∀ t (s : Nat × Nat), hungOf target (tm.filter (fun p => target < p.2)) t = some (some s) ↔ hungOf target tm t = some (some s) := fun t s => by
    unfold hungOf; rw [hlk]
    cases hl : lk tm t with
    | none => simp
    | some d =>
      by_cases hd : target < d
      · simp [hd]
      · simp [hd, spotOf]
        try omega
  have hov : ∀ t, ¬ hungOf target (tm.filter (fun p => target < p.2)) t = some none := fun t => by
    unfold hungOf; rw [hlk]
    cases hl : lk tm t with
    | none => simp
    | some d =>
      by_cases hd : target < d
      · simp [hd, spotOf]
      · simp [hd]
  have hblk : ∀ i, B.fp b i → i ≠ B.mt → i ≠ B.mo → w5.heap[i]? = w3.heap[i]? := fun i hi h1 h2 => hK.block i (hr.lt hi) (fun e => e.elim h1 h2)
  refine ⟨⟨hr.cells.of_block (hblk b (.inl rfl) hr.apart1.1 hr.apart1.2.1), by rw [← hfold]; exact hmt, ⟨[], hmo, by simp, fun t => by simp; exact hov t⟩, fun k j hk hj => ?_, fun k hk => ⟨(hr.full k hk).1, fun j hj => ((hr.full k hk).2 j hj).trans ?_⟩, fun t k j ht => hr.bound t k j ((hu t _).1 ht), hr.apart1, hr.apart2, hr.apart3⟩,
    ((List.filter_sublist).map _).nodup h.nodup, fun p hp => h.due p (List.mem_filter.1 hp).1, h.now⟩
  · have hs := hr.slots k j hk hj
    cases hrr : B.sm k j with
    | none => rw [hrr] at hs; intro t ht; exact hs t ((hu t _).1 ht)
    | some r =>
      rw [hrr] at hs
      have ha := hr.apart2 k j r hk hj hrr
      exact (SetAt.of_block hs (hblk r (.inr (.inr (.inr ⟨k, j, hk, hj, hrr⟩))) ha.2.1 ha.2.2)).congr (fun t => (hu t _).symm)
  · exact ⟨fun ⟨t, ht⟩ => ⟨t, (hu t _).2 ht⟩, fun ⟨t, ht⟩ => ⟨t, (hu t _).1 ht⟩⟩

/-- those that are over hang among them, once the time is there -/
theorem over_perm {target : Nat} {tm : List (Int × Nat)} {ks : List Int} (hn : (keys tm).Nodup) (hk : ks.Nodup) (h : ∀ t, t ∈ ks ↔ hungOf target tm t = some none) : ks.Perm (keys (tm.filter (fun p => p.2 ≤ target))) := by
  have hn2 : (keys (tm.filter (fun p => p.2 ≤ target))).Nodup := ((List.filter_sublist (p := fun p : Int × Nat => decide (p.2 ≤ target)) (l := tm)).map Prod.fst).nodup hn
  rw [List.perm_ext_iff_of_nodup hk hn2]
  intro t
  rw [h]
  unfold hungOf
  constructor
  · intro e
    cases hl : lk tm t with
    | none => rw [hl] at e; cases e
    | some d =>
      rw [hl] at e
      simp [spotOf] at e
      exact List.mem_map.2 ⟨(t, d), List.mem_filter.2 ⟨mem_keys_of_lk hl, by simpa using e⟩, rfl⟩
  · intro hm
    obtain ⟨⟨t', d⟩, hp, e⟩ := List.mem_map.1 hm
    simp only at e; subst e
    obtain ⟨h1, h2⟩ := List.mem_filter.1 hp
    rw [lk_of_mem hn h1]
    simp at h2
    simp [spotOf, h2]
end Go.Proofs.YtdacbgdinmaemaaGreatDoor

namespace Vz
open Go Go.RowKit Go.WideShapes Go.ChangeMaps
set_option linter.unusedSectionVars false
section
variable {κ ν : Type} [DecidableEq κ] {P : Program} {kt et : TypeId} {ek : κ → Value} {ev : ν → Value} {w : World} {r : Nat} {l rem : List (κ × ν)}
variable {F : Fence} {n : Nat} {ops : Array Oper} {rest : List Oper} {o : Oper} {a : Act} {Q : Exit → Act → World → Prop}

theorem wpListIn_range_at (hg : o.guard = none) (m : Operand) (t : TypeId) (hop : o.op = Op.range t m)
    (hT : P.underlying t = some (.map kt et)) (hm : a.eval m = .map (some r)) (h : MapAt w r ek ev l)
    (hK : ∀ ob, IterAt (w.alloc ob) w.heap.size r ek ev l l → wpListIn F n P ops Q rest (a.put o.dst (.pointer (some ⟨w.heap.size, 0, none⟩))) (w.alloc ob)) : wpListIn F n P ops Q (o :: rest) a w := by
  refine wpListIn_plain hg fun K' hK' => ?_
  obtain ⟨ob, hrun, hat⟩ := run_range_at hT h
  unfold Oper.wpIn
  refine ⟨by simp [Oper.about, hop], ?_⟩
  rw [Oper.semAt_plain F _ _ (by rw [hop]; intro c hc'; cases hc')]
  simp [execOp, hop, hm, hrun, Result.andThen]
  exact hK' _ _ (hK ob hat)

theorem wpListIn_next_done (hg : o.guard = none) (i : Operand) (hop : o.op = Op.next i false) {it : Nat} (hit : a.eval i = .pointer (some ⟨it, 0, none⟩)) (h : IterAt w it r ek ev l [])
    (hK : wpListIn F n P ops Q rest (a.put o.dst (.tuple #[.bool false])) w) : wpListIn F n P ops Q (o :: rest) a w := by
  refine wpListIn_plain hg fun K' hK' => ?_
  unfold Oper.wpIn
  refine ⟨by simp [Oper.about, hop], ?_⟩
  rw [Oper.semAt_plain F _ _ (by rw [hop]; intro c hc'; cases hc')]
  rcases run_next_iter (P := P) h o.type with ⟨h0, hrun⟩ | ⟨r1, p, r2, w', h1, _⟩
  · simp [execOp, hop, hit, hrun, Result.andThen]
    exact hK' _ _ hK
  · cases r1 <;> cases h1

theorem wpListIn_next_more (hg : o.guard = none) (i : Operand) (hop : o.op = Op.next i false) {it : Nat} (hit : a.eval i = .pointer (some ⟨it, 0, none⟩)) (h : IterAt w it r ek ev l rem) (hne : rem ≠ [])
    (hMore : ∀ r1 k v r2 w', rem = r1 ++ (k, v) :: r2 → Keep (fun i => i = it) w w' → w'.heap.size = w.heap.size → IterAt w' it r ek ev l (r1 ++ r2) →
      (Instr.entry (.pointer (some ⟨it, 0, none⟩))).run P w' = .ok (.tuple #[ek k, ev v]) w' → wpListIn F n P ops Q rest (a.put o.dst (.tuple #[.bool true, ek k, ev v])) w') :
    wpListIn F n P ops Q (o :: rest) a w := by
  refine wpListIn_plain hg fun K' hK' => ?_
  unfold Oper.wpIn
  refine ⟨by simp [Oper.about, hop], ?_⟩
  rw [Oper.semAt_plain F _ _ (by rw [hop]; intro c hc'; cases hc')]
  rcases run_next_iter (P := P) h o.type with ⟨h0, hrun⟩ | ⟨r1, p, r2, w', h1, hrun, h2, h3, h4, h5⟩
  · exact absurd h0 hne
  · simp [execOp, hop, hit, hrun, Result.andThen]
    exact hK' _ _ (hMore r1 p.1 p.2 r2 w' h1 h2 h3 h4 h5)

theorem IterAt.measure {it : Nat} (h : IterAt w it r ek ev l rem) : w.rangeLeft r it = rem.length := by
  obtain ⟨es, clock, since, seen, c0, h1, h2, h3, h4, h5, h6, h7, h8, h8', h9⟩ := h
  simp only [World.rangeLeft, h1, h6]
  have := congrArg List.length h9
  simp only [List.length_map] at this
  rw [← this, ← Array.length_toList]; simp [leftOf]
theorem IterAt.walks {it : Nat} {w' : World} (h : IterAt w it r ek ev l rem) (hk : KeepsWalks w w') : IterAt w' it r ek ev l rem := by
  obtain ⟨es, clock, since, seen, c0, h1, h2, h3, h4, h5, h6, h7⟩ := h
  exact ⟨es, clock, since, seen, c0, hk.same r _ h1 rfl, h2, h3, h4, h5, hk.same it _ h6 rfl, h7⟩
theorem IterAt.isWalk {it : Nat} (h : IterAt w it r ek ev l rem) : ∃ o : Obj, w.heap[it]? = some o ∧ o.isWalk = true := by
  obtain ⟨es, clock, since, seen, c0, h1, h2, h3, h4, h5, h6, h7⟩ := h
  exact ⟨_, h6, rfl⟩
theorem Keep.grownBy {w w' : World} {it : Nat} (h : Keep (fun i => i = it) w w') : w.grownBy w' (some it) :=
  ⟨h.os, h.tape, h.output, h.size, fun i hi hn => h.block i hi (fun e => hn (by rw [e]))⟩
end
end Vz

namespace Go.Proofs.YtdacbgdinmaemaaGreatDoor
open Go Go.RowKit Vz Go.Shelf
attribute [local go_sem] Oper.semAt_some

theorem ai_info : (Tryz.prog.info? 3).map (fun i => (i.zero, i.size, i.bytes)) = some (some ((fun n : Int => Value.int .i64 n) 0), 1, 8) := by kernel_rfl
theorem ai_oneCell (x : Int) : ((fun n : Int => Value.int .i64 n) x).oneCell' = true := rfl

set_option maxRecDepth 100000 in
set_option maxHeartbeats 1000000 in
theorem ai_append (F : Fence) (n : Nat) (hf : F.fn 239) (hro : F.round = none) (hn : 3 ≤ n) (g : Nat) (lb : Array Value) (hFg : F.fn g) (eg : ∀ args w, (callFunc g args).run Tryz.prog w = .ok (.enter g args) w)
    (S Sp : List Int → Prop) (N : Nat) (hN : N ≤ 281474976710656) (hNb : N * 8 ≤ 140737488355328) (hSN : ∀ xs, S xs → xs.length ≤ N) (w : World) (hseq : SeqStopsK F (n - 1) Tryz.prog g lb (fun x => #[(fun n : Int => Value.int .i64 n) x]) KeepsWalks S Sp N w) :
    CallsIn F n Tryz.prog 239 #[.slice none 0 0, .func (.func g) #[] lb] w fun e W' => ∃ (v : Value) (ss : List Int), e = .returned v ∧ S ss ∧ W'.ownsRow w.heap.size 3 1 v ss.length (ss.map (fun n : Int => Value.int .i64 n)) ∧ (v = .slice none 0 0 ↔ ss = []) ∧ Below w.heap.size w W' := by
  have h1 : 1 ≤ n := by omega
  obtain ⟨i0, hi, hz0, hz1, hz2⟩ := info_parts ai_info
  refine callsIn_of_wp_marks Tryz.func239 rfl hf ?_ hro
  simp only [Tryz.ntmps239, List.size_toArray, List.length_cons, List.length_nil, Nat.reduceAdd, Nat.reduceSub, Array.replicate_succ, Array.replicate_zero, List.push_toArray, List.append_toArray, List.nil_append, List.cons_append]
  gi_wp2
  have bO := Boxed.new w 35 (.slice none 0 0)
  have hB0 : Below w.heap.size w (w.alloc (.cells #[.slice none 0 0] 35)) := (Below.refl _ w).alloc (Nat.le_refl _) _
  refine wpIn_rangeFunc_ownG hro h1 (gf := g) (lb := lb) rfl hFg eg hseq walksK_t walksK_b hB0 (fun _ => rfl)
    (fun pre W => (∃ v, Boxed W w.heap.size 35 v ∧ W.ownsRow w.heap.size 3 1 v pre.length (pre.map (fun n : Int => Value.int .i64 n)) ∧ (v = .slice none 0 0 ↔ pre = [])) ∧ Below w.heap.size w W)
    (fun _ _ _ => False)
    (OwnFrom.and (Own.from (holdsRow_own w.heap.size w.heap.size 35 3 1 (fun pre : List Int => pre.length) (fun pre => pre.map (fun n : Int => Value.int .i64 n)) (fun pre v => v = .slice none 0 0 ↔ pre = [])) _) (ownFrom_below (Nat.le_refl _) (by simp)))
    (fun _ _ _ _ _ hs _ _ => hs)
    ⟨⟨_, bO, World.ownsRow_nil _ _ _ _, by simp⟩, hB0⟩
    (fun x => { tmps := #[.slice none 0 0, .func (.func g) #[] lb, .pointer (some ⟨w.heap.size, 0, none⟩), undef, .slice none 0 0, (fun n : Int => Value.int .i64 n) x, .func (.func g) #[] lb, (fun n : Int => Value.int .i64 n) x, undef, undef, undef, undef, undef], defers := [] }) ?assign ?body ?done ?stop
  case assign =>
    intro l x W K hK
    gi_wp2
    exact hK
  case body =>
    rintro l pre x W ⟨⟨v, hv, hrow, hnil⟩, hB⟩ hlt
    have hc := hv.cell
    gi_wp2_with (gi_at_builtin; refine wpListIn_append_own _ rfl _ _ 35 rfl w.heap.size 3 i0 ((fun n : Int => Value.int .i64 n) 0) 1 8 Tryz.underlying35 hi hz0 hz1 hz2 rfl (by decide) _ _ _ rfl (hrow.alloc _) ⟨W.heap.size, 0, none⟩ 1 1 [(fun n : Int => Value.int .i64 n) x] rfl rfl (cell_one_new _ _ _) (by simp [Value.oneCell']) (by unfold maxLen; omega) (by omega) (by have := hB.size; simp; omega) ?_; intro v' w1 hown' hgrow _; obtain ⟨g', cap', rfl⟩ := ownsRow_succ hown'; obtain ⟨hv1, hv2, hr2, hk2, hb2⟩ := hv.appended (by decide) hrow hB.size (Nat.le_refl _) hown' hgrow; have hc1 := hv1.cell; have hf1 := hv1.frozen)
    exact ⟨hk2.from _, hk2.walks, ⟨_, hv2, by simpa using hr2, by simp⟩, hB.trans hb2⟩
  case done =>
    rintro D ys W hD hS ⟨⟨v, hv, hrow, hnil⟩, hB⟩ hK
    have hc := hv.cell
    gi_wp2
    refine ⟨by simp, .inl ⟨_, _, rfl, run_takeDeferred hK, ?_⟩⟩
    exact ⟨_, results_tmp rfl _ _ _, v, ys, rfl, hS, ownsRow_putObj hrow _ hK rfl, hnil, hB.trans (belowK_b (w := w) (Nat.le_refl _) W D _ _ (by simp at hD; omega) hK rfl rfl)⟩
  case stop =>
    rintro D c pre W _ _ h _
    exact h.elim

set_option maxHeartbeats 400000 in
theorem ai_collect (F : Fence) (n : Nat) (hf : F.fn 205) (hf2 : F.fn 239) (hro : F.round = none) (hn : 4 ≤ n) (g : Nat) (lb : Array Value) (hFg : F.fn g) (eg : ∀ args w, (callFunc g args).run Tryz.prog w = .ok (.enter g args) w)
    (S Sp : List Int → Prop) (N : Nat) (hN : N ≤ 281474976710656) (hNb : N * 8 ≤ 140737488355328) (hSN : ∀ xs, S xs → xs.length ≤ N) (w : World) (hseq : SeqStopsK F (n - 1 - 1) Tryz.prog g lb (fun x => #[(fun n : Int => Value.int .i64 n) x]) KeepsWalks S Sp N w) :
    CallsIn F n Tryz.prog 205 #[.func (.func g) #[] lb] w fun e W' => ∃ (v : Value) (ss : List Int), e = .returned v ∧ S ss ∧ W'.ownsRow w.heap.size 3 1 v ss.length (ss.map (fun n : Int => Value.int .i64 n)) ∧ (v = .slice none 0 0 ↔ ss = []) ∧ Below w.heap.size w W' := by
  have h1 : 1 ≤ n := by omega
  refine callsIn_of_wp Tryz.func205 rfl hf ?_ hro
  simp only [Tryz.ntmps205, List.size_toArray, List.length_cons, List.length_nil, Nat.reduceAdd, Nat.reduceSub, Array.replicate_succ, Array.replicate_zero, List.push_toArray, List.append_toArray, List.nil_append, List.cons_append]
  gi_wp2_with (gi_at_call 239; refine (ai_append F (n - 1) hf2 hro (by omega) g lb hFg eg S Sp N hN hNb hSN _ hseq).mono ?_; rintro e w' ⟨v, ss, rfl, hS, hrow, hnil, hb⟩)
  go_ret
  exact ⟨v, ss, rfl, hS, hrow, hnil, hb⟩
end Go.Proofs.YtdacbgdinmaemaaGreatDoor

set_option linter.unusedSectionVars false
namespace Vz
open Go Go.RowKit Go.Sort Go.Proofs
variable {α : Type} [Inhabited α]

theorem holdsE_of_block (enc : α → Value) {w : World} {g : Nat} {cur : Array Value} {e : TypeId} {ss : List α} (hb : w.heap[g]? = some (.cells cur e (0, 0))) (ht : cur.toList.take ss.length = ss.map enc) : Holds enc w g 0 ss.toArray := by
  intro j hj
  have hj' : j < ss.length := by simpa using hj
  refine ⟨?_, by simp [World.frozen?, hb]⟩
  have h1 : (cur.toList.take ss.length)[j]? = (ss.map enc)[j]? := by rw [ht]
  rw [List.getElem?_take_of_lt hj'] at h1
  simp only [World.cell?, hb, Nat.zero_add]
  simp only [Option.isSome_none, Bool.false_eq_true, if_false]
  rw [← Array.getElem?_toList, h1]
  simp [hj']

theorem heap_sorted (enc : α → Value) {w : World} {g n : Nat} {os : Array Obj} {cur : Array Value} {e : TypeId} {fr : Nat × Nat} (d : Array α) (hb : w.heap[g]? = some (.cells cur e fr)) :
    (sortWorld enc w g 0 n d os).heap[g]? = some (.cells (putCells enc 0 d cur) e fr) := by
  have hg : g < w.heap.size := (Array.getElem?_eq_some_iff.1 hb).1
  unfold sortWorld
  rw [heap_grow_old _ _ (by simpa using hg)]
  simp [putRow, mapBlock, Sort.ahead, Array.getElem?_modify, hb, onCells]

theorem sorted_block (enc : α → Value) {w : World} {g n : Nat} {os : Array Obj} (d : Array α) {k : Nat} (hk : k < w.heap.size) (hne : k ≠ g) : (sortWorld enc w g 0 n d os).heap[k]? = w.heap[k]? := by
  unfold sortWorld
  rw [heap_grow_old _ _ (by simpa using hk)]
  have : g ≠ k := fun e => hne e.symm
  simp [putRow, mapBlock, Sort.ahead, Array.getElem?_modify, this]
theorem sorted_size (enc : α → Value) {w : World} {g n : Nat} {os : Array Obj} (d : Array α) : w.heap.size ≤ (sortWorld enc w g 0 n d os).heap.size := by
  unfold sortWorld; simp
theorem sorted_keep (enc : α → Value) {w : World} {g n : Nat} {os : Array Obj} (d : Array α) : Keep (fun i => i = g) w (sortWorld enc w g 0 n d os) :=
  ⟨rfl, rfl, rfl, sorted_size enc d, fun k hk hne => sorted_block enc d hk hne⟩
theorem sorted_below (enc : α → Value) {w0 w : World} {b g n : Nat} {os : Array Obj} (d : Array α) (h : RowKit.Below b w0 w) (hg : b ≤ g) (hb : b ≤ w0.heap.size) : RowKit.Below b w0 (sortWorld enc w g 0 n d os) :=
  ⟨h.os, h.tape, h.output, Nat.le_trans h.size (sorted_size enc d), fun k hk => (sorted_block enc d (by have := h.size; omega) (by omega)).trans (h.block k hk)⟩

theorem take_putCells (enc : α → Value) (cur : Array Value) (ts : List α) (h : ts.length ≤ cur.size) : (putCells enc 0 ts.toArray cur).toList.take ts.length = ts.map enc := by
  apply List.ext_getElem?
  intro j
  by_cases hj : j < ts.length
  · rw [List.getElem?_take_of_lt hj, Array.getElem?_toList]
    simp [putCells, hj, show j < cur.size by omega]
  · rw [List.getElem?_take_eq_none (by omega), List.getElem?_eq_none (by simp; omega)]

theorem ownsRow_sorted1 (enc : α → Value) {w : World} {base g cap n : Nat} {e : TypeId} {os : Array Obj} {cur : Array Value} {ss ts : List α} (hl : ts.length = ss.length) (hbase : base ≤ g) (hb : w.heap[g]? = some (.cells cur e (0, 0)))
    (h1 : ss.length ≤ cap) (h2 : cap ≤ maxLen) (h3 : cur.size = cap * 1) :
    (sortWorld enc w g 0 n ts.toArray os).ownsRow base e 1 (.slice (some ⟨g, 0, none⟩) ss.length cap) ss.length (ts.map enc) :=
  ⟨by simp [hl], .inr ⟨g, cap, _, rfl, hbase, heap_sorted enc _ hb, h1, h2, by simp [putCells, h3], by rw [Nat.mul_one, ← hl]; exact take_putCells enc cur ts (by omega)⟩⟩

/-- two lists that are permuted and ascend strictly are one -/
theorem perm_asc {r : α → α → Prop} (hasym : ∀ a b, r a b → ¬ r b a) {l₁ l₂ : List α} (hp : l₁.Perm l₂) (h1 : l₁.Pairwise r) (h2 : l₂.Pairwise r) : l₁ = l₂ := by
  induction l₁ generalizing l₂ with
  | nil => exact (List.Perm.nil_eq hp)
  | cons a l ih =>
    cases l₂ with
    | nil => exact absurd hp.length_eq (by simp)
    | cons b m =>
      rw [List.pairwise_cons] at h1 h2
      have hab : a = b := by
        rcases List.mem_cons.1 (hp.subset (List.mem_cons_self ..)) with e | e
        · exact e
        · rcases List.mem_cons.1 (hp.symm.subset (List.mem_cons_self ..)) with e' | e'
          · exact e'.symm
          · exact absurd (h1.1 _ e') (hasym _ _ (h2.1 _ e))
      subst hab
      rw [ih (List.Perm.cons_inv hp) h1.2 h2.2]

/-- what a sort by a comparison that parts all leaves ascends -/
theorem mergeSort_asc {cf : α → α → Int} (hO : SWO (ltOf cf)) (hT : ∀ x y, (ltOf cf) x y = false → (ltOf cf) y x = false → x = y) (l : List α) (hn : l.Nodup) :
    (l.mergeSort fun x y => !(ltOf cf) y x).Perm l ∧ (l.mergeSort fun x y => !(ltOf cf) y x).Pairwise (fun x y => cf x y < 0) := by
  refine ⟨List.mergeSort_perm l _, ?_⟩
  have h1 : (l.mergeSort fun x y => !(ltOf cf) y x).Pairwise (fun x y => (!(ltOf cf) y x) = true) := List.pairwise_mergeSort (fun a b c h1 h2 => by
    simp only [Bool.not_eq_true'] at *
    exact hO.ntrans _ _ _ h2 h1) (fun a b => by
    cases h1 : ltOf cf b a with
    | false => simp
    | true =>
      cases h2 : ltOf cf a b with
      | false => simp
      | true => have := hO.trans _ _ _ h1 h2; rw [hO.irrefl] at this; cases this) l
  have h2 : (l.mergeSort fun x y => !(ltOf cf) y x).Nodup := (List.mergeSort_perm l _).nodup_iff.2 hn
  refine List.Pairwise.imp₂ ?_ h1 h2
  intro a b h1 h2
  simp only [Bool.not_eq_true'] at h1
  cases h3 : ltOf cf a b with
  | true => unfold ltOf at h3; simpa using h3
  | false => exact absurd (hT a b h3 h1) h2
end Vz

namespace Go.Proofs.YtdacbgdinmaemaaGreatDoor
open Go Go.RowKit Vz Go.Shelf Go.Sort

set_option maxHeartbeats 1000000 in
/-- slices.SortedFunc: what the row gives, in the order of a comparison that parts all -/
theorem ai_sorted (g0 : Nat) (lb0 : Array Value) (eg0 : ∀ args w, (callFunc g0 args).run Tryz.prog w = .ok (.enter g0 args) w) (S Sp : List Int → Prop) (N : Nat) (hN : N ≤ 281474976710656) (hNb : N * 8 ≤ 140737488355328) (hSN : ∀ xs, S xs → xs.length ≤ N) (w : World)
    (hseq : SeqStopsK Fence.wide 2 Tryz.prog g0 lb0 (fun x => #[(fun n : Int => Value.int .i64 n) x]) KeepsWalks S Sp N w)
    (g : Nat) (cb : Array Value) (eg : ∀ args w, (callFunc g args).run Tryz.prog w = .ok (.enter g args) w) (cf : Int → Int → Int) (hO : SWO (ltOf cf)) (hT : ∀ x y, (ltOf cf) x y = false → (ltOf cf) y x = false → x = y)
    (hcmp : ∀ W, RowKit.Below w.heap.size w W → ∀ x y : Int, Calls Tryz.prog g (#[(fun n : Int => Value.int .i64 n) x, (fun n : Int => Value.int .i64 n) y] ++ cb) W fun e W' => e = .returned (.int .i64 (cf x y)) ∧ ∃ q os', W' = grow (W.drewN q) os') :
    Calls Tryz.prog 173 #[.func (.func g0) #[] lb0, .func (.func g) #[] cb] w fun e w' => ∃ (v : Value) (ss : List Int), e = .returned v ∧ S ss ∧
      w'.ownsRow w.heap.size 3 1 v ss.length ((ss.mergeSort fun x y => !(ltOf cf) y x).map (fun n : Int => Value.int .i64 n)) ∧ (v = .slice none 0 0 ↔ ss = []) ∧ RowKit.Below w.heap.size w w' := by
  go_enter Tryz.func173, Tryz.ntmps173
  go_wp2_with fail
  refine (callsIn_wide.1 (ai_collect Fence.wide 4 trivial trivial rfl (Nat.le_refl _) g0 lb0 trivial eg0 S Sp N hN hNb hSN w hseq)).mono ?_
  rintro e w1 ⟨v, ss, rfl, hS, hrow, hnil, hb⟩
  by_cases hss : ss = []
  · subst hss
    obtain rfl := hnil.2 rfl
    go_wp2_with fail
    refine (Tryz.slices_SortFunc_none_f206 (α := Int) none 0 _ w1).mono ?_
    rintro e w2 ⟨rfl, rfl⟩
    go_wp2_with fail
    go_ret
    exact ⟨_, [], rfl, hS, by simpa using hrow, by simp, hb⟩
  · obtain ⟨hlen, h | ⟨g1, cap, cur, rfl, hg, hblk, hl, hc, hsz, htk⟩⟩ := hrow
    · exact absurd (hnil.1 h.1) hss
    have hH : Holds (fun n : Int => Value.int .i64 n) w1 g1 0 ss.toArray := holdsE_of_block (fun n : Int => Value.int .i64 n) hblk (by rw [Nat.mul_one] at htk; exact htk)
    have hsort := Tryz.slices_SortFunc_total_f206 (fun n : Int => Value.int .i64 n) (fun _ => rfl) cf hO g cb g1 0 cap ss.toArray w1 eg
      (fun m os dk hs x y => hcmp _ (sorted_below (fun n : Int => Value.int .i64 n) dk hb hg (Nat.le_refl _)) x y) hH (lt_of_heap hblk) (by have := hSN _ hS; simp; omega) hT
    simp only [List.size_toArray] at hsort
    go_wp2_with fail
    refine hsort.mono ?_
    rintro e w2 ⟨rfl, n, os, rfl⟩
    go_wp2_with fail
    go_ret
    have hl2 : (ss.mergeSort fun x y => !(ltOf cf) y x).length = ss.length := List.length_mergeSort ss
    exact ⟨_, ss, rfl, hS, ownsRow_sorted1 (fun n : Int => Value.int .i64 n) hl2 hg hblk hl hc hsz, by simp [hss], sorted_below (fun n : Int => Value.int .i64 n) _ hb hg (Nat.le_refl _)⟩
end Go.Proofs.YtdacbgdinmaemaaGreatDoor

namespace Go.Proofs.YtdacbgdinmaemaaGreatDoor
open Go Go.RowKit Vz Go.Shelf
attribute [local go_sem] Oper.semAt_some

theorem kb_und : Tryz.prog.underlying 230 = some (.map 3 4) := by kernel_rfl

set_option maxRecDepth 100000 in
set_option maxHeartbeats 1000000 in
theorem kb_keys1 (F : Fence) (n : Nat) (h10 : F.fn 207) (hro : F.round = none) (hn : 1 ≤ n) (l0 Bm m : Nat) (l : List (Int × Bool)) (J Jx : List Int → World → Prop)
    (hY : ∀ pre x W, J pre W → pre.length < l.length → YieldAt F (n - 1) Tryz.prog l0 #[(fun n : Int => Value.int .i64 n) x] W fun e W' =>
      (e = .returned (.bool true) ∧ J (pre ++ [x]) W' ∧ KeepsWalks W W') ∨ (e = .returned (.bool false) ∧ Jx (pre ++ [x]) W'))
    (W : World) (hJ : AbidesFrom W.heap.size J) (hm : W.cell? ⟨Bm, 0, none⟩ = some (.map (some m))) (hM : MapAt W m (fun n : Int => Value.int .i64 n) Value.bool l) (h0 : J [] W) :
    CallsIn F n Tryz.prog 207 #[.func (.yield l0) #[] #[], .pointer (some ⟨Bm, 0, none⟩)] W fun e W' => (∃ v, e = .returned v) ∧
      ((∃ ss : List Int, ss.Perm (keys l) ∧ J ss W') ∨ (∃ pre : List Int, (pre.Nodup ∨ True) ∧ Jx pre W')) := by
  refine callsIn_of_wp Tryz.func207 rfl h10 ?_ hro
  simp only [Tryz.ntmps207, List.size_toArray, List.length_cons, List.length_nil, Nat.reduceAdd, Nat.reduceSub, Array.replicate_succ, Array.replicate_zero, List.push_toArray, List.append_toArray, List.nil_append, List.cons_append]
  gi_wp2_with (first
    | (gi_at_range; refine wpListIn_range_at rfl _ _ rfl kb_und rfl hM ?_; intro ob hit)
    | gi_in)
  (try go_frame)
  gi_loopw [3] (fun _ wr => ∃ (rem : List (Int × Bool)) (ss : List Int), IterAt wr W.heap.size m (fun n : Int => Value.int .i64 n) Value.bool l rem ∧ (ss ++ keys rem).Perm (keys l) ∧ J ss wr)
    (fun _ wr => wr.rangeLeft m W.heap.size)
  case atStart =>
    exact ⟨l, [], hit, by simp, hJ [] W _ none h0 (World.grownBy_alloc _ _ _) (fun r e => by cases e)⟩
  case round =>
    obtain ⟨rem, ss, hI, hP, hJs⟩ := hrel
    have HL := Lib.hid (IterAt.measure hI)
    have HP := Lib.hid hP
    clear hP
    cases rem with
    | nil =>
      gi_wp2_with (first
        | (gi_at_next; refine wpListIn_next_done rfl _ rfl rfl hI ?_)
        | gi_in)
      go_end0
      exact ⟨⟨_, rfl⟩, .inl ⟨ss, by have := HP.out; simpa [keys] using this, hJs⟩⟩
    | cons p0 rem0 =>
      have hne : p0 :: rem0 ≠ [] := by simp
      generalize p0 :: rem0 = rem at *
      gi_wp2_with (first
        | (gi_at_next; refine wpListIn_next_more rfl _ rfl rfl hI hne ?_; intro r1 x v r2 w2 hsp hk2 hz2 hI2 hen; (try dsimp only at hen ⊢); have hJ2 : J ss w2 := hJ ss wr w2 (some W.heap.size) hJs hk2.grownBy (fun r e => by cases e; exact ⟨Nat.le_refl _, hI.isWalk⟩); have hlt : ss.length < l.length := (by have := HP.out.length_eq; rw [hsp] at this; simp [keys] at this; omega); obtain ⟨fn, tmps, assign, body, hy, hR⟩ := hY ss x w2 hJ2 hlt; (try dsimp only at hy); clear hz2)
        | gi_in)
      refine hR.mono ?_
      have HP2 : Hid (((ss ++ [x]) ++ keys (r1 ++ r2)).Perm (keys l)) := by
        refine List.Perm.trans ?_ HP.out
        rw [hsp]; simp only [keys, List.map_append, List.map_cons, List.append_assoc]
        exact List.Perm.append_left ss (by rw [List.singleton_append]; exact (List.perm_middle).symm)
      rintro e W3 (⟨rfl, hJ3, hk3⟩ | ⟨rfl, hJx3⟩)
      · gi_wp2
        have hI3 := hI2.walks hk3
        have hm3 := hI3.measure
        have Hm3 := Lib.hid hm3
        clear hm3
        go_roundw
        case rel => exact ⟨_, ss ++ [x], hI3, HP2.out, hJ3⟩
        case measure => rw [Hm3.out, HL.out, hsp]; simp
      · gi_wp2
        refine bodyPost_ret (results_none rfl _ _ _) rfl ?_
        exact ⟨⟨_, rfl⟩, .inr ⟨ss ++ [x], .inr trivial, hJx3⟩⟩

theorem kb_keys_stops (F : Fence) (n : Nat) (h10 : F.fn 207) (hro : F.round = none) (hn : 1 ≤ n) (Bm m : Nat) (l : List (Int × Bool)) (w : World) (hBm : Bm < w.heap.size)
    (hm : w.cell? ⟨Bm, 0, none⟩ = some (.map (some m))) (hM : MapAt w m (fun n : Int => Value.int .i64 n) Value.bool l) :
    SeqStopsK F n Tryz.prog 207 #[.pointer (some ⟨Bm, 0, none⟩)] (fun x => #[(fun n : Int => Value.int .i64 n) x]) KeepsWalks (fun ss => ss.Perm (keys l)) (fun pre => pre.Nodup ∨ True) l.length w := fun l0 J Jx W hW hJ _ hY h0 =>
  kb_keys1 F n h10 hro hn l0 Bm m l J Jx hY W hJ ((hW.cell (p := ⟨Bm, 0, none⟩) hBm).trans hm) (hM.of_block (hW.block _ hM.lt)) h0

set_option maxHeartbeats 400000 in
theorem kb_keys (F : Fence) (n : Nat) (h7 : F.fn 174) (hro : F.round = none) (m : Option Nat) (w : World) :
    CallsIn F n Tryz.prog 174 #[.map m] w fun e w' => e = .returned (.func (.func 207) #[] #[.pointer (some ⟨w.heap.size, 0, none⟩)]) ∧ w' = w.alloc (.cells #[.map m] 230) := by
  refine callsIn_of_wp Tryz.func174 rfl h7 ?_ hro
  simp only [Tryz.ntmps174, List.size_toArray, List.length_cons, List.length_nil, Nat.reduceAdd, Nat.reduceSub, Array.replicate_succ, Array.replicate_zero, List.push_toArray, List.append_toArray, List.nil_append, List.cons_append]
  gi_wp2
  go_ret
  exact ⟨rfl, rfl⟩
end Go.Proofs.YtdacbgdinmaemaaGreatDoor

namespace Vz
open Go Go.RowKit Go.WideShapes Go.ChangeMaps
set_option linter.unusedSectionVars false
variable {κ ν : Type} [DecidableEq κ] {P : Program} {kt et : TypeId} {ek : κ → Value} {ev : ν → Value} {w : World} {r : Nat} {l rem : List (κ × ν)}
variable {ops : Array Oper} {rest : List Oper} {o : Oper} {a : Act} {Q : Exit → Act → World → Prop}

theorem run_clear_at {T kt et : TypeId} (hT : P.underlying T = some (.map kt et)) (h : MapAt w r ek ev l) (ty : TypeId) :
    ∃ o, (Builtin.clear_ #[T] ty #[.map (some r)]).run P w = .ok (.tuple #[]) (w.putObj r o) ∧ MapAt (w.putObj r o) r ek ev ([] : List (κ × ν)) := by
  have hr := h.lt
  obtain ⟨es, clock, h1, h2, h3, h4, h5⟩ := h
  have hset : ∀ o, (setObj r o).run P w = .ok () (w.putObj r o) := fun o => by
    simp only [setObj, Sem.run, h1]; rfl
  refine ⟨.map #[] clock, ?_, #[], clock, World.putObj_heap_same hr, rfl, rfl, by simp, by simp⟩
  simp [Builtin.clear_, run_underlying hT, MapKept.run_getObj_map h1, Result.andThen, hset]

theorem wpList_clear_at (hg : o.guard = none) (m : Operand) (t : TypeId) (hop : o.op = Op.call { callee := Callee.builtin Builtin.clear, args := #[m], argTypes := #[t] })
    (hT : P.underlying t = some (.map kt et)) (hm : a.eval m = .map (some r)) (h : MapAt w r ek ev l)
    (hK : ∀ w', MapAt w' r ek ev ([] : List (κ × ν)) → Keep (fun i => i = r) w w' → w'.heap.size = w.heap.size → wpList P ops Q rest (a.put o.dst (.tuple #[])) w') : wpList P ops Q (o :: rest) a w := by
  refine wpList_plain hg fun K' hK' => ?_
  obtain ⟨ob, hrun, hat⟩ := run_clear_at hT h o.type
  unfold Oper.wp
  simp [execOp, hop, resolve, invoke, builtin, hm, hrun, Result.andThen]
  exact hK' _ _ (hK _ hat ((Keep.refl (fun i => i = r) w).putObj (r := r) (fun _ => rfl) _) (by simp [World.putObj]))
end Vz
