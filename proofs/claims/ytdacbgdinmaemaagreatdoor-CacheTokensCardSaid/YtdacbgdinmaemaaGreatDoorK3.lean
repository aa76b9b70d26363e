/- Contracts and plain laws of this claim, part K3. -/

import Derived.Test.YtdacbgdinmaemaaGreatDoorK2
set_option linter.all false

namespace Go.Proofs.YtdacbgdinmaemaaGreatDoor
open Go Go.RowKit Vz

theorem lk_map {ν μ : Type} (g : ν → μ) (l : List (Int × ν)) (k : Int) : lk (l.map fun p => (p.1, g p.2)) k = (lk l k).map g := by
  induction l with
  | nil => rfl
  | cons p l ih => rw [List.map_cons, lk_cons, lk_cons, ih]; split <;> rfl
theorem keys_map {ν μ : Type} (g : ν → μ) (l : List (Int × ν)) : keys (l.map fun p => (p.1, g p.2)) = keys l := by simp [keys]
theorem del_map {ν μ : Type} (g : ν → μ) (l : List (Int × ν)) (k : Int) : del (l.map fun p => (p.1, g p.2)) k = (del l k).map fun p => (p.1, g p.2) := by
  induction l with
  | nil => rfl
  | cons p l ih => rw [List.map_cons]; unfold del; split
                   · rfl
                   · rw [ih]; rfl
theorem put_map {ν μ : Type} (g : ν → μ) (l : List (Int × ν)) (k : Int) (v : ν) : put (l.map fun p => (p.1, g p.2)) k (g v) = (put l k v).map fun p => (p.1, g p.2) := by
  induction l with
  | nil => rfl
  | cons p l ih => rw [List.map_cons]; unfold put; split
                   · rfl
                   · rw [ih]; rfl

/-- the timers' entries of a wheel at rest -/
def tvOf (now : Nat) (tm : List (Int × Nat)) : List (Int × (Nat × Spot)) := tm.map fun p => (p.1, (p.2, spotOf now p.2))
theorem lk_tvOf (now : Nat) (tm : List (Int × Nat)) (t : Int) : lk (tvOf now tm) t = (lk tm t).map fun d => (d, spotOf now d) := lk_map (fun d => (d, spotOf now d)) tm t
theorem del_tvOf (now : Nat) (tm : List (Int × Nat)) (t : Int) : del (tvOf now tm) t = tvOf now (del tm t) := del_map (fun d => (d, spotOf now d)) tm t
theorem put_tvOf (now : Nat) (tm : List (Int × Nat)) (t : Int) (d : Nat) : put (tvOf now tm) t (d, spotOf now d) = tvOf now (put tm t d) := put_map (fun d => (d, spotOf now d)) tm t d
def hungOf (now : Nat) (tm : List (Int × Nat)) : Int → Option Spot := fun t => (lk tm t).map (spotOf now)

/-- a wheel at rest: its timers, each with the time at which it is due -/
structure WheelAt (w : World) (b now : Nat) (tm : List (Int × Nat)) (B : WB) : Prop where
  raw : WheelRaw w b now (tvOf now tm) (hungOf now tm) B
  nodup : (keys tm).Nodup
  due : ∀ p ∈ tm, p.2 ≤ 4611686018427387904
  now : now ≤ 4611686018427387904

def WheelPost (b now : Nat) (tm : List (Int × Nat)) (B : WB) (w w' : World) : Prop :=
  ∃ B', WheelAt w' b now tm B' ∧ Keep (B.fp b) w w' ∧ ∀ i, B'.fp b i → B.fp b i ∨ w.heap.size ≤ i

theorem zspot (w : World) : (zeroValue 241).run Tryz.prog w = .ok (.agg #[.int .u64 0, .int .i64 0, .int .i64 0]) w := by kernel_rfl

theorem del_none {ν : Type} {l : List (Int × ν)} {k : Int} (h : lk l k = none) : del l k = l := by
  rw [del_fi]
  have := lk_fi l k
  cases hf : fi (keys l) k with
  | none => rfl
  | some i =>
    have := fi_lt hf; exact absurd (List.mem_of_getElem? this) (lk_eq_none.1 h)

set_option maxRecDepth 100000 in
set_option maxHeartbeats 400000 in
theorem cancel_none (b now : Nat) (t : Int) (tm : List (Int × Nat)) (B : WB) (w : World) (h : WheelAt w b now tm B) (hl : lk tm t = none) :
    Calls Tryz.prog 116 #[.pointer (some ⟨b, 0, none⟩), .int .i64 t] w fun e w' => e = .returned (.bool false) ∧ WheelPost b now (del tm t) B w w' := by
  have hb := h.raw.cells.lt
  have hc1 : w.cell? ⟨b, 1, none⟩ = some (.map (some B.mt)) := h.raw.cells.cell (o := 1) (by omega)
  have hlk : lk (tvOf now tm) t = none := by rw [lk_tvOf, hl]; rfl
  have Hlk := Lib.hid hlk
  have Hl := Lib.hid hl
  clear hlk hl
  go_enter Tryz.func116, Tryz.ntmps116
  go_wp2_with (at_lookup; refine wpList_lookup_ok_at rfl _ _ _ rfl kInt und_spotmap (zspot _) rfl h.raw.timers t rfl ?_; rw [Hlk.out]; simp only [Option.map_none, Option.getD_none, Option.isSome_none])
  go_ret
  refine ⟨rfl, B, ?_, (Keep.refl _ _).alloc _, fun i hi => .inl hi⟩
  rw [del_none Hl.out]
  exact ⟨h.raw.of_blocks fun i hi => Below.heap_alloc _ _ _ (h.raw.lt hi), h.nodup, h.due, h.now⟩

theorem hungOf_del {now : Nat} {tm : List (Int × Nat)} (hn : (keys tm).Nodup) (t x : Int) : hungOf now (del tm t) x = if x = t then none else hungOf now tm x := by
  unfold hungOf; rw [lk_del tm hn]
  by_cases e : x = t
  · subst e; simp
  · rw [if_neg (fun h => e h.symm), if_neg e]

def WB.word (B : WB) (k F : Nat) : WB := { B with full := fun k' => if k' = k then F else B.full k' }

theorem wcells_slot (now : Nat) (B : WB) (k j : Nat) (hk : k < 11) (hj : j < 64) : wcells now B (2 + k * 65 + j) = .map (B.sm k j) := by
  unfold wcells
  rw [if_neg (by omega), if_neg (by omega), if_neg (by omega), show 2 + k * 65 + j - 2 = j + k * 65 by omega, Nat.add_mul_mod_self_right, Nat.mod_eq_of_lt (by omega), if_neg (by omega),
      Nat.add_mul_div_right _ _ (by omega), Nat.div_eq_of_lt (by omega), Nat.zero_add]
theorem wcells_word (now : Nat) (B : WB) (k : Nat) (hk : k < 11) : wcells now B (2 + k * 65 + 64) = .int .u64 (B.full k) := by
  unfold wcells
  rw [if_neg (by omega), if_neg (by omega), if_neg (by omega), show 2 + k * 65 + 64 - 2 = 64 + k * 65 by omega, Nat.add_mul_mod_self_right, Nat.mod_eq_of_lt (by omega), if_pos rfl,
      Nat.add_mul_div_right _ _ (by omega), Nat.div_eq_of_lt (by omega), Nat.zero_add]
theorem wcells_setword (now : Nat) (B : WB) (k F o : Nat) (hk : k < 11) (ho : o < 718) :
    (if o = 2 + k * 65 + 64 then Value.int .u64 (F : Int) else wcells now B o) = wcells now (B.word k F) o := by
  unfold wcells
  by_cases e0 : o = 0
  · rw [if_neg (by omega), if_pos e0, if_pos e0]
  by_cases e1 : o = 1
  · rw [if_neg (by omega), if_neg e0, if_pos e1, if_neg e0, if_pos e1]; rfl
  by_cases e7 : o = 717
  · rw [if_neg (by omega), if_neg e0, if_neg e1, if_pos e7, if_neg e0, if_neg e1, if_pos e7]; rfl
  rw [if_neg e0, if_neg e1, if_neg e7, if_neg e0, if_neg e1, if_neg e7]
  by_cases e6 : (o - 2) % 65 = 64
  · rw [if_pos e6, if_pos e6]
    simp only [WB.word]
    by_cases ek : (o - 2) / 65 = k
    · rw [if_pos (by omega), if_pos ek]
    · rw [if_neg (by omega), if_neg ek]
  · rw [if_neg e6, if_neg e6, if_neg (by omega)]; rfl

theorem word_andNot (x j : Nat) (hx : x < 18446744073709551616) (hj : j < 64) : bits BinOp.andNot IntKind.u64 (x : Int) (IntKind.u64.wrap (2 ^ j)) = ((x &&& (18446744073709551615 - 2 ^ j) : Nat) : Int) ∧
    x &&& (18446744073709551615 - 2 ^ j) < 18446744073709551616 ∧ ∀ i, i < 64 → (x &&& (18446744073709551615 - 2 ^ j)).testBit i = (x.testBit i && (i != j)) := by
  have h2 : 2 ^ j < 18446744073709551616 := Nat.lt_of_lt_of_eq (Nat.pow_lt_pow_right (by omega) hj) (by decide : (2 : Nat) ^ 64 = 18446744073709551616)
  have e : IntKind.u64.wrap (2 ^ j : Int) = ((2 ^ j : Nat) : Int) := by
    rw [IntKind.wrap_u64, show ((2 : Int) ^ j) = ((2 ^ j : Nat) : Int) by simp]; generalize 2 ^ j = y at *; omega
  refine ⟨by rw [e, u64_andNot_nat x (2 ^ j) hx h2], Nat.lt_of_le_of_lt Nat.and_le_left hx, fun i hi => ?_⟩
  rw [Nat.testBit_and, show 18446744073709551615 - 2 ^ j = 2 ^ 64 - (2 ^ j + 1) by omega, Nat.testBit_two_pow_sub_succ (Nat.lt_of_lt_of_eq h2 (by decide)), Nat.testBit_two_pow]
  by_cases hij : i = j
  · subst hij; simp
  · have : ¬ j = i := fun h => hij h.symm
    simp [hi, hij, this]

theorem cancel_asm_over {b now d : Nat} {t : Int} {tm : List (Int × Nat)} {B : WB} {w w3 : World} (h : WheelAt w b now tm B) (hl : lk tm t = some d) (hs : spotOf now d = none)
    (hT : MapAt w3 B.mt ki spotV (del (tvOf now tm) t)) (hO : SetAt w3 B.mo (fun x => x ≠ t ∧ hungOf now tm x = some none)) (hK : Keep (fun i => i = B.mt ∨ i = B.mo) w w3) : WheelPost b now (del tm t) B w w3 := by
  have hr := h.raw
  have hblk : ∀ i, B.fp b i → i ≠ B.mt → i ≠ B.mo → w3.heap[i]? = w.heap[i]? := fun i hi h1 h2 => hK.block i (hr.lt hi) (fun e => e.elim h1 h2)
  have hu : ∀ x (s : Nat × Nat), hungOf now (del tm t) x = some (some s) ↔ hungOf now tm x = some (some s) := fun x s => by
    rw [hungOf_del h.nodup]; split
    · rename_i e; subst e; unfold hungOf; rw [hl]; simp [hs]
    · rfl
  refine ⟨B, ⟨⟨hr.cells.of_block (hblk b (.inl rfl) hr.apart1.1 hr.apart1.2.1), by rw [← del_tvOf]; exact hT, hO.congr fun x => ?_, fun k j hk hj => ?_, fun k hk => ⟨(hr.full k hk).1, fun j hj => ((hr.full k hk).2 j hj).trans ?_⟩, fun x k j hx => hr.bound x k j ((hu x _).1 hx), hr.apart1, hr.apart2, hr.apart3⟩, nodup_del h.nodup t, fun p hp => h.due p ((mem_del h.nodup).1 hp).1, h.now⟩, hK.mono (fun i _ e => e.elim (fun e => .inr (.inl e)) (fun e => .inr (.inr (.inl e)))), fun i hi => .inl hi⟩
  · rw [hungOf_del h.nodup]; by_cases e : x = t
    · simp [e]
    · simp [e]
  · have hs := hr.slots k j hk hj
    cases hrr : B.sm k j with
    | none => rw [hrr] at hs; intro x hx; exact hs x ((hu x _).1 hx)
    | some r =>
      rw [hrr] at hs
      have ha := hr.apart2 k j r hk hj hrr
      exact (SetAt.of_block hs (hblk r (.inr (.inr (.inr ⟨k, j, hk, hj, hrr⟩))) ha.2.1 ha.2.2)).congr (fun x => (hu x _).symm)
  · exact ⟨fun ⟨x, hx⟩ => ⟨x, (hu x _).2 hx⟩, fun ⟨x, hx⟩ => ⟨x, (hu x _).1 hx⟩⟩

theorem cancel_asm_slot {b now d k j r F : Nat} {t : Int} {tm : List (Int × Nat)} {B : WB} {w w4 : World} (h : WheelAt w b now tm B) (hl : lk tm t = some d) (hs : spotOf now d = some (k, j)) (hk : k < 11) (hj : j < 64) (hr : B.sm k j = some r)
    (hC : HoldsF w4 b 236 718 (wcells now (B.word k F)))
    (hT : MapAt w4 B.mt ki spotV (del (tvOf now tm) t)) (hO : SetAt w4 r (fun x => x ≠ t ∧ hungOf now tm x = some (some (k, j))))
    (hF : F < 18446744073709551616) (hb : ∀ i, i < 64 → (F.testBit i = true ↔ ∃ x, x ≠ t ∧ hungOf now tm x = some (some (k, i))))
    (hK : Keep (fun i => i = b ∨ i = B.mt ∨ i = r) w w4) : WheelPost b now (del tm t) B w w4 := by
  have hw := h.raw
  have hap := hw.apart2 k j r hk hj hr
  have hblk : ∀ i, B.fp b i → i ≠ b → i ≠ B.mt → i ≠ r → w4.heap[i]? = w.heap[i]? := fun i hi h1 h2 h3 => hK.block i (hw.lt hi) (fun e => e.elim h1 (fun e => e.elim h2 h3))
  have ht : hungOf now tm t = some (some (k, j)) := by unfold hungOf; rw [hl]; simp [hs]
  have hu : ∀ x (s : Spot), s ≠ some (k, j) → (hungOf now (del tm t) x = some s ↔ hungOf now tm x = some s) := fun x s hne => by
    rw [hungOf_del h.nodup]; split
    · rename_i e; subst e; rw [ht]; simp [Ne.symm hne]
    · rfl
  have hu2 : ∀ (x : Int) (s : Spot), (hungOf now (del tm t) x = some s ↔ x ≠ t ∧ hungOf now tm x = some s) := fun x s => by
    rw [hungOf_del h.nodup]; by_cases e : x = t
    · simp [e]
    · simp [e]
  refine ⟨B.word k F, ⟨⟨hC, by rw [← del_tvOf]; exact hT, ?_, fun k' j' hk' hj' => ?_, fun k' hk' => ?_, fun x k' j' hx => hw.bound x k' j' ((hu2 x _).1 hx).2, hw.apart1, hw.apart2, hw.apart3⟩, nodup_del h.nodup t, fun p hp => h.due p ((mem_del h.nodup).1 hp).1, h.now⟩, hK.mono (fun i _ e => ?_), fun i hi => .inl hi⟩
  · exact (hw.over.of_block (hblk _ (.inr (.inr (.inl rfl))) hw.apart1.2.1.symm hw.apart1.2.2.symm hap.2.2.symm)).congr (fun x => (hu x none (by simp)).symm)
  · have hs' := hw.slots k' j' hk' hj'
    show SlotAt w4 (B.sm k' j') _
    by_cases e : k' = k ∧ j' = j
    · obtain ⟨rfl, rfl⟩ := e
      rw [hr]; exact hO.congr (fun x => (hu2 x _).symm)
    · have hne : (some (k', j') : Spot) ≠ some (k, j) := fun x => by cases x; exact e ⟨rfl, rfl⟩
      cases hrr : B.sm k' j' with
      | none => rw [hrr] at hs'; intro x hx; exact hs' x ((hu x _ hne).1 hx)
      | some r' =>
        rw [hrr] at hs'
        have ha := hw.apart2 k' j' r' hk' hj' hrr
        refine (SetAt.of_block hs' (hblk r' (.inr (.inr (.inr ⟨k', j', hk', hj', hrr⟩))) ha.1 ha.2.1 ?_)).congr (fun x => (hu x _ hne).symm)
        intro x; subst x; exact e (hw.apart3 k' j' k j r' hk' hj' hk hj hrr hr)
  · show (if k' = k then F else B.full k') < _ ∧ ∀ i, i < 64 → ((if k' = k then F else B.full k').testBit i = true ↔ _)
    by_cases e : k' = k
    · subst e; rw [if_pos rfl]
      exact ⟨hF, fun i hi => (hb i hi).trans ⟨fun ⟨x, hx⟩ => ⟨x, (hu2 x _).2 hx⟩, fun ⟨x, hx⟩ => ⟨x, (hu2 x _).1 hx⟩⟩⟩
    · rw [if_neg e]
      refine ⟨(hw.full k' hk').1, fun i hi => ((hw.full k' hk').2 i hi).trans ?_⟩
      have hne : (some (k', i) : Spot) ≠ some (k, j) := fun x => by cases x; exact e rfl
      exact ⟨fun ⟨x, hx⟩ => ⟨x, (hu x _ hne).2 hx⟩, fun ⟨x, hx⟩ => ⟨x, (hu x _ hne).1 hx⟩⟩
  · rcases e with rfl | rfl | rfl
    · exact .inl rfl
    · exact .inr (.inl rfl)
    · exact .inr (.inr (.inr ⟨k, j, hk, hj, hr⟩))

set_option maxRecDepth 100000 in
set_option maxHeartbeats 400000 in
theorem cancel_over (b now d : Nat) (t : Int) (tm : List (Int × Nat)) (B : WB) (w : World) (h : WheelAt w b now tm B) (hl : lk tm t = some d) (hs : spotOf now d = none) :
    Calls Tryz.prog 116 #[.pointer (some ⟨b, 0, none⟩), .int .i64 t] w fun e w' => e = .returned (.bool true) ∧ WheelPost b now (del tm t) B w w' := by
  have hr := h.raw
  have hb := hr.cells.lt
  have hc1 : w.cell? ⟨b, 1, none⟩ = some (.map (some B.mt)) := hr.cells.cell (o := 1) (by omega)
  have hlk : lk (tvOf now tm) t = some (d, none) := by rw [lk_tvOf, hl]; simp [hs]
  have Hlk := Lib.hid hlk
  have Hl := Lib.hid hl
  have Hs := Lib.hid hs
  clear hlk hl hs
  go_enter Tryz.func116, Tryz.ntmps116
  obtain ⟨ks, hks, hnd, hmem⟩ := hr.over
  have Hm := Lib.hid hmem
  clear hmem
  have hlm := hr.timers.lt
  have hlo := hks.lt
  have ha1 := hr.apart1.1
  have ha2 := hr.apart1.2.2.symm
  go_wp2_with (first
    | (at_lookup; refine wpList_lookup_ok_at rfl _ _ _ rfl kInt und_spotmap (zspot _) rfl hr.timers t rfl ?_; rw [Hlk.out]; simp only [Option.map_some, Option.getD_some, Option.isSome_some, spotV, Spot.lev, Spot.slt])
    | (at_delete; refine wpList_delete_at rfl _ _ _ _ rfl kInt und_spotmap rfl (hr.timers.of_block (w' := w.alloc _) (Below.heap_alloc _ _ _ hlm)) t rfl ?_; intro w2 hat2 hk2 hz2; simp only [World.size_alloc] at hz2; have hS2 : w2.heap[w.heap.size]? = some (.cells #[.int .u64 d, .int .i64 (-1), .int .i64 0] 241 (0, 0)) := (hk2.block _ (by simp) (by omega)).trans (World.alloc_heap_new _ _); obtain ⟨hs0, hs1, hs2⟩ := cells3 hS2; have hB2 : w2.heap[b]? = w.heap[b]? := (hk2.block b (by simp; omega) ha1).trans (Below.heap_alloc _ _ _ hb); have hc717 : w2.cell? ⟨b, 717, none⟩ = some (.map (some B.mo)) := (hr.cells.of_block hB2).cell (o := 717) (by omega); have hO : MapAt w2 B.mo ki Value.bool (tru ks) := hks.of_block ((hk2.block _ (by simp; omega) ha2).trans (Below.heap_alloc _ _ _ hlo)))
    | (at_delete; refine wpList_delete_at rfl _ _ _ _ rfl kInt und_boolmap rfl hO t rfl ?_; intro w3 hat3 hk3 hz3))
  go_ret
  refine ⟨rfl, ?_⟩
  have hK : Keep (fun i => i = B.mt ∨ i = B.mo) w w3 := (((Keep.refl _ w).alloc _).trans hk2 (fun _ h => h) (fun _ _ e => .inl e)).trans hk3 (fun _ h => h) (fun _ _ e => .inr e)
  exact cancel_asm_over h Hl.out Hs.out (hat2.of_block (hk3.block _ hat2.lt hr.apart1.2.2)) (SetAt.sub hat3 hnd Hm.out) hK

set_option maxRecDepth 100000 in
set_option maxHeartbeats 400000 in
theorem cancel_slot (b now d k j r : Nat) (t : Int) (tm : List (Int × Nat)) (B : WB) (w : World) (h : WheelAt w b now tm B) (hl : lk tm t = some d) (hs : spotOf now d = some (k, j)) (hk : k < 11) (hj : j < 64) (hr : B.sm k j = some r) :
    Calls Tryz.prog 116 #[.pointer (some ⟨b, 0, none⟩), .int .i64 t] w fun e w' => e = .returned (.bool true) ∧ WheelPost b now (del tm t) B w w' := by
  have hw := h.raw
  have hb := hw.cells.lt
  have hc1 : w.cell? ⟨b, 1, none⟩ = some (.map (some B.mt)) := hw.cells.cell (o := 1) (by omega)
  have hlk : lk (tvOf now tm) t = some (d, some (k, j)) := by rw [lk_tvOf, hl]; simp [hs]
  have Hlk := Lib.hid hlk
  have Hl := Lib.hid hl
  have Hs := Lib.hid hs
  have Hr := Lib.hid hr
  have hR : SetAt w r (fun t => hungOf now tm t = some (some (k, j))) := by have := hw.slots k j hk hj; rw [hr] at this; exact this
  have hap := hw.apart2 k j r hk hj hr
  obtain ⟨ks, hks, hnd, hmem⟩ := hR
  have Hm := Lib.hid hmem
  have hlm := hw.timers.lt
  have hlo := hks.lt
  have ha1 := hw.apart1.1
  have hki : (k : Int) < 11 := by omega
  have hji : (j : Int) < 64 := by omega
  clear hlk hl hs hr hmem
  go_enter Tryz.func116, Tryz.ntmps116
  go_wp2_with (first
    | (at_lookup; refine wpList_lookup_ok_at rfl _ _ _ rfl kInt und_spotmap (zspot _) rfl hw.timers t rfl ?_; rw [Hlk.out]; simp only [Option.map_some, Option.getD_some, Option.isSome_some, spotV, Spot.lev, Spot.slt])
    | (at_delete; refine wpList_delete_at rfl _ _ _ _ rfl kInt und_spotmap rfl (hw.timers.of_block (w' := w.alloc _) (Below.heap_alloc _ _ _ hlm)) t rfl ?_; intro w2 hat2 hk2 hz2; simp only [World.size_alloc] at hz2; have hS2 : w2.heap[w.heap.size]? = some (.cells #[.int .u64 d, .int .i64 k, .int .i64 j] 241 (0, 0)) := (hk2.block _ (by simp) (by omega)).trans (World.alloc_heap_new _ _); obtain ⟨hs0, hs1, hs2⟩ := cells3 hS2; have hB2 : w2.heap[b]? = w.heap[b]? := (hk2.block b (by simp; omega) ha1).trans (Below.heap_alloc _ _ _ hb); have hO : MapAt w2 r ki Value.bool (tru ks) := hks.of_block ((hk2.block _ (by simp; omega) hap.2.1).trans (Below.heap_alloc _ _ _ hlo))))
  refine wp_region_still_tail 6 (by kernel_rfl) (by kernel_rfl) ?_
  simp only [List.take_succ_cons, List.take_zero, List.drop_succ_cons, List.drop_zero, World.drew_eq]
  repeat still_step
  refine wpStill_nil ?_
  have hsl : w2.cell? ⟨b, 2 + k * 65 + j, none⟩ = some (.map (some r)) := by
    rw [(hw.cells.of_block hB2).cell (o := 2 + k * 65 + j) (by omega), wcells_slot now B k j hk hj, Hr.out]
  go_wp2_with fail
  refine wp_region_still_tail 8 (by kernel_rfl) (by kernel_rfl) ?_
  simp only [List.take_succ_cons, List.take_zero, List.drop_succ_cons, List.drop_zero, World.drew_eq]
  repeat still_step
  refine wpStill_nil ?_
  refine wpList_delete_at rfl _ _ _ _ rfl kInt und_boolmap rfl (hO.of_block (w' := w2.drew.drew) rfl) t rfl ?_
  intro w3 hat3 hk3 hz3
  simp only [World.size_drew] at hz3
  have hS3 : w3.heap[w.heap.size]? = some (.cells #[.int .u64 d, .int .i64 k, .int .i64 j] 241 (0, 0)) := (hk3.block _ (by simp; omega) (by omega)).trans hS2
  have hB3 : w3.heap[b]? = w.heap[b]? := (hk3.block b (by simp; omega) hap.1.symm).trans hB2
  clear hs0 hs1 hs2 hsl
  obtain ⟨hs0, hs1, hs2⟩ := cells3 hS3
  have H3 := hw.cells.of_block hB3
  have hsl : w3.cell? ⟨b, 2 + k * 65 + j, none⟩ = some (.map (some r)) := by
    rw [H3.cell (o := 2 + k * 65 + j) (by omega), wcells_slot now B k j hk hj, Hr.out]
  have hfl : w3.cell? ⟨b, 2 + k * 65 + 64, none⟩ = some (.int .u64 (B.full k)) := by
    rw [H3.cell (o := 2 + k * 65 + 64) (by omega), wcells_word now B k hk]
  have hfz := H3.frozen (2 + k * 65 + 64)
  have hlen := fun ty => run_len_at (P := Tryz.prog) und_boolmap (hat3.of_block (w' := w3.drew) rfl) ty
  go_wp2_with fail
  have hK3 : Keep (fun i => i = b ∨ i = B.mt ∨ i = r) w w3 := ((((Keep.refl _ w).alloc _).trans hk2 (fun _ h => h) (fun _ _ e => .inr (.inl e))).drewN 2).trans hk3 (fun _ h => h) (fun _ _ e => .inr (.inr e))
  have hT3 : MapAt w3 B.mt ki spotV (del (tvOf now tm) t) := hat2.of_block (hk3.block _ (by simp; omega) hap.2.1.symm)
  have hd : del (tru ks) t = tru (ks.erase t) := del_tru ks t
  have Hd := Lib.hid hd
  clear hd
  have hfull := (hw.full k hk).1
  have hmemE : ∀ x, x ∈ ks.erase t ↔ x ≠ t ∧ hungOf now tm x = some (some (k, j)) := fun x => by rw [hnd.mem_erase_iff, Hm.out]
  have HmE := Lib.hid hmemE
  clear hmemE
  by_cases hz : (del (tru ks) t).length = 0
  · have hzb : (((del (tru ks) t).length : Int) == 0) = true := by simp [hz]
    have Hz := Lib.hid hz
    clear hz
    refine wp_region_still_tail 8 (by kernel_rfl) (by kernel_rfl) ?_
    simp only [List.take_succ_cons, List.take_zero, List.drop_succ_cons, List.drop_zero, World.drew_eq]
    repeat still_step
    refine wpStill_nil ?_
    go_wp2_with fail
    refine wp_region_still_tail 10 (by kernel_rfl) (by kernel_rfl) ?_
    simp only [List.take_succ_cons, List.take_zero, List.drop_succ_cons, List.drop_zero, World.drew_eq]
    repeat still_step
    refine wpStill_nil ?_
    go_wp2_with fail
    go_ret
    refine ⟨rfl, ?_⟩
    have he : ks.erase t = [] := by have := Hz.out; rw [Hd.out] at this; simpa [tru] using this
    obtain ⟨e1, e2, e3⟩ := word_andNot (B.full k) j hfull hj
    rw [e1]
    refine cancel_asm_slot (F := B.full k &&& (18446744073709551615 - 2 ^ j)) h Hl.out Hs.out hk hj Hr.out ?_ ?_ ?_ e2 (fun i hi => ?_) ((hK3.setCell (p := ⟨b, 2 + k * 65 + 64, none⟩) (fun _ => .inl rfl) _).drewN 2)
    · exact (H3.setCell (2 + k * 65 + 64) (.int .u64 ((B.full k &&& (18446744073709551615 - 2 ^ j) : Nat) : Int))).congr fun o ho => wcells_setword now B k _ o hk ho
    · exact hT3.of_block (Below.heap_setCell _ _ _ _ (by exact ha1.symm))
    · exact (SetAt.sub hat3 hnd Hm.out).of_block (Below.heap_setCell _ _ _ _ (by exact hap.1))
    · rw [e3 i hi, Bool.and_eq_true, (hw.full k hk).2 i hi]
      by_cases ei : i = j
      · subst ei; simp only [bne_self_eq_false, Bool.false_eq_true, and_false, false_iff]
        rintro ⟨x, hx⟩
        have := (HmE.out x).2 hx; rw [he] at this; cases this
      · have : (i != j) = true := by simpa using ei
        rw [this]; simp only [and_true]
        have ht : hungOf now tm t = some (some (k, j)) := by unfold hungOf; rw [Hl.out]; simp [Hs.out]
        constructor
        · rintro ⟨x, hx⟩; exact ⟨x, fun e => by subst e; rw [ht] at hx; cases hx; exact ei rfl, hx⟩
        · rintro ⟨x, _, hx⟩; exact ⟨x, hx⟩
  · have hzb : (((del (tru ks) t).length : Int) == 0) = false := by simpa using hz
    have Hz := Lib.hid hz
    clear hz
    refine wp_region_still_tail 8 (by kernel_rfl) (by kernel_rfl) ?_
    simp only [List.take_succ_cons, List.take_zero, List.drop_succ_cons, List.drop_zero, World.drew_eq]
    repeat still_step
    refine wpStill_nil ?_
    go_wp2_with fail
    go_ret
    refine ⟨rfl, ?_⟩
    refine cancel_asm_slot (F := B.full k) h Hl.out Hs.out hk hj Hr.out ?_ ?_ ?_ hfull (fun i hi => ?_) (hK3.drewN 1)
    · refine (H3.of_block (w' := w3.drew) rfl).congr fun o ho => ?_
      have := wcells_setword now B k (B.full k) o hk ho
      rw [← this]; split
      · rename_i e; subst e; exact wcells_word now B k hk
      · rfl
    · exact hT3.of_block rfl
    · exact (SetAt.sub hat3 hnd Hm.out).of_block rfl
    · rw [(hw.full k hk).2 i hi]
      have ht : hungOf now tm t = some (some (k, j)) := by unfold hungOf; rw [Hl.out]; simp [Hs.out]
      constructor
      · rintro ⟨x, hx⟩
        by_cases ei : i = j
        · subst ei
          have hne : ks.erase t ≠ [] := fun e => Hz.out (by rw [Hd.out, e]; rfl)
          obtain ⟨y, hy⟩ := List.exists_mem_of_ne_nil _ hne
          exact ⟨y, (HmE.out y).1 hy⟩
        · exact ⟨x, fun e => by subst e; rw [ht] at hx; cases hx; exact ei rfl, hx⟩
      · rintro ⟨x, _, hx⟩; exact ⟨x, hx⟩

theorem cancel_any (b now : Nat) (t : Int) (tm : List (Int × Nat)) (B : WB) (w : World) (h : WheelAt w b now tm B) :
    Calls Tryz.prog 116 #[.pointer (some ⟨b, 0, none⟩), .int .i64 t] w fun e w' => e = .returned (.bool (lk tm t).isSome) ∧ WheelPost b now (del tm t) B w w' := by
  cases hl : lk tm t with
  | none => exact cancel_none b now t tm B w h hl
  | some d =>
    cases hs : spotOf now d with
    | none => exact cancel_over b now d t tm B w h hl hs
    | some kj =>
      obtain ⟨k, j⟩ := kj
      have ht : hungOf now tm t = some (some (k, j)) := by unfold hungOf; rw [hl]; simp [hs]
      obtain ⟨hk, hj⟩ := h.raw.bound t k j ht
      cases hr : B.sm k j with
      | none => have := h.raw.slots k j hk hj; rw [hr] at this; exact absurd ht (this t)
      | some r => exact cancel_slot b now d k j r t tm B w h hl hs hk hj hr
end Go.Proofs.YtdacbgdinmaemaaGreatDoor

namespace Go.Proofs.YtdacbgdinmaemaaGreatDoor
open Go Go.RowKit Vz

/-- a timer set anew -/
def setT (tm : List (Int × Nat)) (t : Int) (d : Nat) : List (Int × Nat) := put (del tm t) t d

theorem WheelAt.keep {S : Nat → Prop} {w w' : World} {b now : Nat} {tm : List (Int × Nat)} {B : WB} (h : WheelAt w b now tm B) (hk : Keep S w w') (hS : ∀ i, B.fp b i → ¬ S i) : WheelAt w' b now tm B :=
  ⟨h.raw.keep hk hS, h.nodup, h.due, h.now⟩

theorem hang_rest {b now due : Nat} {t : Int} {tm : List (Int × Nat)} {B : WB} {w w' : World} (hn : (keys tm).Nodup) (hd : ∀ p ∈ tm, p.2 ≤ 4611686018427387904) (hnow : now ≤ 4611686018427387904) (hdue : due ≤ 4611686018427387904)
    (h : HangPost b now due t (tvOf now tm) (hungOf now tm) B w w') : WheelPost b now (put tm t due) B w w' := by
  obtain ⟨B', h1, h2, h3⟩ := h
  refine ⟨B', ⟨?_, nodup_put hn t due, fun p hp => ?_, hnow⟩, h2, h3⟩
  · rw [put_tvOf] at h1
    have : upd (hungOf now tm) t (some (spotOf now due)) = hungOf now (put tm t due) := by
      funext x; unfold upd hungOf; rw [lk_put]
      by_cases e : x = t
      · subst e; simp
      · rw [if_neg e, if_neg (fun x => e x.symm)]
    rw [← this]; exact h1
  · have := lk_of_mem (nodup_put hn t due) (k := p.1) (v := p.2) hp
    rw [lk_put] at this
    by_cases e : t = p.1
    · rw [if_pos e] at this; cases this; exact hdue
    · rw [if_neg e] at this; exact hd _ (mem_keys_of_lk this)

set_option maxRecDepth 100000 in
set_option maxHeartbeats 400000 in
theorem set_ok (b now due : Nat) (t : Int) (tm : List (Int × Nat)) (B : WB) (w : World) (h : WheelAt w b now tm B) (hdue : due ≤ 4611686018427387904) (hroom : (lk tm t).isSome = true ∨ tm.length < 16384) :
    Calls Tryz.prog 54 #[.pointer (some ⟨b, 0, none⟩), .int .i64 t, .int .u64 due] w fun e w' => e = .returned (.int .i64 0) ∧ WheelPost b now (setT tm t due) B w w' := by
  have hw := h.raw
  have hb := hw.cells.lt
  have hc1 : w.cell? ⟨b, 1, none⟩ = some (.map (some B.mt)) := hw.cells.cell (o := 1) (by omega)
  have hlk := lk_tvOf now tm t
  have Hlk := Lib.hid hlk
  clear hlk
  have hdi : (due : Int) ≤ 4611686018427387904 := by omega
  have fin : ∀ X : World, (∀ i, B.fp b i → X.heap[i]? = w.heap[i]?) → Keep (B.fp b) w X →
      Calls Tryz.prog 116 #[.pointer (some ⟨b, 0, none⟩), .int .i64 t] X fun e w' => ∃ B', e = .returned (.bool (lk tm t).isSome) ∧ WheelAt w' b now (del tm t) B' ∧ Keep (B.fp b) w w' ∧ ∀ i, B'.fp b i → B.fp b i ∨ w.heap.size ≤ i := fun X hX hk =>
    (cancel_any b now t tm B X ⟨hw.of_blocks hX, h.nodup, h.due, h.now⟩).mono fun e w' ⟨he, B', h1, h2, h3⟩ =>
      ⟨B', he, h1, hk.trans h2 (fun _ h => h) (fun _ _ h => h), fun i hi => (h3 i hi).imp id (fun h => Nat.le_trans hk.size h)⟩
  have Fin := Lib.hid fin
  clear fin
  have hK0 : ∀ o, Keep (B.fp b) w (w.alloc o) := fun o => (Keep.refl _ _).alloc o
  cases hl : lk tm t with
  | none =>
    rw [hl] at hroom
    have hlen : tm.length < 16384 := by simpa using hroom
    have hlt : (tvOf now tm).length = tm.length := by simp [tvOf]
    have hli : ((tvOf now tm).length : Int) < 16384 := by omega
    have hT' : ∀ o, MapAt (w.alloc o) B.mt ki spotV (tvOf now tm) := fun o => hw.timers.of_block (Below.heap_alloc _ _ _ hw.timers.lt)
    have HT := Lib.hid hT'
    clear hT' hlt
    go_enter Tryz.func54, Tryz.ntmps54
    go_wp2_with (at_lookup; refine wpList_lookup_ok_at rfl _ _ _ rfl kInt und_spotmap (zspot _) rfl hw.timers t rfl ?_; rw [Hlk.out, hl]; simp only [Option.map_none, Option.getD_none, Option.isSome_none]; have hlenE := fun ty => run_len_at (P := Tryz.prog) und_spotmap (HT.out (.cells #[.int .u64 0, .int .i64 0, .int .i64 0] 241)) ty)
    refine (Fin.out _ (fun i hi => Below.heap_alloc _ _ _ (hw.lt hi)) (hK0 _)).mono ?_
    rintro e w1 ⟨B1, rfl, h1, hk1, hf1⟩
    go_wp2_with fail
    refine (hang_any b now due t _ _ B1 w1 h1.raw (by rw [hungOf_del h.nodup, if_pos rfl]) (by omega) (by have := h.now; omega)).mono ?_
    rintro e w2 ⟨rfl, hp⟩
    have hp2 := hang_rest h1.nodup h1.due h.now hdue hp
    go_wp2_with fail
    go_ret
    obtain ⟨B2, h2, hk2, hf2⟩ := hp2
    exact ⟨rfl, B2, h2, hk1.trans hk2 (fun _ h => h) (fun i hi h => (hf1 i h).elim id (fun h => absurd hi (by omega))), fun i hi => (hf2 i hi).elim (hf1 i) (fun h => .inr (Nat.le_trans hk1.size h))⟩
  | some d =>
    go_enter Tryz.func54, Tryz.ntmps54
    go_wp2_with (at_lookup; refine wpList_lookup_ok_at rfl _ _ _ rfl kInt und_spotmap (zspot _) rfl hw.timers t rfl ?_; rw [Hlk.out, hl]; simp only [Option.map_some, Option.getD_some, Option.isSome_some, spotV])
    refine (Fin.out _ (fun i hi => Below.heap_alloc _ _ _ (hw.lt hi)) (hK0 _)).mono ?_
    rintro e w1 ⟨B1, rfl, h1, hk1, hf1⟩
    go_wp2_with fail
    refine (hang_any b now due t _ _ B1 w1 h1.raw (by rw [hungOf_del h.nodup, if_pos rfl]) (by omega) (by have := h.now; omega)).mono ?_
    rintro e w2 ⟨rfl, hp⟩
    have hp2 := hang_rest h1.nodup h1.due h.now hdue hp
    go_wp2_with fail
    go_ret
    obtain ⟨B2, h2, hk2, hf2⟩ := hp2
    exact ⟨rfl, B2, h2, hk1.trans hk2 (fun _ h => h) (fun i hi h => (hf1 i h).elim id (fun h => absurd hi (by omega))), fun i hi => (hf2 i hi).elim (hf1 i) (fun h => .inr (Nat.le_trans hk1.size h))⟩
end Go.Proofs.YtdacbgdinmaemaaGreatDoor

namespace Go.Proofs.YtdacbgdinmaemaaGreatDoor
open Go Go.RowKit Vz

def zc (o : Nat) : Value := if o = 0 then .int .u64 0 else if o = 1 then .map none else if o = 717 then .map none else if (o - 2) % 65 = 64 then .int .u64 0 else .map none
def wheelArr (n : Int) (m1 m2 : Nat) : Array Value := ((((((List.range 718).map zc).toArray).setIfInBounds 0 (.int .u64 n)).setIfInBounds 1 (.map (some m1))).setIfInBounds 717 (.map (some m2)))
theorem build_wheel (n : Int) (m1 m2 : Nat) (w : World) :
    (Instr.build 236 #[(0, .int .u64 n), (1, .map (some m1)), (3, .map (some m2))]).run Tryz.prog w = .ok (.agg (wheelArr n m1 m2)) w := by kernel_rfl
theorem box_wheel (n : Int) (m1 m2 : Nat) (w : World) :
    (Instr.box 236 (.agg (wheelArr n m1 m2))).run Tryz.prog w = .ok (.pointer (some ⟨w.heap.size, 0, none⟩)) (w.alloc (.cells (wheelArr n m1 m2) 236)) := by
  generalize wheelArr n m1 m2 = a
  simp [Instr.box, newVar, newRow, newObj, Value.cells, Sem.run]

def newWB (s : Nat) : WB := { mt := s, mo := s + 1, sm := fun _ _ => none, full := fun _ => 0 }
theorem wheelArr_holds (n m1 m2 : Nat) (B : WB) (h1 : B.mt = m1) (h2 : B.mo = m2) (h3 : ∀ k j, B.sm k j = none) (h4 : ∀ k, B.full k = 0) :
    (wheelArr n m1 m2).size = 718 ∧ ∀ o, o < 718 → (wheelArr n m1 m2)[o]? = some (wcells n B o) := by
  refine ⟨by simp [wheelArr], fun o ho => ?_⟩
  unfold wheelArr wcells
  rw [Array.getElem?_setIfInBounds, Array.getElem?_setIfInBounds, Array.getElem?_setIfInBounds]
  simp only [Array.size_setIfInBounds, List.size_toArray, List.length_map, List.length_range]
  by_cases e7 : o = 717
  · subst e7; simp [h2]
  · rw [if_neg (fun e => e7 e.symm)]
    by_cases e1 : o = 1
    · subst e1; simp [h1]
    · rw [if_neg (fun e => e1 e.symm)]
      by_cases e0 : o = 0
      · subst e0; simp
      · rw [if_neg (fun e => e0 e.symm), if_neg e0, if_neg e1, if_neg e7]
        simp only [List.getElem?_toArray, List.getElem?_map, List.getElem?_range ho, Option.map_some, zc, if_neg e0, if_neg e1, if_neg e7, h3, h4]
        split <;> rfl

set_option maxRecDepth 100000 in
set_option maxHeartbeats 400000 in
theorem new_any (now : Nat) (w : World) (hn : now ≤ 4611686018427387904) :
    Calls Tryz.prog 50 #[.int .u64 now] w fun e w' => e = .returned (.tuple #[.pointer (some ⟨w.heap.size + 2, 0, none⟩), .int .i64 0]) ∧
      WheelAt w' (w.heap.size + 2) now [] (newWB w.heap.size) ∧ Keep (fun _ => False) w w' ∧ (∀ i, (newWB w.heap.size).fp (w.heap.size + 2) i → w.heap.size ≤ i) := by
  have hni : (now : Int) ≤ 4611686018427387904 := by omega
  have hmm := @run_makeMap Tryz.prog
  have hbw := build_wheel
  have hxw := box_wheel
  go_enter Tryz.func50, Tryz.ntmps50
  go_wp2
  go_ret2
  refine ⟨rfl, ?_, ((Keep.refl _ w).alloc _).alloc _ |>.alloc _, ?_⟩
  · have hM1 := MapAt.fresh w ki spotV
    have hM2 := MapAt.fresh (w.alloc (.map #[] 0)) ki Value.bool
    rw [World.size_alloc] at hM2
    obtain ⟨hz, hc⟩ := wheelArr_holds now w.heap.size (w.heap.size + 1) (newWB w.heap.size) rfl rfl (fun _ _ => rfl) (fun _ => rfl)
    refine ⟨⟨⟨wheelArr now w.heap.size (w.heap.size + 1), ?_, hz, hc⟩, ?_, ⟨[], ?_, List.nodup_nil, fun t => ?_⟩, fun k j _ _ => ?_, fun k _ => ⟨by show (0 : Nat) < _; omega, fun j _ => ?_⟩, fun t k j h => (by cases h), ⟨by show _ ≠ w.heap.size; omega, by show _ ≠ w.heap.size + 1; omega, by show w.heap.size ≠ w.heap.size + 1; omega⟩, fun k j r _ _ h => (by cases h), fun k j k' j' r _ _ _ _ h => (by cases h)⟩, List.nodup_nil, fun p h => (by cases h), hn⟩
    · have := World.alloc_heap_new ((w.alloc (.map #[] 0)).alloc (.map #[] 0)) (.cells (wheelArr now w.heap.size (w.heap.size + 1)) 236)
      rw [World.size_alloc, World.size_alloc] at this; exact this
    · exact hM1.of_block ((Below.heap_alloc _ _ _ (by simp; omega)).trans (Below.heap_alloc _ _ _ (by simp)))
    · exact hM2.of_block (Below.heap_alloc _ _ _ (by simp))
    · constructor
      · intro h; cases h
      · intro h; cases h
    · intro t h; cases h
    · show (Nat.testBit 0 j = true ↔ _)
      simp [hungOf, lk_nil]
  · rintro i (rfl | rfl | rfl | ⟨k, j, _, _, h⟩)
    · omega
    · exact Nat.le_refl _
    · show _ ≤ w.heap.size + 1; omega
    · cases h

set_option maxRecDepth 100000 in
set_option maxHeartbeats 400000 in
theorem due_any (b now : Nat) (t : Int) (tm : List (Int × Nat)) (B : WB) (w : World) (h : WheelAt w b now tm B) :
    Calls Tryz.prog 62 #[.pointer (some ⟨b, 0, none⟩), .int .i64 t] w fun e w' =>
      e = .returned (.tuple #[.int .u64 ((lk tm t).getD 0), .bool (lk tm t).isSome]) ∧ Below w.heap.size w w' := by
  have hw := h.raw
  have hb := hw.cells.lt
  have hc1 : w.cell? ⟨b, 1, none⟩ = some (.map (some B.mt)) := hw.cells.cell (o := 1) (by omega)
  have Hlk := Lib.hid (lk_tvOf now tm t)
  cases hl : lk tm t with
  | none =>
    go_enter Tryz.func62, Tryz.ntmps62
    go_wp2_with (at_lookup; refine wpList_lookup_ok_at rfl _ _ _ rfl kInt und_spotmap (zspot _) rfl hw.timers t rfl ?_; rw [Hlk.out, hl]; simp only [Option.map_none, Option.getD_none, Option.isSome_none])
    go_ret2
    exact ⟨rfl, (Below.refl _ _).alloc (Nat.le_refl _) _⟩
  | some d =>
    go_enter Tryz.func62, Tryz.ntmps62
    go_wp2_with (at_lookup; refine wpList_lookup_ok_at rfl _ _ _ rfl kInt und_spotmap (zspot _) rfl hw.timers t rfl ?_; rw [Hlk.out, hl]; simp only [Option.map_some, Option.getD_some, Option.isSome_some, spotV])
    go_ret2
    exact ⟨rfl, (Below.refl _ _).alloc (Nat.le_refl _) _⟩

set_option maxHeartbeats 400000 in
theorem now_any (b now : Nat) (tm : List (Int × Nat)) (B : WB) (w : World) (h : WheelAt w b now tm B) :
    Calls Tryz.prog 122 #[.pointer (some ⟨b, 0, none⟩)] w fun e w' => e = .returned (.int .u64 now) ∧ w' = w := by
  have hc0 : w.cell? ⟨b, 0, none⟩ = some (.int .u64 now) := h.raw.cells.cell (o := 0) (by omega)
  go_enter Tryz.func122, Tryz.ntmps122
  go_wp2
  go_ret
  exact ⟨rfl, rfl⟩
end Go.Proofs.YtdacbgdinmaemaaGreatDoor
