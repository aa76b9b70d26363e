/- Contracts and plain laws of this claim, part K2. -/
import Derived.WalkLawsBesides
import Derived.WalkSpells
import Derived.StillTailTactics
import Derived.Deep.QuietTactic
import Derived.BigQuiet
import Derived.BigRegion
import Derived.Test.YtdacbgdinmaemaaGreatDoorProg
import Derived.Test.YtdacbgdinmaemaaGreatDoorK1
import Derived.Test.YtdacbgdinmaemaaGreatDoorShelf
set_option linter.all false

namespace Go.Proofs.YtdacbgdinmaemaaGreatDoor
open Go Go.RowKit Vz

/-- the level of a timer that is not over -/
def levelOf (now due : Nat) : Nat := (Lib.bitLen (due ^^^ now) - 1) / 6
def slotOf (k due : Nat) : Nat := due / 2 ^ (6 * k) % 64

set_option maxHeartbeats 400000 in
theorem where_over (b : Nat) (due now : Nat) (w : World) (hle : (due : Int) ≤ now)
    (hb : b < w.heap.size) (hc : w.cell? ⟨b, 0, none⟩ = some (.int .u64 now)) :
    Calls Tryz.prog 170 #[.pointer (some ⟨b, 0, none⟩), .int .u64 due] w fun e w' =>
      e = .returned (.agg #[.int .u64 due, .int .i64 (-1), .int .i64 0]) ∧ Below w.heap.size w w' := by
  go_enter Tryz.func170, Tryz.ntmps170
  go_wp2
  exact bodyPost_ret (v := .agg #[.int .u64 due, .int .i64 (-1), .int .i64 0]) (by simp [results, Tryz.results170, go_sem]) rfl ⟨rfl, (Below.refl _ _).alloc (Nat.le_refl _) _⟩

theorem bitLenAux_le (f x : Nat) : Lib.bitLenAux f x ≤ f := by
  induction f generalizing x with
  | zero => exact Nat.le_refl _
  | succ f ih => unfold Lib.bitLenAux; have := ih (x / 2); split <;> omega
theorem slot_word (k due : Nat) (hd : due < 18446744073709551616) : wrap64 (bits BinOp.and IntKind.u64 ((due : Int) / 2 ^ (6 * k)) 63) = (slotOf k due : Int) := by
  have e : ((due : Int) / 2 ^ (6 * k)) = ((due / 2 ^ (6 * k) : Nat) : Int) := by simp
  have h := u64_and_nat (due / 2 ^ (6 * k)) 63 (Nat.lt_of_le_of_lt (Nat.div_le_self _ _) hd) (by omega)
  rw [e, show (63 : Int) = ((63 : Nat) : Int) from rfl, h, show (63 : Nat) = 2 ^ 6 - 1 from rfl, Nat.and_two_pow_sub_one_eq_mod]
  unfold slotOf wrap64
  omega

set_option maxHeartbeats 400000 in
theorem where_later (b : Nat) (due now : Nat) (w : World) (hd : due < 18446744073709551616) (hn : now < 18446744073709551616) (hle : ¬ (due : Int) ≤ now)
    (hb : b < w.heap.size) (hc : w.cell? ⟨b, 0, none⟩ = some (.int .u64 now)) :
    Calls Tryz.prog 170 #[.pointer (some ⟨b, 0, none⟩), .int .u64 due] w fun e w' =>
      e = .returned (.agg #[.int .u64 due, .int .i64 (levelOf now due), .int .i64 (slotOf (levelOf now due) due)]) ∧ Below w.heap.size w w' := by
  have hx := u64_xor_nat due now hd hn
  have hxl : due ^^^ now < 2 ^ 64 := Nat.xor_lt_two_pow (by simpa using hd) (by simpa using hn)
  have hne : due ^^^ now ≠ 0 := fun e => by
    have h2 : due ^^^ now ^^^ now = now := by rw [e]; simp
    rw [Nat.xor_assoc, Nat.xor_self, Nat.xor_zero] at h2; omega
  have hl1 : 1 ≤ Lib.bitLen (due ^^^ now) := by unfold Lib.bitLen Lib.bitLenAux; rw [if_neg hne]; omega
  have hl2 : Lib.bitLen (due ^^^ now) ≤ 64 := bitLenAux_le _ _
  have hs := slot_word ((Lib.bitLen (due ^^^ now) - 1) / 6) due hd
  have Hs := Lib.hid hs
  clear hs
  unfold levelOf
  generalize due ^^^ now = X at *
  go_enter Tryz.func170, Tryz.ntmps170
  go_wp2_with fail
  refine (Tryz.bits_Len64 (X : Int) _ (by omega) (by omega)).mono ?_
  rintro e w' ⟨rfl, rfl⟩
  rw [Int.toNat_natCast]
  clear hx hxl hne
  go_wp2_with fail
  refine bodyPost_ret (v := .agg #[.int .u64 due, .int .i64 (((Lib.bitLen X : Int) - 1) / 6), .int .i64 _]) (by simp [results, Tryz.results170, go_sem]; rfl) rfl ⟨?_, (Below.refl _ _).alloc (Nat.le_refl _) _⟩
  rw [Hs.out, show (((Lib.bitLen X : Int) - 1) / 6) = (((Lib.bitLen X - 1) / 6 : Nat) : Int) by omega]
end Go.Proofs.YtdacbgdinmaemaaGreatDoor

namespace Go.Proofs.YtdacbgdinmaemaaGreatDoor
open Go Go.RowKit Vz

/-- Block b is a row of n cells that hold f. -/
def HoldsF (w : World) (b T n : Nat) (f : Nat → Value) : Prop :=
  ∃ arr, w.heap[b]? = some (.cells arr T (0, 0)) ∧ arr.size = n ∧ ∀ o, o < n → arr[o]? = some (f o)
theorem HoldsF.lt {w : World} {b T n : Nat} {f : Nat → Value} (h : HoldsF w b T n f) : b < w.heap.size := by
  obtain ⟨arr, h1, _⟩ := h; exact lt_of_heap h1
theorem HoldsF.cell {w : World} {b T n : Nat} {f : Nat → Value} (h : HoldsF w b T n f) {o : Nat} (ho : o < n) : w.cell? ⟨b, o, none⟩ = some (f o) := by
  obtain ⟨arr, h1, _, h2⟩ := h; simp [World.cell?, h1, h2 o ho]
theorem HoldsF.frozen {w : World} {b T n : Nat} {f : Nat → Value} (h : HoldsF w b T n f) (o : Nat) : w.frozen? ⟨b, o, none⟩ = false := by
  obtain ⟨arr, h1, _, h2⟩ := h; simp [World.frozen?, h1]
theorem HoldsF.of_block {w w' : World} {b T n : Nat} {f : Nat → Value} (h : HoldsF w b T n f) (hb : w'.heap[b]? = w.heap[b]?) : HoldsF w' b T n f := by
  obtain ⟨arr, h1, h2⟩ := h; exact ⟨arr, hb.trans h1, h2⟩
theorem HoldsF.congr {w : World} {b T n : Nat} {f g : Nat → Value} (h : HoldsF w b T n f) (hfg : ∀ o, o < n → f o = g o) : HoldsF w b T n g := by
  obtain ⟨arr, h1, h2, h3⟩ := h; exact ⟨arr, h1, h2, fun o ho => by rw [h3 o ho, hfg o ho]⟩
theorem HoldsF.setCell {w : World} {b T n : Nat} {f : Nat → Value} (h : HoldsF w b T n f) (o : Nat) (v : Value) : HoldsF (w.setCell ⟨b, o, none⟩ v) b T n (fun i => if i = o then v else f i) := by
  obtain ⟨arr, h1, h2, h3⟩ := h
  refine ⟨arr.setIfInBounds o v, ?_, by simpa using h2, fun i hi => ?_⟩
  · simp only [World.setCell, Array.getElem?_modify, h1]; simp
  · rw [Array.getElem?_setIfInBounds]
    by_cases e : o = i
    · subst e; simp [h2, hi]
    · rw [if_neg e, h3 i hi]; simp; intro x; exact absurd x.symm e

/-- where a timer hangs: none: it is over -/
abbrev Spot := Option (Nat × Nat)
def Spot.lev : Spot → Int | none => -1 | some p => p.1
def Spot.slt : Spot → Int | none => 0 | some p => p.2
def spotV (x : Nat × Spot) : Value := .agg #[.int .u64 x.1, .int .i64 x.2.lev, .int .i64 x.2.slt]
def spotOf (now due : Nat) : Spot := if due ≤ now then none else some (levelOf now due, slotOf (levelOf now due) due)
abbrev ki (n : Int) : Value := .int .i64 n
def tru (ks : List Int) : List (Int × Bool) := ks.map fun t => (t, true)

/-- a wheel's blocks: its timers' map, the map of those that are over, the slots' maps; the levels' words -/
structure WB where
  mt : Nat
  mo : Nat
  sm : Nat → Nat → Option Nat
  full : Nat → Nat

def wcells (now : Nat) (B : WB) (o : Nat) : Value :=
  if o = 0 then .int .u64 now else if o = 1 then .map (some B.mt) else if o = 717 then .map (some B.mo) else
  if (o - 2) % 65 = 64 then .int .u64 (B.full ((o - 2) / 65)) else .map (B.sm ((o - 2) / 65) ((o - 2) % 65))

def WB.fp (B : WB) (b i : Nat) : Prop := i = b ∨ i = B.mt ∨ i = B.mo ∨ ∃ k j, k < 11 ∧ j < 64 ∧ B.sm k j = some i

/-- block r is a set of numbers: just those with p -/
def SetAt (w : World) (r : Nat) (p : Int → Prop) : Prop := ∃ ks : List Int, MapAt w r ki Value.bool (tru ks) ∧ ks.Nodup ∧ ∀ t, t ∈ ks ↔ p t
def SlotAt (w : World) (r : Option Nat) (p : Int → Prop) : Prop := match r with | none => ∀ t, ¬ p t | some r => SetAt w r p

/-- A wheel in block b: tv: its timers' entries; hung: where each timer hangs. -/
structure WheelRaw (w : World) (b now : Nat) (tv : List (Int × (Nat × Spot))) (hung : Int → Option Spot) (B : WB) : Prop where
  cells : HoldsF w b 236 718 (wcells now B)
  timers : MapAt w B.mt ki spotV tv
  over : SetAt w B.mo (fun t => hung t = some none)
  slots : ∀ k j, k < 11 → j < 64 → SlotAt w (B.sm k j) (fun t => hung t = some (some (k, j)))
  full : ∀ k, k < 11 → B.full k < 18446744073709551616 ∧ ∀ j, j < 64 → ((B.full k).testBit j = true ↔ ∃ t, hung t = some (some (k, j)))
  bound : ∀ t k j, hung t = some (some (k, j)) → k < 11 ∧ j < 64
  apart1 : b ≠ B.mt ∧ b ≠ B.mo ∧ B.mt ≠ B.mo
  apart2 : ∀ k j r, k < 11 → j < 64 → B.sm k j = some r → r ≠ b ∧ r ≠ B.mt ∧ r ≠ B.mo
  apart3 : ∀ k j k' j' r, k < 11 → j < 64 → k' < 11 → j' < 64 → B.sm k j = some r → B.sm k' j' = some r → k = k' ∧ j = j'

theorem SetAt.of_block {w w' : World} {r : Nat} {p : Int → Prop} (h : SetAt w r p) (hb : w'.heap[r]? = w.heap[r]?) : SetAt w' r p := by
  obtain ⟨ks, h1, h2⟩ := h; exact ⟨ks, h1.of_block hb, h2⟩
theorem SetAt.lt {w : World} {r : Nat} {p : Int → Prop} (h : SetAt w r p) : r < w.heap.size := by
  obtain ⟨ks, h1, h2⟩ := h; exact h1.lt
theorem SetAt.congr {w : World} {r : Nat} {p q : Int → Prop} (h : SetAt w r p) (hpq : ∀ t, p t ↔ q t) : SetAt w r q := by
  obtain ⟨ks, h1, h2, h3⟩ := h; exact ⟨ks, h1, h2, fun t => (h3 t).trans (hpq t)⟩
theorem WheelRaw.lt {w : World} {b now : Nat} {tv : List (Int × (Nat × Spot))} {hung : Int → Option Spot} {B : WB} (h : WheelRaw w b now tv hung B) {i : Nat} (hi : B.fp b i) : i < w.heap.size := by
  rcases hi with rfl | rfl | rfl | ⟨k, j, hk, hj, hs⟩
  · exact h.cells.lt
  · exact h.timers.lt
  · exact h.over.lt
  · have := h.slots k j hk hj; rw [hs] at this; exact SetAt.lt this
theorem WheelRaw.of_blocks {w w' : World} {b now : Nat} {tv : List (Int × (Nat × Spot))} {hung : Int → Option Spot} {B : WB} (h : WheelRaw w b now tv hung B)
    (hb : ∀ i, B.fp b i → w'.heap[i]? = w.heap[i]?) : WheelRaw w' b now tv hung B where
  cells := h.cells.of_block (hb _ (.inl rfl))
  timers := h.timers.of_block (hb _ (.inr (.inl rfl)))
  over := h.over.of_block (hb _ (.inr (.inr (.inl rfl))))
  slots := fun k j hk hj => by
    have := h.slots k j hk hj
    cases hs : B.sm k j with
    | none => rw [hs] at this; exact this
    | some r => rw [hs] at this; exact SetAt.of_block this (hb r (.inr (.inr (.inr ⟨k, j, hk, hj, hs⟩))))
  full := h.full
  bound := h.bound
  apart1 := h.apart1
  apart2 := h.apart2
  apart3 := h.apart3
theorem WheelRaw.keep {S : Nat → Prop} {w w' : World} {b now : Nat} {tv : List (Int × (Nat × Spot))} {hung : Int → Option Spot} {B : WB} (h : WheelRaw w b now tv hung B)
    (hk : Keep S w w') (hS : ∀ i, B.fp b i → ¬ S i) : WheelRaw w' b now tv hung B :=
  h.of_blocks fun i hi => hk.block i (h.lt hi) (hS i hi)

theorem put_tru (ks : List Int) (t : Int) : put (tru ks) t true = tru (if t ∈ ks then ks else ks ++ [t]) := by
  induction ks with
  | nil => rfl
  | cons a ks ih =>
    unfold tru at *
    rw [List.map_cons]; unfold put
    by_cases h : a = t
    · subst h; simp
    · rw [if_neg h, ih]
      have h' : t ≠ a := fun e => h e.symm
      by_cases hm : t ∈ ks <;> simp [hm, h']
theorem del_tru (ks : List Int) (t : Int) : del (tru ks) t = tru (ks.erase t) := by
  induction ks with
  | nil => rfl
  | cons a ks ih =>
    unfold tru at *
    rw [List.map_cons]; unfold del
    by_cases h : a = t
    · subst h; simp
    · rw [if_neg h, ih, List.erase_cons_tail (by simpa using h)]; rfl
theorem SetAt.add {w : World} {r : Nat} {ks : List Int} {p : Int → Prop} {t : Int} (h : MapAt w r ki Value.bool (put (tru ks) t true)) (hn : ks.Nodup) (hp : ∀ x, x ∈ ks ↔ p x) :
    SetAt w r (fun x => x = t ∨ p x) := by
  rw [put_tru] at h
  refine ⟨_, h, ?_, fun x => ?_⟩
  · split
    · exact hn
    · rename_i hm
      rw [List.nodup_append]; refine ⟨hn, by simp, fun a ha b hb => ?_⟩
      simp at hb; subst hb; intro e; subst e; exact hm ha
  · split
    · rename_i hm; show x ∈ ks ↔ x = t ∨ p x; rw [← hp]; constructor
      · exact .inr
      · rintro (rfl | h)
        · exact hm
        · exact h
    · simp only [List.mem_append, List.mem_singleton, hp]; exact Or.comm
theorem SetAt.sub {w : World} {r : Nat} {ks : List Int} {p : Int → Prop} {t : Int} (h : MapAt w r ki Value.bool (del (tru ks) t)) (hn : ks.Nodup) (hp : ∀ x, x ∈ ks ↔ p x) :
    SetAt w r (fun x => x ≠ t ∧ p x) := by
  rw [del_tru] at h
  exact ⟨_, h, hn.erase _, fun x => by rw [hn.mem_erase_iff, hp]⟩
def upd (f : Int → Option Spot) (t : Int) (s : Option Spot) : Int → Option Spot := fun x => if x = t then s else f x

/-- what hang leaves -/
def HangPost (b now due : Nat) (t : Int) (tv : List (Int × (Nat × Spot))) (hung : Int → Option Spot) (B : WB) (w w' : World) : Prop :=
  ∃ B', WheelRaw w' b now (put tv t (due, spotOf now due)) (upd hung t (some (spotOf now due))) B' ∧ Keep (B.fp b) w w' ∧ ∀ i, B'.fp b i → B.fp b i ∨ w.heap.size ≤ i
end Go.Proofs.YtdacbgdinmaemaaGreatDoor

namespace Go.Proofs.YtdacbgdinmaemaaGreatDoor
open Go Go.RowKit Vz

theorem und_spotmap : Tryz.prog.underlying 229 = some (.map 3 241) := by kernel_rfl
theorem und_boolmap : Tryz.prog.underlying 230 = some (.map 3 4) := by kernel_rfl
theorem kInt : KeyEnc Tryz.prog 3 ki := keyEnc_int (by kernel_rfl)

theorem cells3 {w : World} {s T : Nat} {x y z : Value} (h : w.heap[s]? = some (.cells #[x, y, z] T (0, 0))) :
    w.cell? ⟨s, 0, none⟩ = some x ∧ w.cell? ⟨s, 1, none⟩ = some y ∧ w.cell? ⟨s, 2, none⟩ = some z := by
  refine ⟨?_, ?_, ?_⟩ <;> simp [World.cell?, h]

theorem hang_asm_over {b now due : Nat} {t : Int} {tv : List (Int × (Nat × Spot))} {hung : Int → Option Spot} {B : WB} {w w3 : World} (h : WheelRaw w b now tv hung B) (hle : due ≤ now) (hnew : hung t = none)
    (hT : MapAt w3 B.mt ki spotV (put tv t (due, none))) (hO : SetAt w3 B.mo (fun x => x = t ∨ hung x = some none)) (hK : Keep (fun i => i = B.mt ∨ i = B.mo) w w3) : HangPost b now due t tv hung B w w3 := by
  have hsp : spotOf now due = none := by unfold spotOf; rw [if_pos hle]
  refine ⟨B, ?_, hK.mono (fun i _ e => e.elim (fun e => .inr (.inl e)) (fun e => .inr (.inr (.inl e)))), fun i hi => .inl hi⟩
  rw [hsp]
  have hblk : ∀ i, B.fp b i → i ≠ B.mt → i ≠ B.mo → w3.heap[i]? = w.heap[i]? := fun i hi h1 h2 => hK.block i (h.lt hi) (fun e => e.elim h1 h2)
  refine ⟨h.cells.of_block (hblk b (.inl rfl) h.apart1.1 h.apart1.2.1), hT, hO.congr fun x => ?_, fun k j hk hj => ?_, fun k hk => ⟨(h.full k hk).1, fun j hj => ((h.full k hk).2 j hj).trans ?_⟩, fun x k j hx => ?_, h.apart1, h.apart2, h.apart3⟩
  · unfold upd; by_cases e : x = t
    · simp [e]
    · simp [e]
  · have hs := h.slots k j hk hj
    have hu : ∀ x, (upd hung t (some none) x = some (some (k, j))) ↔ hung x = some (some (k, j)) := fun x => by
      unfold upd; by_cases e : x = t
      · subst e; simp [hnew]
      · simp [e]
    cases hr : B.sm k j with
    | none => rw [hr] at hs; intro x hx; exact hs x ((hu x).1 hx)
    | some r =>
      rw [hr] at hs
      have ha := h.apart2 k j r hk hj hr
      exact (SetAt.of_block hs (hblk r (.inr (.inr (.inr ⟨k, j, hk, hj, hr⟩))) ha.2.1 ha.2.2)).congr (fun x => (hu x).symm)
  · constructor
    · rintro ⟨x, hx⟩; exact ⟨x, by unfold upd; rw [if_neg (fun e => by subst e; rw [hnew] at hx; cases hx)]; exact hx⟩
    · rintro ⟨x, hx⟩; refine ⟨x, ?_⟩; unfold upd at hx; by_cases e : x = t
      · rw [if_pos e] at hx; cases hx
      · rwa [if_neg e] at hx
  · unfold upd at hx; by_cases e : x = t
    · rw [if_pos e] at hx; cases hx
    · rw [if_neg e] at hx; exact h.bound x k j hx

set_option maxRecDepth 100000 in
set_option maxHeartbeats 400000 in
theorem hang_over (b now due : Nat) (t : Int) (tv : List (Int × (Nat × Spot))) (hung : Int → Option Spot) (B : WB) (w : World) (h : WheelRaw w b now tv hung B) (hle : (due : Int) ≤ now) (hnew : hung t = none) :
    Calls Tryz.prog 120 #[.pointer (some ⟨b, 0, none⟩), .int .i64 t, .int .u64 due] w fun e w' => e = .returned (.tuple #[]) ∧ HangPost b now due t tv hung B w w' := by
  have hb := h.cells.lt
  have hc0 : w.cell? ⟨b, 0, none⟩ = some (.int .u64 now) := h.cells.cell (o := 0) (by omega)
  have hc1 : w.cell? ⟨b, 1, none⟩ = some (.map (some B.mt)) := h.cells.cell (o := 1) (by omega)
  go_enter Tryz.func120, Tryz.ntmps120
  go_wp2_with fail
  refine (where_over b due now _ hle hb hc0).mono ?_
  rintro e w1 ⟨rfl, hw1⟩
  have hb1 := hw1.cell (p := ⟨b, 1, none⟩) hb
  rw [hc1] at hb1
  have hsz := hw1.size
  have hb' : b < w1.heap.size := by omega
  go_wp2_with fail
  have hT : MapAt w1 B.mt ki spotV tv := h.timers.of_block (hw1.block _ h.timers.lt)
  refine wp_region_still_tail 6 (by kernel_rfl) (by kernel_rfl) ?_
  simp only [List.take_succ_cons, List.take_zero, List.drop_succ_cons, List.drop_zero, World.drew_eq]
  repeat still_step
  refine wpStill_nil ?_
  refine wpList_update_at rfl _ _ _ _ rfl kInt und_spotmap rfl (hT.of_block (w' := (w1.alloc _).drew) (Below.heap_alloc _ _ _ hT.lt)) t rfl (due, none) rfl ?_
  intro w2 hat hk2 hz2
  have hmt := hT.lt
  simp only [World.size_drew, World.size_alloc] at hz2
  have hS2 : w2.heap[w1.heap.size]? = some (.cells #[.int .u64 due, .int .i64 (-1), .int .i64 0] 241 (0, 0)) :=
    (hk2.block _ (by simp) (by omega)).trans (World.alloc_heap_new _ _)
  obtain ⟨hs0, hs1, hs2⟩ := cells3 hS2
  have hbo : b < w2.heap.size := by omega
  have hB2 : w2.heap[b]? = w.heap[b]? := ((hk2.block b (by simp; omega) h.apart1.1).trans (Below.heap_alloc _ _ _ hb')).trans (hw1.block b hb)
  have hc717 : w2.cell? ⟨b, 717, none⟩ = some (.map (some B.mo)) := (h.cells.of_block hB2).cell (o := 717) (by omega)
  obtain ⟨ks, hks, hnd, hmem⟩ := h.over
  have hO : MapAt w2 B.mo ki Value.bool (tru ks) := hks.of_block (((hk2.block _ (by have := hks.lt; simp; omega) h.apart1.2.2.symm).trans (Below.heap_alloc _ _ _ (by have := hks.lt; omega))).trans (hw1.block _ hks.lt))
  have Hm := Lib.hid hmem
  clear hmem
  go_wp2_with (at_mapUpdate; refine wpList_update_at rfl _ _ _ _ rfl kInt und_boolmap rfl hO t rfl true rfl ?_; intro w3 hat3 hk3 hz3)
  refine bodyPost_ret (results_none rfl _ _ _) rfl ?_
  refine ⟨rfl, ?_⟩
  have hK : Keep (fun i => i = B.mt ∨ i = B.mo) w w3 := (((Keep.of_below hw1 (fun k h1 h2 => absurd h1 (by omega))).alloc _).drew.trans hk2 (fun _ h => h) (fun _ _ e => .inl e)).trans hk3 (fun _ h => h) (fun _ _ e => .inr e)
  exact hang_asm_over h (by omega) hnew (hat.of_block (hk3.block _ (hat.lt) h.apart1.2.2)) (SetAt.add hat3 hnd Hm.out) hK

def WB.set (B : WB) (k j r : Nat) : WB := { B with sm := fun k' j' => if k' = k ∧ j' = j then some r else B.sm k' j', full := fun k' => if k' = k then B.full k ||| 2 ^ j else B.full k' }

theorem word_or (x j : Nat) (hx : x < 18446744073709551616) (hj : j < 64) : bits BinOp.or IntKind.u64 (x : Int) (IntKind.u64.wrap (2 ^ j)) = ((x ||| 2 ^ j : Nat) : Int) := by
  have h2 : 2 ^ j < 18446744073709551616 := by
    have : 2 ^ j < 2 ^ 64 := Nat.pow_lt_pow_right (by omega) hj
    simpa using this
  have e : IntKind.u64.wrap (2 ^ j : Int) = ((2 ^ j : Nat) : Int) := by
    rw [IntKind.wrap_u64, show ((2 : Int) ^ j) = ((2 ^ j : Nat) : Int) by simp]; generalize 2 ^ j = y at *; omega
  rw [e, u64_or_nat x (2 ^ j) hx h2]

theorem hang_asm_later {b now due : Nat} {t : Int} {tv : List (Int × (Nat × Spot))} {hung : Int → Option Spot} {B : WB} {w w4 : World} (h : WheelRaw w b now tv hung B) (hnew : hung t = none)
    {k j r : Nat} (hk : k < 11) (hj : j < 64) (hsp : spotOf now due = some (k, j))
    (hC : HoldsF w4 b 236 718 (wcells now (B.set k j r)))
    (hT : MapAt w4 B.mt ki spotV (put tv t (due, some (k, j)))) (hO : SetAt w4 r (fun x => x = t ∨ hung x = some (some (k, j))))
    (hr : r ≠ b ∧ r ≠ B.mt ∧ r ≠ B.mo) (hu : ∀ k' j', k' < 11 → j' < 64 → B.sm k' j' = some r → k' = k ∧ j' = j) (hnr : B.fp b r ∨ w.heap.size ≤ r)
    (hK : Keep (fun i => i = b ∨ i = B.mt ∨ i = r) w w4) : HangPost b now due t tv hung B w w4 := by
  refine ⟨B.set k j r, ?_, ?_, ?_⟩
  · rw [hsp]
    have hblk : ∀ i, B.fp b i → i ≠ b → i ≠ B.mt → i ≠ r → w4.heap[i]? = w.heap[i]? := fun i hi h1 h2 h3 => hK.block i (h.lt hi) (fun e => e.elim h1 (fun e => e.elim h2 h3))
    have hupd : ∀ (x : Int) (s : Spot), s ≠ some (k, j) → (upd hung t (some (some (k, j))) x = some s ↔ hung x = some s) := fun x s hs => by
      unfold upd; by_cases e : x = t
      · subst e; simp [hnew, Ne.symm hs]
      · simp [e]
    have hupd2 : ∀ x : Int, (upd hung t (some (some (k, j))) x = some (some (k, j)) ↔ x = t ∨ hung x = some (some (k, j))) := fun x => by
      unfold upd; by_cases e : x = t
      · simp [e]
      · simp [e]
    refine ⟨hC, hT, ?_, fun k' j' hk' hj' => ?_, fun k' hk' => ?_, fun x k' j' hx => ?_, h.apart1, fun k' j' r' hk' hj' hr' => ?_, fun k1 j1 k2 j2 r' h1 h2 h3 h4 h5 h6 => ?_⟩
    · exact (h.over.of_block (hblk _ (.inr (.inr (.inl rfl))) h.apart1.2.1.symm h.apart1.2.2.symm hr.2.2.symm)).congr (fun x => (hupd x none (by simp)).symm)
    · show SlotAt w4 (if k' = k ∧ j' = j then some r else B.sm k' j') _
      by_cases e : k' = k ∧ j' = j
      · obtain ⟨rfl, rfl⟩ := e
        rw [if_pos ⟨rfl, rfl⟩]
        exact hO.congr (fun x => (hupd2 x).symm)
      · rw [if_neg e]
        have hs := h.slots k' j' hk' hj'
        have hne : (some (k', j') : Spot) ≠ some (k, j) := fun x => by cases x; exact e ⟨rfl, rfl⟩
        cases hr' : B.sm k' j' with
        | none => rw [hr'] at hs; intro x hx; exact hs x ((hupd x _ hne).1 hx)
        | some r' =>
          rw [hr'] at hs
          have ha := h.apart2 k' j' r' hk' hj' hr'
          refine (SetAt.of_block hs (hblk r' (.inr (.inr (.inr ⟨k', j', hk', hj', hr'⟩))) ha.1 ha.2.1 ?_)).congr (fun x => (hupd x _ hne).symm)
          intro x; subst x; exact e (hu k' j' hk' hj' hr')
    · show (if k' = k then B.full k ||| 2 ^ j else B.full k') < _ ∧ ∀ i, i < 64 → ((if k' = k then B.full k ||| 2 ^ j else B.full k').testBit i = true ↔ _)
      by_cases e : k' = k
      · subst e
        rw [if_pos rfl]
        have hf := h.full k' hk'
        refine ⟨?_, fun i hi => ?_⟩
        · exact Nat.lt_of_lt_of_eq (Nat.or_lt_two_pow (n := 64) (by simpa using hf.1) (Nat.pow_lt_pow_right (by omega) hj)) (by decide)
        · rw [Nat.testBit_or, Nat.testBit_two_pow, Bool.or_eq_true, hf.2 i hi, decide_eq_true_eq]
          by_cases ei : i = j
          · subst ei; simp only [or_true, true_iff]; exact ⟨t, (hupd2 t).2 (.inl rfl)⟩
          · have hne : (some (k', i) : Spot) ≠ some (k', j) := fun x => by cases x; exact ei rfl
            constructor
            · rintro (⟨x, hx⟩ | e)
              · exact ⟨x, (hupd x _ hne).2 hx⟩
              · exact absurd e.symm ei
            · rintro ⟨x, hx⟩; exact .inl ⟨x, (hupd x _ hne).1 hx⟩
      · rw [if_neg e]
        refine ⟨(h.full k' hk').1, fun i hi => ((h.full k' hk').2 i hi).trans ?_⟩
        have hne : (some (k', i) : Spot) ≠ some (k, j) := fun x => by cases x; exact e rfl
        constructor
        · rintro ⟨x, hx⟩; exact ⟨x, (hupd x _ hne).2 hx⟩
        · rintro ⟨x, hx⟩; exact ⟨x, (hupd x _ hne).1 hx⟩
    · unfold upd at hx; by_cases e : x = t
      · rw [if_pos e] at hx; cases hx; exact ⟨hk, hj⟩
      · rw [if_neg e] at hx; exact h.bound x k' j' hx
    · show r' ≠ b ∧ r' ≠ B.mt ∧ r' ≠ B.mo
      simp only [WB.set] at hr'
      by_cases e : k' = k ∧ j' = j
      · rw [if_pos e] at hr'; cases hr'; exact hr
      · rw [if_neg e] at hr'; exact h.apart2 k' j' r' hk' hj' hr'
    · simp only [WB.set] at h5 h6
      by_cases e1 : k1 = k ∧ j1 = j
      · rw [if_pos e1] at h5; cases h5
        by_cases e2 : k2 = k ∧ j2 = j
        · exact ⟨e1.1.trans e2.1.symm, e1.2.trans e2.2.symm⟩
        · rw [if_neg e2] at h6; exact absurd (hu k2 j2 h3 h4 h6) e2
      · rw [if_neg e1] at h5
        by_cases e2 : k2 = k ∧ j2 = j
        · rw [if_pos e2] at h6; cases h6; exact absurd (hu k1 j1 h1 h2 h5) e1
        · rw [if_neg e2] at h6; exact h.apart3 k1 j1 k2 j2 r' h1 h2 h3 h4 h5 h6
  · refine hK.mono fun i hi e => ?_
    rcases e with rfl | rfl | rfl
    · exact .inl rfl
    · exact .inr (.inl rfl)
    · exact hnr.elim id (fun x => absurd hi (by omega))
  · rintro i (rfl | rfl | rfl | ⟨k', j', hk', hj', hs⟩)
    · exact .inl (.inl rfl)
    · exact .inl (.inr (.inl rfl))
    · exact .inl (.inr (.inr (.inl rfl)))
    · simp only [WB.set] at hs
      by_cases e : k' = k ∧ j' = j
      · rw [if_pos e] at hs; cases hs; exact hnr
      · rw [if_neg e] at hs; exact .inl (.inr (.inr (.inr ⟨k', j', hk', hj', hs⟩)))

/-- the cells behind a store of a level's word, and of a slot's map -/
theorem wcells_full (now : Nat) (B : WB) (k j r o : Nat) (hk : k < 11) (ho : o < 718) (hs : ∀ k' j', k' = k ∧ j' = j → B.sm k' j' = some r) :
    (if o = 2 + k * 65 + 64 then Value.int .u64 ((B.full k ||| 2 ^ j : Nat) : Int) else wcells now B o) = wcells now (B.set k j r) o := by
  have hsm : ∀ k' j', (B.set k j r).sm k' j' = B.sm k' j' := fun k' j' => by
    simp only [WB.set]; split
    · rename_i e; exact (hs k' j' e).symm
    · rfl
  unfold wcells
  by_cases e0 : o = 0
  · rw [if_neg (by omega), if_pos e0, if_pos e0]
  by_cases e1 : o = 1
  · rw [if_neg (by omega), if_neg e0, if_pos e1, if_neg e0, if_pos e1]; rfl
  by_cases e7 : o = 717
  · rw [if_neg (by omega), if_neg e0, if_neg e1, if_pos e7, if_neg e0, if_neg e1, if_pos e7]; rfl
  rw [if_neg e0, if_neg e1, if_neg e7, if_neg e0, if_neg e1, if_neg e7]
  by_cases e6 : (o - 2) % 65 = 64
  · rw [if_pos e6, if_pos e6]
    simp only [WB.set]
    by_cases ek : (o - 2) / 65 = k
    · rw [if_pos (by omega), if_pos ek]
    · rw [if_neg (by omega), if_neg ek]
  · rw [if_neg e6, if_neg e6, if_neg (by omega), hsm]

theorem levelOf_lt (now due : Nat) : levelOf now due < 11 := by
  unfold levelOf; have := bitLenAux_le 64 (due ^^^ now); unfold Lib.bitLen; omega
theorem slotOf_lt (k due : Nat) : slotOf k due < 64 := Nat.mod_lt _ (by omega)

set_option maxRecDepth 100000 in
set_option maxHeartbeats 400000 in
theorem hang_old (b now due : Nat) (t : Int) (tv : List (Int × (Nat × Spot))) (hung : Int → Option Spot) (B : WB) (w : World) (h : WheelRaw w b now tv hung B) (hle : ¬ (due : Int) ≤ now) (hnew : hung t = none)
    (hd : due < 18446744073709551616) (hn : now < 18446744073709551616) (r : Nat) (hr : B.sm (levelOf now due) (slotOf (levelOf now due) due) = some r) :
    Calls Tryz.prog 120 #[.pointer (some ⟨b, 0, none⟩), .int .i64 t, .int .u64 due] w fun e w' => e = .returned (.tuple #[]) ∧ HangPost b now due t tv hung B w w' := by
  have hkl := levelOf_lt now due
  have hjl := slotOf_lt (levelOf now due) due
  have Hw := Lib.hid (where_later b due now)
  have Hs := Lib.hid (show spotOf now due = some (levelOf now due, slotOf (levelOf now due) due) by unfold spotOf; rw [if_neg (by omega)])
  generalize hk : levelOf now due = k at *
  generalize hj : slotOf k due = j at *
  have hb := h.cells.lt
  have hc0 : w.cell? ⟨b, 0, none⟩ = some (.int .u64 now) := h.cells.cell (o := 0) (by omega)
  have hc1 : w.cell? ⟨b, 1, none⟩ = some (.map (some B.mt)) := h.cells.cell (o := 1) (by omega)
  clear hk hj
  have hqn := fun (wx : World) (rr : Option Nat) => run_eql_map_nil (P := Tryz.prog) wx 230 _ _ rr und_boolmap
  go_enter Tryz.func120, Tryz.ntmps120
  go_wp2_with fail
  refine (Hw.out _ hd hn hle hb hc0).mono ?_
  rintro e w1 ⟨rfl, hw1⟩
  have hb1 := hw1.cell (p := ⟨b, 1, none⟩) hb
  rw [hc1] at hb1
  have hsz := hw1.size
  have hb' : b < w1.heap.size := by omega
  go_wp2_with fail
  have hT : MapAt w1 B.mt ki spotV tv := h.timers.of_block (hw1.block _ h.timers.lt)
  refine wp_region_still_tail 6 (by kernel_rfl) (by kernel_rfl) ?_
  simp only [List.take_succ_cons, List.take_zero, List.drop_succ_cons, List.drop_zero, World.drew_eq]
  repeat still_step
  refine wpStill_nil ?_
  refine wpList_update_at rfl _ _ _ _ rfl kInt und_spotmap rfl (hT.of_block (w' := (w1.alloc _).drew) (Below.heap_alloc _ _ _ hT.lt)) t rfl (due, some (k, j)) rfl ?_
  intro w2 hat hk2 hz2
  have hmt := hT.lt
  simp only [World.size_drew, World.size_alloc] at hz2
  have hS2 : w2.heap[w1.heap.size]? = some (.cells #[.int .u64 due, .int .i64 k, .int .i64 j] 241 (0, 0)) :=
    (hk2.block _ (by simp) (by omega)).trans (World.alloc_heap_new _ _)
  obtain ⟨hs0, hs1, hs2⟩ := cells3 hS2
  have hbo : b < w2.heap.size := by omega
  have hB2 : w2.heap[b]? = w.heap[b]? := ((hk2.block b (by simp; omega) h.apart1.1).trans (Below.heap_alloc _ _ _ hb')).trans (hw1.block b hb)
  have hki : (k : Int) < 11 := by omega
  have hji : (j : Int) < 64 := by omega
  go_wp2_with fail
  refine wp_region_still_tail 6 (by kernel_rfl) (by kernel_rfl) ?_
  simp only [List.take_succ_cons, List.take_zero, List.drop_succ_cons, List.drop_zero, World.drew_eq]
  repeat still_step
  refine wpStill_nil ?_
  have H2 := h.cells.of_block hB2
  have hsl : w2.cell? ⟨b, 2 + k * 65 + j, none⟩ = some (.map (some r)) := by
    rw [H2.cell (o := 2 + k * 65 + j) (by omega)]; unfold wcells
    rw [if_neg (by omega), if_neg (by omega), if_neg (by omega), show 2 + k * 65 + j - 2 = j + k * 65 by omega, Nat.add_mul_mod_self_right, Nat.mod_eq_of_lt (by omega), if_neg (by omega),
      Nat.add_mul_div_right _ _ (by omega), Nat.div_eq_of_lt (by omega), Nat.zero_add, hr]
  have hfl : w2.cell? ⟨b, 2 + k * 65 + 64, none⟩ = some (.int .u64 (B.full k)) := by
    rw [H2.cell (o := 2 + k * 65 + 64) (by omega)]; unfold wcells
    rw [if_neg (by omega), if_neg (by omega), if_neg (by omega), show 2 + k * 65 + 64 - 2 = 64 + k * 65 by omega, Nat.add_mul_mod_self_right, Nat.mod_eq_of_lt (by omega), if_pos rfl,
      Nat.add_mul_div_right _ _ (by omega), Nat.div_eq_of_lt (by omega), Nat.zero_add]
  have Hr := Lib.hid hr
  clear hr
  go_wp2_with fail
  refine wp_region_still_tail 7 (by kernel_rfl) (by kernel_rfl) ?_
  simp only [List.take_succ_cons, List.take_zero, List.drop_succ_cons, List.drop_zero, World.drew_eq]
  repeat still_step
  refine wpStill_nil ?_
  go_wp2_with fail
  have hR : SetAt w r (fun t => hung t = some (some (k, j))) := by have := h.slots k j hkl hjl; rw [Hr.out] at this; exact this
  have hap := h.apart2 k j r hkl hjl Hr.out
  obtain ⟨ks, hks, hnd, hmem⟩ := hR
  have hO : MapAt w2 r ki Value.bool (tru ks) := hks.of_block (((hk2.block _ (by have := hks.lt; simp; omega) hap.2.1).trans (Below.heap_alloc _ _ _ (by have := hks.lt; omega))).trans (hw1.block _ hks.lt))
  have Hm := Lib.hid hmem
  clear hmem
  refine wp_region_still_tail 8 (by kernel_rfl) (by kernel_rfl) ?_
  simp only [List.take_succ_cons, List.take_zero, List.drop_succ_cons, List.drop_zero, World.drew_eq]
  repeat still_step
  refine wpStill_nil ?_
  refine wpList_update_at rfl _ _ _ _ rfl kInt und_boolmap rfl (hO.of_block (w' := w2.drew.drew.drew) rfl) t rfl true rfl ?_
  intro w3 hat3 hk3 hz3
  have hS3 : w3.heap[w1.heap.size]? = some (.cells #[.int .u64 due, .int .i64 k, .int .i64 j] 241 (0, 0)) :=
    (hk3.block _ (by simp; omega) (by have := (h.lt (.inr (.inr (.inr ⟨k, j, hkl, hjl, Hr.out⟩)))); omega)).trans hS2
  have hB3 : w3.heap[b]? = w.heap[b]? := (hk3.block b (by simp; omega) hap.1.symm).trans hB2
  simp only [World.size_drew] at hz3
  clear hs0 hs1 hs2 hsl hfl
  obtain ⟨hs0, hs1, hs2⟩ := cells3 hS3
  have hfl : w3.cell? ⟨b, 2 + k * 65 + 64, none⟩ = some (.int .u64 (B.full k)) := by
    rw [(h.cells.of_block hB3).cell (o := 2 + k * 65 + 64) (by omega)]; unfold wcells
    rw [if_neg (by omega), if_neg (by omega), if_neg (by omega), show 2 + k * 65 + 64 - 2 = 64 + k * 65 by omega, Nat.add_mul_mod_self_right, Nat.mod_eq_of_lt (by omega), if_pos rfl,
      Nat.add_mul_div_right _ _ (by omega), Nat.div_eq_of_lt (by omega), Nat.zero_add]
  have hfz := (h.cells.of_block hB3).frozen (2 + k * 65 + 64)
  go_wp2_with fail
  refine wp_region_still_tail 10 (by kernel_rfl) (by kernel_rfl) ?_
  simp only [List.take_succ_cons, List.take_zero, List.drop_succ_cons, List.drop_zero, World.drew_eq]
  repeat still_step
  refine wpStill_nil ?_
  go_wp2_with fail
  refine bodyPost_end (results_none rfl _ _ _) rfl ?_
  refine ⟨rfl, ?_⟩
  have hfull := (h.full k hkl).1
  have hK : Keep (fun i => i = b ∨ i = B.mt ∨ i = r) w (w3.setCell ⟨b, 2 + k * 65 + 64, none⟩ (.int .u64 (bits BinOp.or IntKind.u64 (B.full k) (IntKind.u64.wrap (2 ^ j))))).drew :=
    ((((((Keep.of_below hw1 (fun k h1 h2 => absurd h1 (by omega))).alloc _).drew.trans hk2 (fun _ h => h) (fun _ _ e => .inr (.inl e))).drewN 3).trans hk3 (fun _ h => h) (fun _ _ e => .inr (.inr e))).setCell (fun _ => .inl rfl) _).drew
  rw [word_or _ _ hfull hjl] at hK ⊢
  refine hang_asm_later (k := k) (j := j) (r := r) h hnew hkl hjl Hs.out ?_ ?_ ?_ hap (fun k' j' h1 h2 h3 => h.apart3 k' j' k j r h1 h2 hkl hjl h3 Hr.out) (.inl (.inr (.inr (.inr ⟨k, j, hkl, hjl, Hr.out⟩)))) hK
  · refine (((h.cells.of_block hB3).setCell (2 + k * 65 + 64) (.int .u64 ((B.full k ||| 2 ^ j : Nat) : Int)))).congr fun o ho => ?_
    exact wcells_full now B k j r o hkl ho (fun k' j' e => by obtain ⟨rfl, rfl⟩ := e; exact Hr.out)
  · exact hat.of_block ((Below.heap_setCell _ _ _ _ (by exact h.apart1.1.symm)).trans (hk3.block _ (by simp; omega) hap.2.1.symm))
  · exact (SetAt.add hat3 hnd Hm.out).of_block (Below.heap_setCell _ _ _ _ (by exact hap.1))
end Go.Proofs.YtdacbgdinmaemaaGreatDoor

namespace Go.Proofs.YtdacbgdinmaemaaGreatDoor
open Go Go.RowKit Vz
theorem wcells_new (now : Nat) (B : WB) (k j r o : Nat) (hk : k < 11) (hj : j < 64) (ho : o < 718) :
    (if o = 2 + k * 65 + 64 then Value.int .u64 ((B.full k ||| 2 ^ j : Nat) : Int) else if o = 2 + k * 65 + j then .map (some r) else wcells now B o) = wcells now (B.set k j r) o := by
  unfold wcells
  by_cases e0 : o = 0
  · rw [if_neg (by omega), if_neg (by omega), if_pos e0, if_pos e0]
  by_cases e1 : o = 1
  · rw [if_neg (by omega), if_neg (by omega), if_neg e0, if_pos e1, if_neg e0, if_pos e1]; rfl
  by_cases e7 : o = 717
  · rw [if_neg (by omega), if_neg (by omega), if_neg e0, if_neg e1, if_pos e7, if_neg e0, if_neg e1, if_pos e7]; rfl
  rw [if_neg e0, if_neg e1, if_neg e7, if_neg e0, if_neg e1, if_neg e7]
  by_cases e6 : (o - 2) % 65 = 64
  · rw [if_pos e6, if_pos e6]
    simp only [WB.set]
    by_cases ek : (o - 2) / 65 = k
    · rw [if_pos (by omega), if_pos ek]
    · rw [if_neg (by omega), if_neg (by omega), if_neg ek]
  · rw [if_neg e6, if_neg e6, if_neg (by omega)]
    simp only [WB.set]
    by_cases ek : (o - 2) / 65 = k ∧ (o - 2) % 65 = j
    · rw [if_pos (by omega), if_pos ek]
    · rw [if_neg (by omega), if_neg ek]

set_option maxRecDepth 100000 in
set_option maxHeartbeats 400000 in
theorem hang_new (b now due : Nat) (t : Int) (tv : List (Int × (Nat × Spot))) (hung : Int → Option Spot) (B : WB) (w : World) (h : WheelRaw w b now tv hung B) (hle : ¬ (due : Int) ≤ now) (hnew : hung t = none)
    (hd : due < 18446744073709551616) (hn : now < 18446744073709551616) (hr : B.sm (levelOf now due) (slotOf (levelOf now due) due) = none) :
    Calls Tryz.prog 120 #[.pointer (some ⟨b, 0, none⟩), .int .i64 t, .int .u64 due] w fun e w' => e = .returned (.tuple #[]) ∧ HangPost b now due t tv hung B w w' := by
  have hkl := levelOf_lt now due
  have hjl := slotOf_lt (levelOf now due) due
  have Hw := Lib.hid (where_later b due now)
  have Hs := Lib.hid (show spotOf now due = some (levelOf now due, slotOf (levelOf now due) due) by unfold spotOf; rw [if_neg (by omega)])
  generalize hk : levelOf now due = k at *
  generalize hj : slotOf k due = j at *
  have hb := h.cells.lt
  have hc0 : w.cell? ⟨b, 0, none⟩ = some (.int .u64 now) := h.cells.cell (o := 0) (by omega)
  have hc1 : w.cell? ⟨b, 1, none⟩ = some (.map (some B.mt)) := h.cells.cell (o := 1) (by omega)
  clear hk hj
  have hqn := fun (wx : World) (rr : Option Nat) => run_eql_map_nil (P := Tryz.prog) wx 230 _ _ rr und_boolmap
  go_enter Tryz.func120, Tryz.ntmps120
  go_wp2_with fail
  refine (Hw.out _ hd hn hle hb hc0).mono ?_
  rintro e w1 ⟨rfl, hw1⟩
  have hb1 := hw1.cell (p := ⟨b, 1, none⟩) hb
  rw [hc1] at hb1
  have hsz := hw1.size
  have hb' : b < w1.heap.size := by omega
  go_wp2_with fail
  have hT : MapAt w1 B.mt ki spotV tv := h.timers.of_block (hw1.block _ h.timers.lt)
  refine wp_region_still_tail 6 (by kernel_rfl) (by kernel_rfl) ?_
  simp only [List.take_succ_cons, List.take_zero, List.drop_succ_cons, List.drop_zero, World.drew_eq]
  repeat still_step
  refine wpStill_nil ?_
  refine wpList_update_at rfl _ _ _ _ rfl kInt und_spotmap rfl (hT.of_block (w' := (w1.alloc _).drew) (Below.heap_alloc _ _ _ hT.lt)) t rfl (due, some (k, j)) rfl ?_
  intro w2 hat hk2 hz2
  have hmt := hT.lt
  simp only [World.size_drew, World.size_alloc] at hz2
  have hS2 : w2.heap[w1.heap.size]? = some (.cells #[.int .u64 due, .int .i64 k, .int .i64 j] 241 (0, 0)) :=
    (hk2.block _ (by simp) (by omega)).trans (World.alloc_heap_new _ _)
  obtain ⟨hs0, hs1, hs2⟩ := cells3 hS2
  have hbo : b < w2.heap.size := by omega
  have hB2 : w2.heap[b]? = w.heap[b]? := ((hk2.block b (by simp; omega) h.apart1.1).trans (Below.heap_alloc _ _ _ hb')).trans (hw1.block b hb)
  have hki : (k : Int) < 11 := by omega
  have hji : (j : Int) < 64 := by omega
  go_wp2_with fail
  refine wp_region_still_tail 6 (by kernel_rfl) (by kernel_rfl) ?_
  simp only [List.take_succ_cons, List.take_zero, List.drop_succ_cons, List.drop_zero, World.drew_eq]
  repeat still_step
  refine wpStill_nil ?_
  have H2 := h.cells.of_block hB2
  have hsl : w2.cell? ⟨b, 2 + k * 65 + j, none⟩ = some (.map none) := by
    rw [H2.cell (o := 2 + k * 65 + j) (by omega)]; unfold wcells
    rw [if_neg (by omega), if_neg (by omega), if_neg (by omega), show 2 + k * 65 + j - 2 = j + k * 65 by omega, Nat.add_mul_mod_self_right, Nat.mod_eq_of_lt (by omega), if_neg (by omega),
      Nat.add_mul_div_right _ _ (by omega), Nat.div_eq_of_lt (by omega), Nat.zero_add, hr]
  have hfl : w2.cell? ⟨b, 2 + k * 65 + 64, none⟩ = some (.int .u64 (B.full k)) := by
    rw [H2.cell (o := 2 + k * 65 + 64) (by omega)]; unfold wcells
    rw [if_neg (by omega), if_neg (by omega), if_neg (by omega), show 2 + k * 65 + 64 - 2 = 64 + k * 65 by omega, Nat.add_mul_mod_self_right, Nat.mod_eq_of_lt (by omega), if_pos rfl,
      Nat.add_mul_div_right _ _ (by omega), Nat.div_eq_of_lt (by omega), Nat.zero_add]
  have Hr := Lib.hid hr
  clear hr
  go_wp2_with fail
  refine wp_region_still_tail 7 (by kernel_rfl) (by kernel_rfl) ?_
  simp only [List.take_succ_cons, List.take_zero, List.drop_succ_cons, List.drop_zero, World.drew_eq]
  repeat still_step
  refine wpStill_nil ?_
  go_wp2_with fail
  have hsz2 := H2.frozen (2 + k * 65 + j)
  have hmm := @run_makeMap Tryz.prog
  go_region
  obtain ⟨w3, hw3⟩ : ∃ w3, ((w2.setCell ⟨b, 2 + k * 65 + j, none⟩ (.map (some (w1.heap.size + 1)))).alloc (.map #[] 0)).drew.drew.drew = w3 := ⟨_, rfl⟩
  rw [hw3]
  have hKw : Keep (fun i => i = b) w2 w3 := by rw [← hw3]; exact ((((Keep.refl (fun i => i = b) w2).setCell (p := ⟨b, 2 + k * 65 + j, none⟩) (fun _ => rfl) _).alloc _).drewN 3)
  have hz3 : w3.heap.size = w1.heap.size + 2 := by rw [← hw3]; simp [hz2]
  have hC3 : HoldsF w3 b 236 718 (fun i => if i = 2 + k * 65 + j then .map (some (w1.heap.size + 1)) else wcells now B i) := by
    rw [← hw3]; exact (H2.setCell _ _).of_block (Below.heap_alloc _ _ _ (by simp; omega))
  have hM3 : MapAt w3 (w1.heap.size + 1) ki Value.bool (tru []) := by
    have := MapAt.fresh (w2.setCell ⟨b, 2 + k * 65 + j, none⟩ (.map (some (w1.heap.size + 1)))) ki Value.bool
    rw [World.size_setCell, hz2] at this
    rw [← hw3]; exact this.of_block rfl
  clear hw3 hmm
  have hS3 : w3.heap[w1.heap.size]? = some (.cells #[.int .u64 due, .int .i64 k, .int .i64 j] 241 (0, 0)) := (hKw.block _ (by omega) (by omega)).trans hS2
  clear hs0 hs1 hs2 hsl hfl hsz2
  obtain ⟨hs0, hs1, hs2⟩ := cells3 hS3
  have hsl : w3.cell? ⟨b, 2 + k * 65 + j, none⟩ = some (.map (some (w1.heap.size + 1))) := by rw [hC3.cell (o := 2 + k * 65 + j) (by omega), if_pos rfl]
  go_wp2_with fail
  refine wp_region_still_tail 8 (by kernel_rfl) (by kernel_rfl) ?_
  simp only [List.take_succ_cons, List.take_zero, List.drop_succ_cons, List.drop_zero, World.drew_eq]
  repeat still_step
  refine wpStill_nil ?_
  refine wpList_update_at rfl _ _ _ _ rfl kInt und_boolmap rfl (hM3.of_block (w' := w3.drew) rfl) t rfl true rfl ?_
  intro w4 hat4 hk4 hz4
  simp only [World.size_drew] at hz4
  have hS4 : w4.heap[w1.heap.size]? = some (.cells #[.int .u64 due, .int .i64 k, .int .i64 j] 241 (0, 0)) := (hk4.block _ (by simp; omega) (by omega)).trans hS3
  have hC4 : HoldsF w4 b 236 718 (fun i => if i = 2 + k * 65 + j then .map (some (w1.heap.size + 1)) else wcells now B i) :=
    hC3.of_block (hk4.block b (by simp; omega) (by omega))
  clear hs0 hs1 hs2 hsl
  obtain ⟨hs0, hs1, hs2⟩ := cells3 hS4
  have hfl : w4.cell? ⟨b, 2 + k * 65 + 64, none⟩ = some (.int .u64 (B.full k)) := by
    rw [hC4.cell (o := 2 + k * 65 + 64) (by omega), if_neg (by omega)]; unfold wcells
    rw [if_neg (by omega), if_neg (by omega), if_neg (by omega), show 2 + k * 65 + 64 - 2 = 64 + k * 65 by omega, Nat.add_mul_mod_self_right, Nat.mod_eq_of_lt (by omega), if_pos rfl,
      Nat.add_mul_div_right _ _ (by omega), Nat.div_eq_of_lt (by omega), Nat.zero_add]
  have hfz := hC4.frozen (2 + k * 65 + 64)
  go_wp2_with fail
  refine wp_region_still_tail 10 (by kernel_rfl) (by kernel_rfl) ?_
  simp only [List.take_succ_cons, List.take_zero, List.drop_succ_cons, List.drop_zero, World.drew_eq]
  repeat still_step
  refine wpStill_nil ?_
  go_wp2_with fail
  refine bodyPost_end (results_none rfl _ _ _) rfl ?_
  refine ⟨rfl, ?_⟩
  have hfull := (h.full k hkl).1
  have hK : Keep (fun i => i = b ∨ i = B.mt ∨ i = w1.heap.size + 1) w (w4.setCell ⟨b, 2 + k * 65 + 64, none⟩ (.int .u64 (bits BinOp.or IntKind.u64 (B.full k) (IntKind.u64.wrap (2 ^ j))))).drew :=
    (((((((Keep.of_below hw1 (fun k h1 h2 => absurd h1 (by omega))).alloc _).drew.trans hk2 (fun _ h => h) (fun _ _ e => .inr (.inl e))).trans hKw (fun _ h => h) (fun _ _ e => .inl e)).drewN 1).trans hk4 (fun _ h => h) (fun _ _ e => .inr (.inr e))).setCell (fun _ => .inl rfl) _).drew
  rw [word_or _ _ hfull hjl] at hK ⊢
  have hnf : ∀ k' j', k' < 11 → j' < 64 → B.sm k' j' ≠ some (w1.heap.size + 1) := fun k' j' h1 h2 h3 => by
    have := h.lt (.inr (.inr (.inr ⟨k', j', h1, h2, h3⟩))); omega
  refine hang_asm_later (k := k) (j := j) (r := w1.heap.size + 1) h hnew hkl hjl Hs.out ?_ ?_ ?_ ⟨by omega, by omega, by have := h.lt (.inr (.inr (.inl rfl))); omega⟩ (fun k' j' h1 h2 h3 => absurd h3 (hnf k' j' h1 h2)) (.inr (by omega)) hK
  · refine (hC4.setCell (2 + k * 65 + 64) (.int .u64 ((B.full k ||| 2 ^ j : Nat) : Int))).congr fun o ho => ?_
    exact wcells_new now B k j _ o hkl hjl ho
  · exact hat.of_block ((Below.heap_setCell _ _ _ _ (by exact h.apart1.1.symm)).trans ((hk4.block _ (by simp; omega) (by omega)).trans (hKw.block _ (by omega) h.apart1.1.symm)))
  · refine ((SetAt.add (p := fun _ => False) hat4 List.nodup_nil (fun x => by simp)).of_block (Below.heap_setCell _ _ _ _ (by simp; omega))).congr fun x => ?_
    have hn := h.slots k j hkl hjl
    rw [Hr.out] at hn
    have := hn x
    simp only [or_false]
    exact ⟨.inl, fun e => e.resolve_right this⟩

theorem hang_any (b now due : Nat) (t : Int) (tv : List (Int × (Nat × Spot))) (hung : Int → Option Spot) (B : WB) (w : World) (h : WheelRaw w b now tv hung B) (hnew : hung t = none)
    (hd : due < 18446744073709551616) (hn : now < 18446744073709551616) :
    Calls Tryz.prog 120 #[.pointer (some ⟨b, 0, none⟩), .int .i64 t, .int .u64 due] w fun e w' => e = .returned (.tuple #[]) ∧ HangPost b now due t tv hung B w w' := by
  by_cases hle : (due : Int) ≤ now
  · exact hang_over b now due t tv hung B w h hle hnew
  · cases hr : B.sm (levelOf now due) (slotOf (levelOf now due) due) with
    | none => exact hang_new b now due t tv hung B w h hle hnew hd hn hr
    | some r => exact hang_old b now due t tv hung B w h hle hnew hd hn r hr
end Go.Proofs.YtdacbgdinmaemaaGreatDoor
