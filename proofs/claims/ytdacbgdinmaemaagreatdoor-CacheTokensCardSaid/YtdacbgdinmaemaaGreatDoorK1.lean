/- Contracts and plain laws of this claim, part K1. -/
import Derived.WalkKit
import Derived.Maps.OwnSet
import Derived.Maps.RangeWalk
import Derived.Lib.Hide
import Derived.RangeFuncRecord
import Derived.Deep.Draws
import Derived.WalkLawsBesides
import Derived.WalkSpells
import Derived.Test.YtdacbgdinmaemaaGreatDoorProg
set_option linter.all false

namespace Vz
open Go Go.RowKit

/-- Blocks outside S are as they were. -/
structure Keep (S : Nat → Prop) (w w' : World) : Prop where
  os : w'.os = w.os
  tape : w'.tape = w.tape
  output : w'.output = w.output
  size : w.heap.size ≤ w'.heap.size
  block : ∀ k, k < w.heap.size → ¬ S k → w'.heap[k]? = w.heap[k]?

theorem Keep.refl (S : Nat → Prop) (w : World) : Keep S w w := ⟨rfl, rfl, rfl, Nat.le_refl _, fun _ _ _ => rfl⟩
theorem Keep.trans {S T U : Nat → Prop} {a b c : World} (h : Keep S a b) (k : Keep T b c) (hS : ∀ i, S i → U i) (hT : ∀ i, i < a.heap.size → T i → U i) : Keep U a c :=
  ⟨k.os.trans h.os, k.tape.trans h.tape, k.output.trans h.output, Nat.le_trans h.size k.size, fun i hi hn =>
    (k.block i (Nat.lt_of_lt_of_le hi h.size) (fun ht => hn (hT i hi ht))).trans (h.block i hi (fun hs => hn (hS i hs)))⟩
theorem Keep.mono {S T : Nat → Prop} {w w' : World} (h : Keep S w w') (hST : ∀ i, i < w.heap.size → S i → T i) : Keep T w w' :=
  ⟨h.os, h.tape, h.output, h.size, fun k hk hn => h.block k hk (fun hs => hn (hST k hk hs))⟩
theorem Keep.alloc {S : Nat → Prop} {a w : World} (h : Keep S a w) (o : Obj) : Keep S a (w.alloc o) :=
  h.trans (T := fun _ => False) ⟨rfl, rfl, rfl, by simp, fun k hk _ => Below.heap_alloc _ _ _ hk⟩ (fun _ h => h) (fun _ _ h => h.elim)
theorem Keep.setCell {S : Nat → Prop} {a w : World} (h : Keep S a w) {p : Addr} (hp : p.block < a.heap.size → S p.block) (u : Value) : Keep S a (w.setCell p u) :=
  h.trans (T := fun i => i = p.block) ⟨rfl, rfl, rfl, by simp, fun k _ hn => Below.heap_setCell _ _ _ _ hn⟩ (fun _ h => h) (fun i hi e => by subst e; exact hp hi)
theorem Keep.putObj {S : Nat → Prop} {a w : World} (h : Keep S a w) {r : Nat} (hp : r < a.heap.size → S r) (o : Obj) : Keep S a (w.putObj r o) :=
  h.trans (T := fun i => i = r) ⟨rfl, rfl, rfl, by simp [World.putObj], fun k _ hn => World.putObj_heap_other hn⟩ (fun _ h => h) (fun i hi e => by subst e; exact hp hi)
theorem Keep.drew {S : Nat → Prop} {a w : World} (h : Keep S a w) : Keep S a w.drew := ⟨h.os, h.tape, h.output, h.size, h.block⟩
theorem Keep.drewN {S : Nat → Prop} {a w : World} (h : Keep S a w) (n : Nat) : Keep S a (w.drewN n) := ⟨h.os, h.tape, h.output, h.size, h.block⟩
theorem Keep.of_below {S : Nat → Prop} {B : Nat} {w w' : World} (h : Below B w w') (hB : ∀ k, k < w.heap.size → B ≤ k → S k) : Keep S w w' :=
  ⟨h.os, h.tape, h.output, h.size, fun k hk hn => h.block k (Nat.lt_of_not_le fun hb => hn (hB k hk hb))⟩
theorem Keep.below {w w' : World} (h : Keep (fun _ => False) w w') : Below w.heap.size w w' :=
  ⟨h.os, h.tape, h.output, h.size, fun k hk => h.block k hk id⟩
theorem Keep.cell {S : Nat → Prop} {w w' : World} (h : Keep S w w') {p : Addr} {v : Value} (hv : w.cell? p = some v) (hn : ¬ S p.block) : w'.cell? p = some v := by
  rw [← hv]; exact World.cell?_of_block (w := w) (h.block p.block (World.block_lt_of_cell? _ _ hv) hn)
theorem lt_of_heap {w : World} {b : Nat} {o : Obj} (h : w.heap[b]? = some o) : b < w.heap.size := (Array.getElem?_eq_some_iff.1 h).1
theorem Keep.heap {S : Nat → Prop} {w w' : World} (h : Keep S w w') {b : Nat} {o : Obj} (hb : w.heap[b]? = some o) (hn : ¬ S b) : w'.heap[b]? = some o :=
  (h.block b (lt_of_heap hb) hn).trans hb

/-! ### Association lists -/
section assoc
variable {κ ν : Type} [DecidableEq κ]
/-- what stands at a key -/
def lk (l : List (κ × ν)) (k : κ) : Option ν := (l.find? (fun p => decide (p.1 = k))).map (·.2)
def has (l : List (κ × ν)) (k : κ) : Bool := l.any (fun p => decide (p.1 = k))
/-- a store -/
def put : List (κ × ν) → κ → ν → List (κ × ν)
  | [], k, v => [(k, v)]
  | p :: l, k, v => if p.1 = k then (k, v) :: l else p :: put l k v
/-- a delete -/
def del : List (κ × ν) → κ → List (κ × ν)
  | [], _ => []
  | p :: l, k => if p.1 = k then l else p :: del l k
def keys (l : List (κ × ν)) : List κ := l.map (·.1)

theorem lk_nil (k : κ) : lk ([] : List (κ × ν)) k = none := rfl
theorem lk_cons (p : κ × ν) (l : List (κ × ν)) (k : κ) : lk (p :: l) k = if p.1 = k then some p.2 else lk l k := by
  unfold lk; rw [List.find?_cons]; by_cases h : p.1 = k <;> simp [h]
theorem has_eq (l : List (κ × ν)) (k : κ) : has l k = (lk l k).isSome := by
  induction l with
  | nil => rfl
  | cons p l ih => rw [lk_cons]; unfold has at *; rw [List.any_cons, ih]; by_cases h : p.1 = k <;> simp [h]
theorem lk_put (l : List (κ × ν)) (k : κ) (v : ν) (j : κ) : lk (put l k v) j = if k = j then some v else lk l j := by
  induction l with
  | nil => simp [put, lk_cons, lk_nil]
  | cons p l ih =>
    unfold put
    by_cases h : p.1 = k
    · rw [if_pos h, lk_cons, lk_cons]; subst h; by_cases hj : p.1 = j <;> simp [hj]
    · rw [if_neg h, lk_cons, lk_cons, ih]
      by_cases hj : p.1 = j
      · have : ¬ k = j := fun e => h (hj.trans e.symm)
        simp [hj, this]
      · simp [hj]
theorem mem_keys_of_lk {l : List (κ × ν)} {k : κ} {v : ν} (h : lk l k = some v) : (k, v) ∈ l := by
  induction l with
  | nil => simp [lk_nil] at h
  | cons p l ih =>
    rw [lk_cons] at h
    by_cases hp : p.1 = k
    · rw [if_pos hp] at h; cases h; subst hp; simp
    · rw [if_neg hp] at h; exact List.mem_cons_of_mem _ (ih h)
theorem lk_eq_none {l : List (κ × ν)} {k : κ} : lk l k = none ↔ k ∉ keys l := by
  induction l with
  | nil => simp [lk_nil, keys]
  | cons p l ih =>
    rw [lk_cons]; unfold keys at *
    by_cases hp : p.1 = k
    · simp [hp]
    · simp [hp, ih, Ne.symm hp]
theorem lk_of_mem {l : List (κ × ν)} (hn : (keys l).Nodup) {k : κ} {v : ν} (h : (k, v) ∈ l) : lk l k = some v := by
  induction l with
  | nil => simp at h
  | cons p l ih =>
    rw [lk_cons]
    unfold keys at hn ih
    rw [List.map_cons, List.nodup_cons] at hn
    rcases List.mem_cons.1 h with e | h
    · subst e; simp
    · by_cases hp : p.1 = k
      · exact absurd (List.mem_map_of_mem (f := Prod.fst) h) (by simpa [hp] using hn.1)
      · rw [if_neg hp]; exact ih hn.2 h
theorem lk_del (l : List (κ × ν)) (hn : (keys l).Nodup) (k j : κ) : lk (del l k) j = if k = j then none else lk l j := by
  induction l with
  | nil => simp [del, lk_nil]
  | cons p l ih =>
    unfold keys at hn ih
    rw [List.map_cons, List.nodup_cons] at hn
    unfold del
    by_cases h : p.1 = k
    · rw [if_pos h, lk_cons]
      by_cases hj : k = j
      · rw [if_pos hj]; subst hj; rw [lk_eq_none]; subst h; exact hn.1
      · rw [if_neg hj, if_neg (fun e => hj (h.symm.trans e))]
    · rw [if_neg h, lk_cons, lk_cons, ih hn.2]
      by_cases hj : p.1 = j
      · have : ¬ k = j := fun e => h (hj.trans e.symm)
        simp [hj, this]
      · simp [hj]
theorem keys_put (l : List (κ × ν)) (k : κ) (v : ν) : keys (put l k v) = if has l k then keys l else keys l ++ [k] := by
  induction l with
  | nil => rfl
  | cons p l ih =>
    unfold put
    by_cases h : p.1 = k
    · simp [h, has, keys]
    · rw [if_neg h]; unfold keys has at *; rw [List.map_cons, ih, List.any_cons]; simp only [h, decide_false, Bool.false_or]; split <;> simp
theorem mem_keys {l : List (κ × ν)} {k : κ} : k ∈ keys l ↔ has l k = true := by
  rw [has_eq]
  by_cases h : k ∈ keys l
  · simp only [h, true_iff]; cases e : lk l k with
    | none => exact absurd h (lk_eq_none.1 e)
    | some v => rfl
  · simp only [h, false_iff]; rw [lk_eq_none.2 h]; simp
theorem nodup_put {l : List (κ × ν)} (hn : (keys l).Nodup) (k : κ) (v : ν) : (keys (put l k v)).Nodup := by
  rw [keys_put]
  split
  · exact hn
  · rename_i h
    rw [List.nodup_append]
    refine ⟨hn, by simp, fun a ha b hb => ?_⟩
    simp at hb; subst hb; intro e; subst e; exact h (mem_keys.1 ha)
theorem keys_del_sub (l : List (κ × ν)) (k : κ) : (del l k).Sublist l := by
  induction l with
  | nil => exact List.Sublist.slnil
  | cons p l ih =>
    unfold del
    split
    · exact List.sublist_cons_self _ _
    · exact ih.cons_cons _
theorem nodup_del {l : List (κ × ν)} (hn : (keys l).Nodup) (k : κ) : (keys (del l k)).Nodup := ((keys_del_sub l k).map _).nodup hn
theorem length_put (l : List (κ × ν)) (k : κ) (v : ν) : (put l k v).length = if has l k then l.length else l.length + 1 := by
  have := congrArg List.length (keys_put l k v)
  unfold keys at this
  rw [List.length_map] at this
  rw [this]; split <;> simp
theorem length_del (l : List (κ × ν)) (k : κ) : (del l k).length = if has l k then l.length - 1 else l.length := by
  induction l with
  | nil => rfl
  | cons p l ih =>
    unfold del
    by_cases h : p.1 = k
    · simp [h, has]
    · rw [if_neg h, List.length_cons, ih]; unfold has; rw [List.any_cons]; simp only [h, decide_false, Bool.false_or]
      split
      · rename_i hh
        have : 0 < l.length := by cases l with
          | nil => simp at hh
          | cons _ _ => simp
        simp; omega
      · rfl
theorem mem_del {l : List (κ × ν)} (hn : (keys l).Nodup) {k : κ} {p : κ × ν} : p ∈ del l k ↔ p ∈ l ∧ p.1 ≠ k := by
  constructor
  · intro h
    refine ⟨(keys_del_sub l k).subset h, fun e => ?_⟩
    have := lk_of_mem (nodup_del hn k) (k := p.1) (v := p.2) h
    rw [lk_del l hn, if_pos e.symm] at this; cases this
  · rintro ⟨h, hne⟩
    have := lk_of_mem hn (k := p.1) (v := p.2) h
    have h2 : lk (del l k) p.1 = some p.2 := by rw [lk_del l hn, if_neg (Ne.symm hne), this]
    exact mem_keys_of_lk h2
end assoc
end Vz

namespace Vz
open Go Go.RowKit Go.WideShapes Go.ChangeMaps
set_option linter.unusedSectionVars false

theorem map_modify {α β : Type} (f : α → β) (g : α → α) (l : List α) (i : Nat) (y : β) (h : ∀ x, l[i]? = some x → f (g x) = y) : (l.modify i g).map f = (l.map f).set i y := by
  apply List.ext_getElem?; intro j
  rw [List.getElem?_map, List.getElem?_modify, List.getElem?_set, List.getElem?_map]
  by_cases hj : i = j
  · subst hj
    cases hx : l[i]? with
    | none => have := List.getElem?_eq_none_iff.1 hx; simp; omega
    | some x => have hlt := (List.getElem?_eq_some_iff.1 hx).1; simp [h x hx, hlt]
  · simp [hj]

section
variable {κ ν : Type} [DecidableEq κ]

/-- the place of a key -/
def fi : List κ → κ → Option Nat
  | [], _ => none
  | a :: l, k => if a = k then some 0 else (fi l k).map (· + 1)

theorem lk_fi (l : List (κ × ν)) (k : κ) : lk l k = (fi (keys l) k).bind fun i => (l[i]?).map (·.2) := by
  induction l with
  | nil => rfl
  | cons p l ih =>
    rw [lk_cons]; unfold keys at *; rw [List.map_cons]; unfold fi
    by_cases h : p.1 = k
    · simp [h]
    · rw [if_neg h, if_neg h, ih]; cases fi (l.map (·.1)) k <;> simp
theorem put_fi (l : List (κ × ν)) (k : κ) (v : ν) : put l k v = match fi (keys l) k with | some i => l.set i (k, v) | none => l ++ [(k, v)] := by
  induction l with
  | nil => rfl
  | cons p l ih =>
    unfold put keys fi; rw [List.map_cons]
    by_cases h : p.1 = k
    · simp [h]
    · simp only [h, if_false]; rw [ih]; unfold keys; cases fi (l.map (·.1)) k <;> simp
theorem del_fi (l : List (κ × ν)) (k : κ) : del l k = match fi (keys l) k with | some i => l.eraseIdx i | none => l := by
  induction l with
  | nil => rfl
  | cons p l ih =>
    unfold del keys fi; rw [List.map_cons]
    by_cases h : p.1 = k
    · simp [h]
    · simp only [h, if_false]; rw [ih]; unfold keys; cases fi (l.map (·.1)) k <;> simp
theorem fi_lt {l : List κ} {k : κ} {i : Nat} (h : fi l k = some i) : l[i]? = some k := by
  induction l generalizing i with
  | nil => cases h
  | cons a l ih =>
    unfold fi at h
    by_cases e : a = k
    · rw [if_pos e] at h; cases h; simp [e]
    · rw [if_neg e] at h
      cases hh : fi l k with
      | none => rw [hh] at h; cases h
      | some j => rw [hh] at h; cases h; simpa using ih hh

/-- How keys of a map type are spelled as values. -/
structure KeyEnc (P : Program) (kt : TypeId) (ek : κ → Value) : Prop where
  find : ∀ (k : κ) (es : List MapEntry) (ks : List κ) (w : World), es.map (·.key) = ks.map ek →
    (Instr.findKey kt (ek k) es).run P w = .ok ((fi ks k).bind fun i => (es[i]?).map fun e => (i, e.val)) w
  check : ∀ (k : κ) (em : Bool) (w : World), (Instr.checkKey em 10000 kt (ek k)).run P w = .ok () w
  bits : ∀ k : κ, Instr.sameBits 10000 (ek k) (ek k) = true

/-- Block r is a map whose entries are l. -/
def MapAt (w : World) (r : Nat) (ek : κ → Value) (ev : ν → Value) (l : List (κ × ν)) : Prop :=
  ∃ es clock, w.heap[r]? = some (.map es clock) ∧ es.toList.map (·.key) = l.map (fun p => ek p.1) ∧ es.toList.map (·.val) = l.map (fun p => ev p.2) ∧
    (es.toList.map (·.born)).Pairwise (· < ·) ∧ ∀ e ∈ es.toList, e.born < clock

variable {P : Program} {kt : TypeId} {ek : κ → Value} {ev : ν → Value} {w : World} {r : Nat} {l : List (κ × ν)}

theorem MapAt.lt (h : MapAt w r ek ev l) : r < w.heap.size := by
  obtain ⟨es, c, hb, _⟩ := h; exact lt_of_heap hb
theorem MapAt.of_block {w' : World} (h : MapAt w r ek ev l) (hb : w'.heap[r]? = w.heap[r]?) : MapAt w' r ek ev l := by
  obtain ⟨es, c, h1, h2⟩ := h; exact ⟨es, c, hb.trans h1, h2⟩
theorem MapAt.keep {S : Nat → Prop} {w' : World} (h : MapAt w r ek ev l) (hk : Keep S w w') (hn : ¬ S r) : MapAt w' r ek ev l :=
  h.of_block (hk.block r h.lt hn)

theorem MapAt.len (h : MapAt w r ek ev l) : ∃ es clock, w.heap[r]? = some (.map es clock) ∧ es.size = l.length := by
  obtain ⟨es, c, h1, h2, _⟩ := h
  refine ⟨es, c, h1, ?_⟩
  have := congrArg List.length h2
  simpa using this

theorem run_lookup_at (K : KeyEnc P kt ek) {T et : TypeId} (hT : P.underlying T = some (.map kt et)) {z : Value} (hz : (zeroValue et).run P w = .ok z w) (h : MapAt w r ek ev l) (k : κ) (c : Bool) :
    (Instr.lookup T (.map (some r)) (ek k) c).run P w = .ok (if c then .tuple #[((lk l k).map ev).getD z, .bool (lk l k).isSome] else ((lk l k).map ev).getD z) w := by
  obtain ⟨es, clock, h1, h2, h3, _⟩ := h
  have hf := K.find k es.toList (keys l) w (by rw [h2]; simp [keys])
  have hl := lk_fi l k
  cases hi : fi (keys l) k with
  | none =>
    rw [hi] at hf hl
    simp [Instr.lookup, run_underlying hT, MapKept.run_getObj_map h1, K.check k _ w, hf, hz, Result.andThen, hl]
  | some i =>
    have hlt : i < l.length := by
      have := fi_lt hi; unfold keys at this; rw [List.getElem?_map] at this
      cases hh : l[i]? with
      | none => rw [hh] at this; cases this
      | some x => exact (List.getElem?_eq_some_iff.1 hh).1
    have hv : (es.toList.map (·.val))[i]? = (l.map (fun p => ev p.2))[i]? := by rw [h3]
    simp only [List.getElem?_map, List.getElem?_eq_getElem hlt, Option.map_some] at hv
    cases he : es.toList[i]? with
    | none => rw [he] at hv; cases hv
    | some e =>
      rw [he] at hv; simp at hv
      rw [hi] at hf hl
      simp only [Option.bind_some, he, Option.map_some, List.getElem?_eq_getElem hlt] at hf hl
      simp [Instr.lookup, run_underlying hT, MapKept.run_getObj_map h1, K.check k _ w, hf, Result.andThen, hl, hv]

theorem run_update_at (K : KeyEnc P kt ek) {T et : TypeId} (hT : P.underlying T = some (.map kt et)) (h : MapAt w r ek ev l) (k : κ) (v : ν) :
    ∃ o, (Instr.mapUpdate T (.map (some r)) (ek k) (ev v)).run P w = .ok () (w.putObj r o) ∧ MapAt (w.putObj r o) r ek ev (put l k v) := by
  have hr := h.lt
  obtain ⟨es, clock, h1, h2, h3, h4, h5⟩ := h
  have hf := K.find k es.toList (keys l) w (by rw [h2]; simp [keys])
  have hp := put_fi l k v
  have hset : ∀ o, (setObj r o).run P w = .ok () (w.putObj r o) := fun o => by
    simp only [setObj, Sem.run, h1]; rfl
  cases hi : fi (keys l) k with
  | none =>
    rw [hi] at hf hp
    refine ⟨.map (es.push { key := ek k, val := ev v, born := clock }) (clock + 1), ?_, ?_⟩
    · simp [Instr.mapUpdate, run_underlying hT, MapKept.run_getObj_map h1, K.check k _ w, hf, Result.andThen, hset]
    · refine ⟨_, _, World.putObj_heap_same hr, ?_, ?_, ?_, ?_⟩
      · rw [hp]; simp [h2]
      · rw [hp]; simp [h3]
      · simp only [Array.toList_push, List.map_append, List.map_cons, List.map_nil]
        rw [List.pairwise_append]
        refine ⟨h4, by simp, fun a ha b hb => ?_⟩
        simp at hb; subst hb
        obtain ⟨e, he, rfl⟩ := List.mem_map.1 ha
        exact h5 e he
      · intro e he
        simp only [Array.toList_push, List.mem_append, List.mem_singleton] at he
        rcases he with he | rfl
        · exact Nat.lt_succ_of_lt (h5 e he)
        · exact Nat.lt_succ_self _
  | some i =>
    have hfl := fi_lt hi
    have hlt : i < l.length := by
      have := hfl; unfold keys at this; rw [List.getElem?_map] at this
      cases hh : l[i]? with
      | none => rw [hh] at this; cases this
      | some x => exact (List.getElem?_eq_some_iff.1 hh).1
    have hes : i < es.toList.length := by have := congrArg List.length h2; simp at this; simpa [this] using hlt
    have hk : (es.toList.map (·.key))[i]? = (l.map (fun p => ek p.1))[i]? := by rw [h2]
    have hki : es[i].key = ek k := by
      have e1 : (es.toList.map (·.key))[i]? = some (ek k) := by
        rw [hk]; have : ((keys l).map ek)[i]? = some (ek k) := by rw [List.getElem?_map, hfl]; rfl
        rw [← this]; simp [keys, Function.comp_def]
      rw [List.getElem?_map, List.getElem?_eq_getElem hes] at e1
      simpa using e1
    rw [hi] at hf hp
    simp only [Option.bind_some, List.getElem?_eq_getElem hes, Option.map_some] at hf
    refine ⟨.map (es.modify i fun e => { e with key := ek k, val := ev v }) clock, ?_, ?_⟩
    · have hes' : i < es.size := by simpa using hes
      simp [Instr.mapUpdate, run_underlying hT, MapKept.run_getObj_map h1, K.check k _ w, hf, Result.andThen, hset, hes', hki, Instr.keyThatStays, K.bits]
    · refine ⟨_, _, World.putObj_heap_same hr, ?_, ?_, ?_, ?_⟩
      · rw [hp, Array.toList_modify]; refine (map_modify (fun e : MapEntry => e.key) (fun e => { e with key := ek k, val := ev v }) _ _ (ek k) (fun _ _ => rfl)).trans ?_; rw [h2]; simp [List.map_set]
      · rw [hp, Array.toList_modify]; refine (map_modify (fun e : MapEntry => e.val) (fun e => { e with key := ek k, val := ev v }) _ _ (ev v) (fun _ _ => rfl)).trans ?_; rw [h3]; simp [List.map_set]
      · rw [Array.toList_modify]
        have hb0 : (es.toList.modify i (fun e => { e with key := ek k, val := ev v })).map (fun e : MapEntry => e.born) = (es.toList.map (fun e : MapEntry => e.born)).set i (es[i].born) :=
          map_modify (fun e : MapEntry => e.born) (fun e => { e with key := ek k, val := ev v }) _ _ (es[i].born) (fun x hx => by rw [List.getElem?_eq_getElem hes] at hx; cases hx; rfl)
        rw [hb0]
        have : (es.toList.map (·.born)).set i (es[i].born) = es.toList.map (·.born) := by
          apply List.ext_getElem?; intro j; rw [List.getElem?_set, List.getElem?_map]
          by_cases hj : i = j
          · subst hj; rw [if_pos rfl, if_pos (by simpa using hes), List.getElem?_eq_getElem hes]; rfl
          · simp [hj]
        rw [this]; exact h4
      · intro e he
        rw [Array.toList_modify] at he
        obtain ⟨j, hj⟩ := List.getElem?_of_mem he
        rw [List.getElem?_modify] at hj
        cases hx : es.toList[j]? with
        | none => rw [hx] at hj; simp at hj
        | some x =>
          rw [hx] at hj
          have hm : x ∈ es.toList := List.mem_of_getElem? hx
          by_cases hij : i = j
          · simp [hij] at hj; subst hj; exact h5 x hm
          · simp [hij] at hj; subst hj; exact h5 x hm

theorem map_eraseIdx {α β : Type} (f : α → β) (l : List α) (i : Nat) : (l.eraseIdx i).map f = (l.map f).eraseIdx i := by
  induction l generalizing i with
  | nil => rfl
  | cons a l ih => cases i with
    | zero => rfl
    | succ i => simp [ih]

theorem run_delete_at (K : KeyEnc P kt ek) {T et : TypeId} {ks : TypeId} (hT : P.underlying T = some (.map kt et)) (h : MapAt w r ek ev l) (k : κ) (ty : TypeId) :
    ∃ o, (Builtin.delete_ #[T, ks] ty #[.map (some r), ek k]).run P w = .ok (.tuple #[]) (w.putObj r o) ∧ MapAt (w.putObj r o) r ek ev (del l k) := by
  have hr := h.lt
  obtain ⟨es, clock, h1, h2, h3, h4, h5⟩ := h
  have hf := K.find k es.toList (keys l) w (by rw [h2]; simp [keys])
  have hp := del_fi l k
  have hset : ∀ o, (setObj r o).run P w = .ok () (w.putObj r o) := fun o => by
    simp only [setObj, Sem.run, h1]; rfl
  cases hi : fi (keys l) k with
  | none =>
    rw [hi] at hf hp
    refine ⟨.map es clock, ?_, ?_⟩
    · simp [Builtin.delete_, run_underlying hT, MapKept.run_getObj_map h1, K.check k _ w, hf, Result.andThen, hset]
    · exact ⟨_, _, World.putObj_heap_same hr, by rw [hp]; exact h2, by rw [hp]; exact h3, h4, h5⟩
  | some i =>
    have hfl := fi_lt hi
    have hlt : i < l.length := by
      have := hfl; unfold keys at this; rw [List.getElem?_map] at this
      cases hh : l[i]? with
      | none => rw [hh] at this; cases this
      | some x => exact (List.getElem?_eq_some_iff.1 hh).1
    have hes : i < es.toList.length := by have := congrArg List.length h2; simp at this; simpa [this] using hlt
    rw [hi] at hf hp
    simp only [Option.bind_some, List.getElem?_eq_getElem hes, Option.map_some] at hf
    have hes' : i < es.size := by simpa using hes
    refine ⟨.map (es.eraseIdxIfInBounds i) clock, ?_, ?_⟩
    · simp [Builtin.delete_, run_underlying hT, MapKept.run_getObj_map h1, K.check k _ w, hf, Result.andThen, hset]
    · have he : (es.eraseIdxIfInBounds i).toList = es.toList.eraseIdx i := by
        simp [Array.eraseIdxIfInBounds, hes']
      refine ⟨_, _, World.putObj_heap_same hr, ?_, ?_, ?_, ?_⟩
      · rw [he, hp, map_eraseIdx, h2, map_eraseIdx]
      · rw [he, hp, map_eraseIdx, h3, map_eraseIdx]
      · rw [he, map_eraseIdx]; exact h4.sublist (List.eraseIdx_sublist _ _)
      · intro e hm; rw [he] at hm; exact h5 e ((List.eraseIdx_sublist _ _).subset hm)

theorem run_len_at {T kt et : TypeId} (hT : P.underlying T = some (.map kt et)) (h : MapAt w r ek ev l) (ty : TypeId) :
    (Builtin.len_ #[T] ty #[.map (some r)]).run P w = .ok (.int .i64 l.length) w := by
  obtain ⟨es, c, h1, h2⟩ := h.len
  simp [Builtin.len_, run_underlying hT, MapKept.run_getObj_map h1, Result.andThen, goInt, h2]

theorem MapAt.fresh (w : World) (ek : κ → Value) (ev : ν → Value) : MapAt (w.alloc (.map #[] 0)) w.heap.size ek ev [] :=
  ⟨#[], 0, World.alloc_heap_new _ _, rfl, rfl, by simp, by simp⟩
end
end Vz

namespace Vz
open Go Go.RowKit Go.WideShapes Go.ChangeMaps
set_option linter.unusedSectionVars false
variable {κ ν : Type} [DecidableEq κ] {P : Program} {kt : TypeId} {ek : κ → Value} {ev : ν → Value} {w : World} {r : Nat} {l rem : List (κ × ν)}

/-- 'for k, v := range m' under way: block r a map with the entries l, block it an iterator over it; rem is still to come. -/
def IterAt (w : World) (it r : Nat) (ek : κ → Value) (ev : ν → Value) (l rem : List (κ × ν)) : Prop :=
  ∃ es clock since seen c0, w.heap[r]? = some (.map es clock) ∧ es.toList.map (·.key) = l.map (fun p => ek p.1) ∧ es.toList.map (·.val) = l.map (fun p => ev p.2) ∧
    (es.toList.map (·.born)).Pairwise (· < ·) ∧ (∀ e ∈ es.toList, e.born < clock) ∧
    w.heap[it]? = some (.mapIter (some r) since seen c0) ∧ (∀ e ∈ es.toList, e.born < since) ∧ since ≤ c0 ∧ since ≤ clock ∧
    (es.toList.filter (fun e => !seen.contains e.born)).map (fun e => (e.key, e.val)) = rem.map (fun p => (ek p.1, ev p.2))

theorem IterAt.map {it : Nat} (h : IterAt w it r ek ev l rem) : MapAt w r ek ev l := by
  obtain ⟨es, clock, since, seen, c0, h1, h2, h3, h4, h5, _⟩ := h; exact ⟨es, clock, h1, h2, h3, h4, h5⟩
theorem IterAt.lt {it : Nat} (h : IterAt w it r ek ev l rem) : it < w.heap.size := by
  obtain ⟨es, clock, since, seen, c0, h1, h2, h3, h4, h5, h6, _⟩ := h; exact lt_of_heap h6
theorem IterAt.of_block {it : Nat} {w' : World} (h : IterAt w it r ek ev l rem) (hb : w'.heap[r]? = w.heap[r]?) (hi : w'.heap[it]? = w.heap[it]?) : IterAt w' it r ek ev l rem := by
  obtain ⟨es, clock, since, seen, c0, h1, h2, h3, h4, h5, h6, h7⟩ := h
  exact ⟨es, clock, since, seen, c0, hb.trans h1, h2, h3, h4, h5, hi.trans h6, h7⟩
theorem IterAt.keep {it : Nat} {S : Nat → Prop} {w' : World} (h : IterAt w it r ek ev l rem) (hk : Keep S w w') (hr : ¬ S r) (hi : ¬ S it) : IterAt w' it r ek ev l rem :=
  h.of_block (hk.block r h.map.lt hr) (hk.block it h.lt hi)

theorem run_range_at {T et : TypeId} (hT : P.underlying T = some (.map kt et)) (h : MapAt w r ek ev l) :
    ∃ o, (Instr.range T (.map (some r))).run P w = .ok (.pointer (some ⟨w.heap.size, 0, none⟩)) (w.alloc o) ∧ IterAt (w.alloc o) w.heap.size r ek ev l l := by
  have hr := h.lt
  obtain ⟨es, clock, h1, h2, h3, h4, h5⟩ := h
  refine ⟨.mapIter (some r) clock #[] clock, ?_, es, clock, clock, #[], clock, (Below.heap_alloc _ _ _ hr).trans h1, h2, h3, h4, h5, World.alloc_heap_new _ _, h5, Nat.le_refl _, Nat.le_refl _, ?_⟩
  · simp [Instr.range, run_underlying hT, MapKept.run_getObj_map h1]
  · have : es.toList.map (fun e => (e.key, e.val)) = l.map (fun p => (ek p.1, ev p.2)) := by
      have e1 : es.toList.map (fun e => (e.key, e.val)) = (es.toList.map (·.key)).zip (es.toList.map (·.val)) := by
        rw [List.zip_map']
      have e2 : l.map (fun p => (ek p.1, ev p.2)) = (l.map (fun p => ek p.1)).zip (l.map (fun p => ev p.2)) := by
        rw [List.zip_map']
      rw [e1, e2, h2, h3]
    rw [List.filter_eq_self.2 (fun _ _ => by simp)]; exact this

theorem filter_push (es : List MapEntry) (seen : Array Nat) (hb : (es.map (·.born)).Pairwise (· < ·)) (i : Nat) (e : MapEntry)
    (h : (es.filter (fun e => !seen.contains e.born))[i]? = some e) :
    es.filter (fun x => !(seen.push e.born).contains x.born) = (es.filter (fun e => !seen.contains e.born)).eraseIdx i := by
  have hf : es.filter (fun x => !(seen.push e.born).contains x.born) = (es.filter (fun e => !seen.contains e.born)).filter (fun x => x.born != e.born) := by
    rw [List.filter_filter]; apply List.filter_congr; intro x _
    simp only [Array.contains_push]
    cases h1 : seen.contains x.born <;> cases h2 : (x.born == e.born) <;> simp_all
  rw [hf]; clear hf
  have hb2 : ((es.filter (fun e => !seen.contains e.born)).map (·.born)).Pairwise (· < ·) := hb.sublist (List.filter_sublist.map _)
  generalize es.filter (fun e => !seen.contains e.born) = F at *
  induction F generalizing i with
  | nil => simp at h
  | cons a F ih =>
    rw [List.map_cons, List.pairwise_cons] at hb2
    cases i with
    | zero =>
      simp at h; subst h
      rw [List.eraseIdx_cons_zero, List.filter_cons]
      simp only [bne_self_eq_false, Bool.false_eq_true, if_false]
      rw [List.filter_eq_self]; intro x hx
      have := hb2.1 x.born (List.mem_map_of_mem hx)
      simp; omega
    | succ i =>
      rw [List.getElem?_cons_succ] at h
      have hlt := hb2.1 e.born (List.mem_map_of_mem (List.mem_of_getElem? h))
      rw [List.eraseIdx_cons_succ, List.filter_cons, if_pos (by simp; omega), ih i h hb2.2]
theorem run_next_iter {it : Nat} (h : IterAt w it r ek ev l rem) (ty : TypeId) :
    (rem = [] ∧ (Instr.next (.pointer (some ⟨it, 0, none⟩)) false ty).run P w = .ok (.tuple #[.bool false]) w) ∨
    ∃ r1 p r2 w', rem = r1 ++ p :: r2 ∧ (Instr.next (.pointer (some ⟨it, 0, none⟩)) false ty).run P w = .ok (.tuple #[.bool true, ek p.1, ev p.2]) w' ∧ Keep (fun i => i = it) w w' ∧ w'.heap.size = w.heap.size ∧
      IterAt w' it r ek ev l (r1 ++ r2) ∧ (Instr.entry (.pointer (some ⟨it, 0, none⟩))).run P w' = .ok (.tuple #[ek p.1, ev p.2]) w' := by
  have hit := h.lt
  obtain ⟨es, clock, since, seen, c0, h1, h2, h3, h4, h5, h6, h7, h8, h8', h9⟩ := h
  have hne : r ≠ it := fun e => by rw [e, h6] at h1; cases h1
  have hleft : (leftOf es seen).toList = es.toList.filter (fun e => !seen.contains e.born) := by simp [leftOf]
  rcases run_next_at (P := P) w ty it r since c0 seen es clock h6 h1 h7 h8 with ⟨h0, hr⟩ | ⟨e, he, w1, hw1, hr⟩
  · left
    refine ⟨?_, hr⟩
    have : (leftOf es seen).toList = [] := by rw [← List.length_eq_zero_iff]; simpa using h0
    rw [hleft] at this; rw [this] at h9
    simpa using h9.symm
  · right
    rw [hleft] at he
    obtain ⟨i, hi⟩ := List.getElem?_of_mem he
    have hp : (rem.map (fun p => (ek p.1, ev p.2)))[i]? = some (e.key, e.val) := by rw [← h9, List.getElem?_map, hi]; rfl
    rw [List.getElem?_map] at hp
    cases hx : rem[i]? with
    | none => rw [hx] at hp; cases hp
    | some p =>
      rw [hx] at hp; simp at hp
      obtain ⟨hk, hv⟩ := hp
      have hlt := (List.getElem?_eq_some_iff.1 hx).1
      have hsplit : rem = rem.take i ++ p :: rem.drop (i + 1) := by
        have := (List.getElem?_eq_some_iff.1 hx).2
        rw [← this, List.getElem_cons_drop, List.take_append_drop]
      have hs1 : w1.heap = w.heap := by rcases hw1 with rfl | rfl <;> rfl
      have hkeep : Keep (fun i => i = it) w (setBlock w1 it (.mapIter (some r) since (seen.push e.born) clock)) := by
        rcases hw1 with rfl | rfl
        · exact (Keep.refl (fun i => i = it) w1).putObj (r := it) (fun _ => rfl) _
        · exact (Keep.refl (fun i => i = it) w).drew.putObj (r := it) (fun _ => rfl) _
      have hI : (setBlock w1 it (.mapIter (some r) since (seen.push e.born) clock)).heap[it]? = some (.mapIter (some r) since (seen.push e.born) clock) := by
        simp [setBlock, hs1, hit]
      have hR : (setBlock w1 it (.mapIter (some r) since (seen.push e.born) clock)).heap[r]? = some (.map es clock) := (hkeep.block r (lt_of_heap h1) hne).trans h1
      have hmem : e ∈ es.toList := (List.mem_filter.1 he).1
      refine ⟨rem.take i, p, rem.drop (i + 1), _, hsplit, by rw [hr, hk, hv], hkeep, by simp [setBlock, hs1], ⟨es, clock, since, seen.push e.born, clock, hR, h2, h3, h4, h5, hI, h7, h8', h8', ?_⟩, ?_⟩
      · rw [filter_push es.toList seen h4 i e hi, map_eraseIdx, h9]
        conv => lhs; rw [hsplit]
        rw [← map_eraseIdx, List.eraseIdx_append_of_length_le (by simp; omega)]
        have : i - (rem.take i).length = 0 := by simp; omega
        rw [this]; simp
      · rw [hk, hv]
        exact run_entry_at _ it r since seen es clock e hI hR hmem (h4.imp (fun h => Nat.ne_of_lt h))
end Vz

namespace Vz
open Go Go.RowKit Go.WideShapes Go.ChangeMaps
set_option linter.unusedSectionVars false
variable {κ ν : Type} [DecidableEq κ] {P : Program} {kt et : TypeId} {ek : κ → Value} {ev : ν → Value} {w : World} {r : Nat} {l rem : List (κ × ν)}
variable {ops : Array Oper} {rest : List Oper} {o : Oper} {a : Act} {Q : Exit → Act → World → Prop}

theorem wpList_lookup_at (hg : o.guard = none) (m x : Operand) (t : TypeId) (hop : o.op = Op.lookup t m x false)
    (K : KeyEnc P kt ek) (hT : P.underlying t = some (.map kt et)) {z : Value} (hz : (zeroValue et).run P w = .ok z w) (hm : a.eval m = .map (some r)) (h : MapAt w r ek ev l) (k : κ) (hx : a.eval x = ek k)
    (hK : wpList P ops Q rest (a.put o.dst (((lk l k).map ev).getD z)) w) : wpList P ops Q (o :: rest) a w := by
  refine wpList_plain hg fun K' hK' => ?_
  have hrun := run_lookup_at K hT hz h k false
  unfold Oper.wp
  simp [execOp, hop, hm, hx, hrun, Result.andThen]
  exact hK' _ _ hK

theorem wpList_lookup_ok_at (hg : o.guard = none) (m x : Operand) (t : TypeId) (hop : o.op = Op.lookup t m x true)
    (K : KeyEnc P kt ek) (hT : P.underlying t = some (.map kt et)) {z : Value} (hz : (zeroValue et).run P w = .ok z w) (hm : a.eval m = .map (some r)) (h : MapAt w r ek ev l) (k : κ) (hx : a.eval x = ek k)
    (hK : wpList P ops Q rest (a.put o.dst (.tuple #[((lk l k).map ev).getD z, .bool (lk l k).isSome])) w) : wpList P ops Q (o :: rest) a w := by
  refine wpList_plain hg fun K' hK' => ?_
  have hrun := run_lookup_at K hT hz h k true
  unfold Oper.wp
  simp [execOp, hop, hm, hx, hrun, Result.andThen]
  exact hK' _ _ hK

theorem wpList_update_at (hg : o.guard = none) (m x v : Operand) (t : TypeId) (hop : o.op = Op.mapUpdate t m x v)
    (K : KeyEnc P kt ek) (hT : P.underlying t = some (.map kt et)) (hm : a.eval m = .map (some r)) (h : MapAt w r ek ev l) (k : κ) (hx : a.eval x = ek k) (y : ν) (hv : a.eval v = ev y)
    (hK : ∀ w', MapAt w' r ek ev (put l k y) → Keep (fun i => i = r) w w' → w'.heap.size = w.heap.size → wpList P ops Q rest (a.put o.dst undef) w') : wpList P ops Q (o :: rest) a w := by
  refine wpList_plain hg fun K' hK' => ?_
  obtain ⟨ob, hrun, hat⟩ := run_update_at K hT h k y
  unfold Oper.wp
  simp [execOp, hop, hm, hx, hv, hrun, Result.andThen]
  exact hK' _ _ (hK _ hat ((Keep.refl (fun i => i = r) w).putObj (r := r) (fun _ => rfl) _) (by simp [World.putObj]))

theorem wpList_delete_at (hg : o.guard = none) (m x : Operand) (t ks : TypeId) (hop : o.op = Op.call { callee := Callee.builtin Builtin.delete, args := #[m, x], argTypes := #[t, ks] })
    (K : KeyEnc P kt ek) (hT : P.underlying t = some (.map kt et)) (hm : a.eval m = .map (some r)) (h : MapAt w r ek ev l) (k : κ) (hx : a.eval x = ek k)
    (hK : ∀ w', MapAt w' r ek ev (del l k) → Keep (fun i => i = r) w w' → w'.heap.size = w.heap.size → wpList P ops Q rest (a.put o.dst (.tuple #[])) w') : wpList P ops Q (o :: rest) a w := by
  refine wpList_plain hg fun K' hK' => ?_
  obtain ⟨ob, hrun, hat⟩ := run_delete_at (ks := ks) K hT h k o.type
  unfold Oper.wp
  simp [execOp, hop, resolve, invoke, builtin, hm, hx, hrun, Result.andThen]
  exact hK' _ _ (hK _ hat ((Keep.refl (fun i => i = r) w).putObj (r := r) (fun _ => rfl) _) (by simp [World.putObj]))

theorem wpList_maplen_at (hg : o.guard = none) (m : Operand) (t : TypeId) (hop : o.op = Op.call { callee := Callee.builtin Builtin.len, args := #[m], argTypes := #[t] })
    (hT : P.underlying t = some (.map kt et)) (hm : a.eval m = .map (some r)) (h : MapAt w r ek ev l)
    (hK : wpList P ops Q rest (a.put o.dst (.int .i64 l.length)) w) : wpList P ops Q (o :: rest) a w := by
  refine wpList_plain hg fun K' hK' => ?_
  have hrun := run_len_at hT h o.type
  unfold Oper.wp
  simp [execOp, hop, resolve, invoke, builtin, hm, hrun, Result.andThen]
  exact hK' _ _ hK

theorem wpList_range_at (hg : o.guard = none) (m : Operand) (t : TypeId) (hop : o.op = Op.range t m)
    (hT : P.underlying t = some (.map kt et)) (hm : a.eval m = .map (some r)) (h : MapAt w r ek ev l)
    (hK : ∀ ob, IterAt (w.alloc ob) w.heap.size r ek ev l l → wpList P ops Q rest (a.put o.dst (.pointer (some ⟨w.heap.size, 0, none⟩))) (w.alloc ob)) : wpList P ops Q (o :: rest) a w := by
  refine wpList_plain hg fun K' hK' => ?_
  obtain ⟨ob, hrun, hat⟩ := run_range_at hT h
  unfold Oper.wp
  simp [execOp, hop, hm, hrun, Result.andThen]
  exact hK' _ _ (hK ob hat)

theorem wpList_next_iter (hg : o.guard = none) (i : Operand) (hop : o.op = Op.next i false) {it : Nat} (hit : a.eval i = .pointer (some ⟨it, 0, none⟩)) (h : IterAt w it r ek ev l rem)
    (hDone : rem = [] → wpList P ops Q rest (a.put o.dst (.tuple #[.bool false])) w)
    (hMore : ∀ r1 p r2 w', rem = r1 ++ p :: r2 → Keep (fun i => i = it) w w' → w'.heap.size = w.heap.size → IterAt w' it r ek ev l (r1 ++ r2) →
      (Instr.entry (.pointer (some ⟨it, 0, none⟩))).run P w' = .ok (.tuple #[ek p.1, ev p.2]) w' → wpList P ops Q rest (a.put o.dst (.tuple #[.bool true, ek p.1, ev p.2])) w') :
    wpList P ops Q (o :: rest) a w := by
  refine wpList_plain hg fun K' hK' => ?_
  unfold Oper.wp
  rcases run_next_iter (P := P) h o.type with ⟨h0, hrun⟩ | ⟨r1, p, r2, w', h1, hrun, h2, h3, h4, h5⟩
  · simp [execOp, hop, hit, hrun, Result.andThen]
    exact hK' _ _ (hDone h0)
  · simp [execOp, hop, hit, hrun, Result.andThen]
    exact hK' _ _ (hMore r1 p r2 w' h1 h2 h3 h4 h5)

/-- keys of an integer kind -/
theorem findNow_int (q : IntKind) (k : Int) : ∀ (es : List MapEntry) (ks : List Int) (i : Nat), es.map (·.key) = ks.map (fun n => Value.int q n) →
    Instr.findNow (.int q) (.int q k) es i = some ((fi ks k).bind fun j => (es[j]?).map fun e => (i + j, e.val))
  | [], [], i, _ => rfl
  | [], _ :: _, _, h => by simp at h
  | _ :: _, [], _, h => by simp at h
  | e :: es, n :: ks, i, h => by
    simp only [List.map_cons, List.cons.injEq] at h
    obtain ⟨h1, h2⟩ := h
    unfold Instr.findNow fi
    simp only [h1, Instr.sameNow, if_true]
    by_cases hn : n = k
    · have : (k == n) = true := by simp [hn]
      rw [this]; simp [hn]
    · have : (k == n) = false := by simp; exact fun e => hn e.symm
      rw [this, if_neg hn]
      simp only [findNow_int q k es ks (i + 1) h2]
      cases fi ks k with
      | none => rfl
      | some j => simp [Nat.add_assoc, Nat.add_comm 1 j]
theorem keyEnc_int {kt : TypeId} {q : IntKind} (hk : P.underlying kt = some (.int q)) : KeyEnc P kt (fun n : Int => Value.int q n) where
  find := fun k es ks w h => by
    simp [Instr.findKey, run_underlying hk, findNow_int q k es ks 0 h]
  check := fun k em w => by
    have h : ∀ n, (Instr.checkKey em (n + 1) kt (.int q k)).run P w = .ok () w := fun n => by simp [Instr.checkKey, run_underlying hk]
    exact h 9999
  bits := fun k => by simp [Instr.sameBits]
end Vz

namespace Vz
open Go Go.RowKit Go.WideShapes Go.ChangeMaps
set_option linter.unusedSectionVars false
variable {κ ν : Type} [DecidableEq κ] {P : Program} {ek : κ → Value} {ev : ν → Value} {w : World} {r : Nat} {l rem : List (κ × ν)}
variable {ops : Array Oper} {rest : List Oper} {o : Oper} {a : Act} {Q : Exit → Act → World → Prop}

theorem wpList_next_done (hg : o.guard = none) (i : Operand) (hop : o.op = Op.next i false) {it : Nat} (hit : a.eval i = .pointer (some ⟨it, 0, none⟩)) (h : IterAt w it r ek ev l [])
    (hK : wpList P ops Q rest (a.put o.dst (.tuple #[.bool false])) w) : wpList P ops Q (o :: rest) a w :=
  wpList_next_iter hg i hop hit h (fun _ => hK) (fun r1 p r2 w' h1 => by cases r1 <;> cases h1)
theorem wpList_next_more (hg : o.guard = none) (i : Operand) (hop : o.op = Op.next i false) {it : Nat} (hit : a.eval i = .pointer (some ⟨it, 0, none⟩)) (h : IterAt w it r ek ev l rem) (hne : rem ≠ [])
    (hMore : ∀ r1 k v r2 w', rem = r1 ++ (k, v) :: r2 → Keep (fun i => i = it) w w' → w'.heap.size = w.heap.size → IterAt w' it r ek ev l (r1 ++ r2) →
      (Instr.entry (.pointer (some ⟨it, 0, none⟩))).run P w' = .ok (.tuple #[ek k, ev v]) w' → wpList P ops Q rest (a.put o.dst (.tuple #[.bool true, ek k, ev v])) w') :
    wpList P ops Q (o :: rest) a w :=
  wpList_next_iter hg i hop hit h (fun e => absurd e hne) (fun r1 p r2 w' h1 h2 h3 h4 h5 => hMore r1 p.1 p.2 r2 w' h1 h2 h3 h4 h5)
end Vz

namespace Go.Proofs.YtdacbgdinmaemaaGreatDoor
open Go Go.RowKit Vz

def cmpI (x y : Int) : Int := if x < y then -1 else if y < x then 1 else 0

set_option maxHeartbeats 400000 in
theorem compareInt (x y : Int) (w : World) : Calls Tryz.prog 61 #[.int .i64 x, .int .i64 y] w fun e w' => e = .returned (.int .i64 (cmpI x y)) ∧ w' = w := by
  unfold cmpI
  by_cases h1 : x < y
  · rw [if_pos h1]
    go_enter Tryz.func61, Tryz.ntmps61
    go_wp2
    go_ret
    exact ⟨rfl, rfl⟩
  · by_cases h2 : y < x
    · rw [if_neg h1, if_pos h2]
      go_enter Tryz.func61, Tryz.ntmps61
      go_wp2
      go_ret
      exact ⟨rfl, rfl⟩
    · rw [if_neg h1, if_neg h2]
      go_enter Tryz.func61, Tryz.ntmps61
      go_wp2
      go_ret
      exact ⟨rfl, rfl⟩

set_option maxHeartbeats 400000 in
theorem compareU64 (x y : Int) (w : World) : Calls Tryz.prog 177 #[.int .u64 x, .int .u64 y] w fun e w' => e = .returned (.int .i64 (cmpI x y)) ∧ w' = w := by
  unfold cmpI
  by_cases h1 : x < y
  · rw [if_pos h1]
    go_enter Tryz.func177, Tryz.ntmps177
    go_wp2
    go_ret
    exact ⟨rfl, rfl⟩
  · by_cases h2 : y < x
    · rw [if_neg h1, if_pos h2]
      go_enter Tryz.func177, Tryz.ntmps177
      go_wp2
      go_ret
      exact ⟨rfl, rfl⟩
    · rw [if_neg h1, if_neg h2]
      go_enter Tryz.func177, Tryz.ntmps177
      go_wp2
      go_ret
      exact ⟨rfl, rfl⟩

set_option maxRecDepth 100000 in
set_option maxHeartbeats 400000 in
theorem or_two (s : Nat) (x y : Int) (w : World) (h0 : w.cell? ⟨s, 0, none⟩ = some (.int .i64 x)) (h1 : w.cell? ⟨s, 1, none⟩ = some (.int .i64 y)) :
    Calls Tryz.prog 176 #[.slice (some ⟨s, 0, none⟩) 2 2] w fun e w' => e = .returned (.int .i64 (if x = 0 then y else x)) ∧ w' = w := by
  by_cases hx : x = 0
  · subst hx
    have hxb : ((0 : Int) != 0) = false := rfl
    by_cases hy : y = 0
    · subst hy
      go_enter Tryz.func176, Tryz.ntmps176
      go_wp2
      refine wp_loop_rounds 3 ?_
      rw [rounds_succ]
      go_wp2
      rw [rounds_succ]
      go_wp2
      rw [rounds_succ]
      go_wp2
      go_ret
      exact ⟨rfl, rfl⟩
    · have hyb : (y != 0) = true := by simp [hy]
      rw [if_pos rfl]
      have Hy := Lib.hid hy
      clear hy
      go_enter Tryz.func176, Tryz.ntmps176
      go_wp2
      refine wp_loop_rounds 2 ?_
      rw [rounds_succ]
      go_wp2
      rw [rounds_succ]
      go_wp2
      go_ret
      exact ⟨rfl, rfl⟩
  · have hxb : (x != 0) = true := by simp [hx]
    rw [if_neg hx]
    have Hx := Lib.hid hx
    clear hx
    go_enter Tryz.func176, Tryz.ntmps176
    go_wp2
    refine wp_loop_rounds 1 ?_
    rw [rounds_succ]
    go_wp2
    go_ret
    exact ⟨rfl, rfl⟩
end Go.Proofs.YtdacbgdinmaemaaGreatDoor
