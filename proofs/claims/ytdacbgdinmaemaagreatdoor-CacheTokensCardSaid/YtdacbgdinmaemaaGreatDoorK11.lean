/- Contracts and plain laws of this claim, part K11. -/
import Derived.Shelf.SlSortCmp.NoneTotal
import Derived.Shelf.SlMaps.Clone
import Derived.Ground.SlsfProg
import Derived.Deep.RegionHeld3
import Derived.Test.YtdacbgdinmaemaaGreatDoorProg
import Derived.Test.YtdacbgdinmaemaaGreatDoorK10
import Derived.Test.YtdacbgdinmaemaaGreatDoorK5
set_option linter.all false

namespace Go.Proofs
open Go.Shelf
def Tryz.laysRowSort_ren : Go.Shelf.Ren := ⟨fun | 6 => 124 | 15 => 180 | 14 => 179 | 28 => 217 | 29 => 203 | 20 => 209 | 21 => 210 | 22 => 211 | 23 => 212 | 24 => 213 | 25 => 214 | 26 => 215 | 27 => 216 | 46 => 241 | 47 => 242 | 48 => 243 | 49 => 244 | 50 => 245 | 57 => 257 | n => n, fun | 22 => 136 | 24 => 132 | 25 => 142 | 3 => 3 | 39 => 273 | 0 => 0 | 53 => 30 | 55 => 22 | 4 => 4 | 46 => 358 | 45 => 357 | 50 => 216 | 5 => 5 | 9 => 9 | 66 => 392 | 70 => 395 | 76 => 404 | 77 => 405 | n => n, fun | n => n⟩
theorem Tryz.laysRowSort : Go.Proofs.SlLaysF0.n6 Tryz.prog Tryz.laysRowSort_ren := {
  mixed := by kernel_rfl
  f6 := ⟨Tryz.f124.name, by decide, Tryz.func124.trans (congrArg some (by kernel_rfl))⟩
  f14 := ⟨Tryz.f179.name, by decide, Tryz.func179.trans (congrArg some (by kernel_rfl))⟩
  f15 := Tryz.func180.trans (congrArg some (by kernel_rfl))
  f20 := ⟨Tryz.f209.name, by decide, Tryz.func209.trans (congrArg some (by kernel_rfl))⟩
  f21 := ⟨Tryz.f210.name, by decide, Tryz.func210.trans (congrArg some (by kernel_rfl))⟩
  f22 := ⟨Tryz.f211.name, by decide, Tryz.func211.trans (congrArg some (by kernel_rfl))⟩
  f23 := ⟨Tryz.f212.name, by decide, Tryz.func212.trans (congrArg some (by kernel_rfl))⟩
  f24 := ⟨Tryz.f213.name, by decide, Tryz.func213.trans (congrArg some (by kernel_rfl))⟩
  f25 := ⟨Tryz.f214.name, by decide, Tryz.func214.trans (congrArg some (by kernel_rfl))⟩
  f26 := ⟨Tryz.f215.name, by decide, Tryz.func215.trans (congrArg some (by kernel_rfl))⟩
  f27 := ⟨Tryz.f216.name, by decide, Tryz.func216.trans (congrArg some (by kernel_rfl))⟩
  f28 := Tryz.func217.trans (congrArg some (by kernel_rfl))
  f29 := Tryz.func203.trans (congrArg some (by kernel_rfl))
  f46 := ⟨Tryz.f241.name, by decide, Tryz.func241.trans (congrArg some (by kernel_rfl))⟩
  f47 := Tryz.func242.trans (congrArg some (by kernel_rfl))
  f48 := Tryz.func243.trans (congrArg some (by kernel_rfl))
  f49 := ⟨Tryz.f244.name, by decide, Tryz.func244.trans (congrArg some (by kernel_rfl))⟩
  f50 := ⟨Tryz.f245.name, by decide, Tryz.func245.trans (congrArg some (by kernel_rfl))⟩
  f57 := ⟨Tryz.f257.name, by decide, Tryz.func257.trans (congrArg some (by kernel_rfl))⟩
  t0 := Tryz.underlying0
  a0 := Tryz.isAgg0
  z0 := Tryz.sizeOf0
  v0 := Tryz.zeroValue0
  t3 := Tryz.underlying3
  a3 := Tryz.isAgg3
  z3 := Tryz.sizeOf3
  v3 := Tryz.zeroValue3
  t4 := Tryz.underlying4
  a4 := Tryz.isAgg4
  z4 := Tryz.sizeOf4
  v4 := Tryz.zeroValue4
  t5 := Tryz.underlying5
  a5 := Tryz.isAgg5
  z5 := Tryz.sizeOf5
  v5 := Tryz.zeroValue5
  t9 := Tryz.underlying9
  a9 := Tryz.isAgg9
  z9 := Tryz.sizeOf9
  v9 := Tryz.zeroValue9
  t22 := Tryz.underlying136
  a22 := Tryz.isAgg136
  z22 := Tryz.sizeOf136
  v22 := Tryz.zeroValue136
  t25 := Tryz.underlying142
  a25 := Tryz.isAgg142
  z25 := Tryz.sizeOf142
  v25 := Tryz.zeroValue142
  t39 := Tryz.underlying273
  a39 := Tryz.isAgg273
  z39 := Tryz.sizeOf273
  v39 := Tryz.zeroValue273
  t45 := Tryz.underlying357
  a45 := Tryz.isAgg357
  z45 := Tryz.sizeOf357
  v45 := Tryz.zeroValue357
  t46 := Tryz.underlying358
  a46 := Tryz.isAgg358
  z46 := Tryz.sizeOf358
  v46 := Tryz.zeroValue358
  t50 := Tryz.underlying216
  a50 := Tryz.isAgg216
  z50 := Tryz.sizeOf216
  v50 := Tryz.zeroValue216
  t53 := Tryz.underlying30
  a53 := Tryz.isAgg30
  z53 := Tryz.sizeOf30
  v53 := Tryz.zeroValue30
  t55 := Tryz.underlying22
  a55 := Tryz.isAgg22
  z55 := Tryz.sizeOf22
  v55 := Tryz.zeroValue22
  t66 := Tryz.underlying392
  a66 := Tryz.isAgg392
  z66 := Tryz.sizeOf392
  v66 := Tryz.zeroValue392
  t70 := Tryz.underlying395
  a70 := Tryz.isAgg395
  z70 := Tryz.sizeOf395
  v70 := Tryz.zeroValue395
  t76 := Tryz.underlying404
  a76 := Tryz.isAgg404
  z76 := Tryz.sizeOf404
  v76 := Tryz.zeroValue404
  t77 := Tryz.underlying405
  a77 := Tryz.isAgg405
  z77 := Tryz.sizeOf405
  v77 := Tryz.zeroValue405 }
def Tryz.laysCloneEnt_ren : Go.Shelf.Ren := ⟨fun | 5 => 67 | 7 => 131 | n => n, fun | 23 => 120 | 25 => 30 | 3 => 125 | 4 => 4 | 20 => 20 | n => n, fun | n => n⟩
theorem Tryz.laysCloneEnt : Go.Proofs.SlLaysW.n5 Tryz.prog Tryz.laysCloneEnt_ren := {
  mixed := by kernel_rfl
  f5 := ⟨Tryz.f67.name, by decide, Tryz.func67.trans (congrArg some (by kernel_rfl))⟩
  f7 := Tryz.func131.trans (congrArg some (by kernel_rfl))
  t4 := Tryz.underlying4
  a4 := Tryz.isAgg4
  z4 := Tryz.sizeOf4
  v4 := Tryz.zeroValue4
  t20 := Tryz.underlying20
  a20 := Tryz.isAgg20
  z20 := Tryz.sizeOf20
  v20 := Tryz.zeroValue20
  t23 := Tryz.underlying120
  a23 := Tryz.isAgg120
  z23 := Tryz.sizeOf120
  v23 := Tryz.zeroValue120 }
def Tryz.laysCloneRow_ren : Go.Shelf.Ren := ⟨fun | 5 => 68 | 7 => 131 | n => n, fun | 23 => 121 | 25 => 30 | 3 => 132 | 4 => 4 | 20 => 20 | n => n, fun | n => n⟩
theorem Tryz.laysCloneRow : Go.Proofs.SlLaysW.n5 Tryz.prog Tryz.laysCloneRow_ren := {
  mixed := by kernel_rfl
  f5 := ⟨Tryz.f68.name, by decide, Tryz.func68.trans (congrArg some (by kernel_rfl))⟩
  f7 := Tryz.func131.trans (congrArg some (by kernel_rfl))
  t4 := Tryz.underlying4
  a4 := Tryz.isAgg4
  z4 := Tryz.sizeOf4
  v4 := Tryz.zeroValue4
  t20 := Tryz.underlying20
  a20 := Tryz.isAgg20
  z20 := Tryz.sizeOf20
  v20 := Tryz.zeroValue20
  t23 := Tryz.underlying121
  a23 := Tryz.isAgg121
  z23 := Tryz.sizeOf121
  v23 := Tryz.zeroValue121 }
end Go.Proofs

namespace Go.Proofs.YtdacbgdinmaemaaGreatDoor
open Go Go.RowKit Vz Go.Shelf Go.Sort

theorem isAgg_row (w : World) : (isAgg 132).run Tryz.prog w = .ok true w := by kernel_rfl
theorem size_row (w : World) : (Go.sizeOf 132).run Tryz.prog w = .ok 2 w := by kernel_rfl
theorem srC_len (x : RowS) : (srC x).length = 2 := rfl
theorem srC_one (x : RowS) : ∀ v ∈ srC x, v.oneCell' = true := by intro v hv; simp [srC] at hv; rcases hv with rfl | rfl <;> rfl

theorem ltRow (x y : RowS) : ltOf (fun x y : RowS => cmpI x.o y.o) x y = decide (x.o < y.o) := by
  unfold ltOf
  have := @cmpI_lt (x.o : Int) (y.o : Int)
  by_cases h : x.o < y.o
  · simp [h]; omega
  · simp [h]; omega
theorem swoRow : SWO (ltOf fun x y : RowS => cmpI x.o y.o) where
  irrefl x := by rw [ltRow]; simp
  trans x y z h1 h2 := by rw [ltRow] at *; simp at *; omega
  ntrans x y z h1 h2 := by rw [ltRow] at *; simp at *; omega

set_option maxHeartbeats 1000000 in
/-- slices.SortedFunc over rows, by their order -/
theorem rows_sorted (g0 : Nat) (lb0 : Array Value) (eg0 : ∀ args w, (callFunc g0 args).run Tryz.prog w = .ok (.enter g0 args) w) (S Sp : List RowS → Prop) (N : Nat) (hN : N ≤ 281474976710656) (hNb : N * 32 ≤ 140737488355328) (hSN : ∀ xs, S xs → xs.length ≤ N) (w : World)
    (hseq : SeqStopsK Fence.wide 2 Tryz.prog g0 lb0 (fun x => #[srV x]) KeepsWalks S Sp N w) :
    Calls Tryz.prog 58 #[.func (.func g0) #[] lb0, .func (.func 60) #[] #[]] w fun e w' => ∃ (v : Value) (ss ts : List RowS), e = .returned v ∧ S ss ∧ ts.Perm ss ∧ ts.Pairwise (fun x y => x.o ≤ y.o) ∧
      w'.ownsRow w.heap.size 132 2 v ts.length (ts.flatMap srC) ∧ RowKit.Below w.heap.size w w' := by
  go_enter Tryz.func58, Tryz.ntmps58
  go_wp2_with fail
  refine (callsIn_wide.1 (ar_collect Fence.wide 4 trivial trivial rfl (Nat.le_refl _) g0 lb0 trivial eg0 S Sp N hN hNb hSN w hseq)).mono ?_
  rintro e w1 ⟨v, ss, rfl, hS, hrow, hnil, hb⟩
  by_cases hss : ss = []
  · subst hss
    obtain rfl := hnil.2 rfl
    go_wp2_with fail
    refine (AnyF.slices_SortFunc_none Tryz.laysRowSort none 0 _ w1).mono ?_
    rintro e w2 ⟨rfl, rfl⟩
    go_wp2_with fail
    go_ret
    exact ⟨_, [], [], rfl, hS, List.Perm.refl _, List.Pairwise.nil, by simpa using hrow, hb⟩
  · obtain ⟨hlen, h | ⟨g1, cap, cur, rfl, hg, hblk, hl, hc, hsz, htk⟩⟩ := hrow
    · exact absurd (hnil.1 h.1) hss
    have hH : HoldsK srC 2 w1 g1 0 ss.toArray := holdsK_of_block srC 2 srC_len hblk htk
    have hsort := AnyQ.slices_SortFunc Tryz.laysRowSort 2 isAgg_row size_row srC srC_len srC_one (fun x y : RowS => cmpI x.o y.o) swoRow 60 #[] g1 0 cap ss.toArray w1
      (enters_of Tryz.func60 (by kernel_rfl) rfl) (fun m os dk hs x y => tok_cmp x y _) hH (lt_of_heap hblk) (by have := hSN _ hS; simp; omega)
    simp only [List.size_toArray] at hsort
    go_wp2_with fail
    refine hsort.mono ?_
    rintro e w2 ⟨rfl, d', n, os, hP, hO, rfl⟩
    go_wp2_with fail
    go_ret
    obtain ⟨hP1, _, hP2⟩ := hP
    have hl2 : d'.toList.length = ss.length := by simpa using hP1
    have hd : d' = d'.toList.toArray := by simp
    refine ⟨_, ss, d'.toList, rfl, hS, ?_, ?_, ?_, sortedK_below srC 2 _ hb hg (Nat.le_refl _)⟩
    · have e1 : d'.extract 0 ss.length = d' := by rw [show ss.length = d'.size by simpa using hP1.symm]; simp
      have e2 : ss.toArray.extract 0 ss.length = ss.toArray := by simp
      rw [e1, e2] at hP2; simpa using hP2
    · rw [List.pairwise_iff_getElem]
      intro i j hi hj hij
      have h1 := hO i j (Nat.zero_le _) hij (by rw [hl2] at hj; exact hj)
      have hi' : i < d'.size := by simpa using hi
      have hj' : j < d'.size := by simpa using hj
      rw [ltRow, getElem!_pos d' i hi', getElem!_pos d' j hj'] at h1
      simp at h1 ⊢
      exact h1
    · have := ownsRow_sortedK (w := w1) (n := n) (os := os) (e := 132) srC 2 srC_len hl2 hg hblk hl hc hsz
      rw [hl2]; exact this
end Go.Proofs.YtdacbgdinmaemaaGreatDoor

namespace Go.Proofs.YtdacbgdinmaemaaGreatDoor
open Go Go.RowKit Vz Go.Shelf

theorem perm_map_inv {α β : Type} {f : α → β} {a b : List β} (h : a.Perm b) : ∀ l, b = l.map f → ∃ l' : List α, l'.Perm l ∧ a = l'.map f := by
  induction h with
  | nil =>
    intro l hl
    cases l with
    | nil => exact ⟨[], List.Perm.refl _, rfl⟩
    | cons _ _ => cases hl
  | cons x _ ih =>
    intro l hl
    cases l with
    | nil => cases hl
    | cons y l =>
      simp only [List.map_cons, List.cons.injEq] at hl
      obtain ⟨l', h1, h2⟩ := ih l hl.2
      exact ⟨y :: l', h1.cons y, by rw [h2, List.map_cons, hl.1]⟩
  | swap x y t =>
    intro l hl
    match l, hl with
    | p :: q :: l, hl =>
      simp only [List.map_cons, List.cons.injEq] at hl
      exact ⟨q :: p :: l, List.Perm.swap .., by rw [List.map_cons, List.map_cons, hl.1, hl.2.1, hl.2.2]⟩
  | trans _ _ ih1 ih2 =>
    intro l hl
    obtain ⟨l1, h1, h2⟩ := ih2 l hl
    obtain ⟨l2, h3, h4⟩ := ih1 l1 h2
    exact ⟨l2, h3.trans h1, h4⟩

def toS (r : RowM) : RowS := match r.v with | .slice p n cap => ⟨p, n, cap, r.order⟩ | _ => ⟨none, 0, 0, r.order⟩
theorem toS_eq {r : RowM} {p : Option Addr} {n cap : Nat} (h : r.v = .slice p n cap) : toS r = ⟨p, n, cap, r.order⟩ := by unfold toS; rw [h]
theorem rowV_toS {r : RowM} {p : Option Addr} {n cap : Nat} (h : r.v = .slice p n cap) : rowV r = srV (toS r) := by rw [toS_eq h]; unfold rowV srV; rw [h]
theorem toS_o (r : RowM) : (toS r).o = r.order := by unfold toS; split <;> rfl

/-- a row of pairs of cells -/
theorem owns_pair {w : World} {b : Nat} {e : TypeId} {v : Value} {ts : List RowS} (h : w.ownsRow b e 2 v ts.length (ts.flatMap srC)) : ∃ p cap, v = .slice p ts.length cap ∧
    ∀ i (hi : i < ts.length), ∃ g, p = some ⟨g, 0, none⟩ ∧ b ≤ g ∧ w.cell? ⟨g, i * 2, none⟩ = some (.slice ts[i].p ts[i].n ts[i].cap) ∧ w.cell? ⟨g, i * 2 + 1, none⟩ = some (.int .i64 ts[i].o) := by
  rcases h.2 with ⟨rfl, h0⟩ | ⟨g, cap, cur, rfl, hg, hb, _⟩
  · exact ⟨none, 0, by rw [h0], fun i hi => by omega⟩
  · refine ⟨some ⟨g, 0, none⟩, cap, rfl, fun i hi => ⟨g, rfl, hg, ?_, ?_⟩⟩
    · rw [h.cellAt (i * 2) (by omega), get_flat srC 2 srC_len ts (i * 2) (by omega)]
      rw [show i * 2 / 2 = i by omega, show i * 2 % 2 = 0 by omega, getElem!_pos ts i hi]; rfl
    · rw [h.cellAt (i * 2 + 1) (by omega), get_flat srC 2 srC_len ts (i * 2 + 1) (by omega)]
      rw [show (i * 2 + 1) / 2 = i by omega, show (i * 2 + 1) % 2 = 1 by omega, getElem!_pos ts i hi]; rfl

set_option maxRecDepth 100000 in
set_option maxHeartbeats 1000000 in
theorem tokens_any (c : Nat) (M : CM) (B : CB) (w : World) (room wait life pat n : Nat) (h : CacheAt w c M B) (hW : WF M room wait life pat n) (hr2 : room ≤ 256) (hw2 : wait ≤ 64) :
    Calls Tryz.prog 15 #[.pointer (some ⟨c, 0, none⟩)] w fun e w' => ∃ (v : Value) (rs : List (Int × RowM)), e = .returned v ∧ rs.Perm M.rows ∧ rs.Pairwise (fun p q => p.2.order < q.2.order) ∧ TokAt w' (B.fp c) v (rs.flatMap (fun p => p.2.toks)) ∧ Keep (fun _ => False) w w' := by
  obtain ⟨i0, hi, hz0, hz1, hz2⟩ := info_parts int_info
  have H := Lib.hid h
  have HW := Lib.hid hW
  have hrl := hW.rl
  clear hW
  obtain ⟨tl, tw, hr, hpl, hpw⟩ := h
  have hc5 : w.cell? ⟨c, 5, none⟩ = some (.map (some B.mr)) := hr.cells.cell (o := 5) (by omega)
  have hcl := hr.cells.lt
  have hform : ∀ p ∈ M.rows, ∃ q cap, p.2.v = .slice q p.2.toks.length cap := fun p hp => slice_form (hr.toks p hp).1
  have hM0 : MapAt w B.mr kuu srV (M.rows.map fun p => (p.1, toS p.2)) := MapAt.congrV (ek := kuu) (ev := rowV) (f := toS) hr.rows (fun p hp => by
    obtain ⟨q, cap, e⟩ := hform p hp; exact rowV_toS e)
  have Hform := Lib.hid hform
  clear hform hpl hpw
  go_enter Tryz.func15, Tryz.ntmps15
  go_wp2_with fail
  refine (callsIn_wide.1 (rv_vals Fence.wide 1 trivial rfl (some B.mr) _)).mono ?_
  rintro e w2 ⟨rfl, hw2'⟩
  have k2 : Keep (fun _ => False) w w2 := by rw [hw2']; exact (Keep.refl _ w).alloc _
  have hbm : w2.cell? ⟨w.heap.size, 0, none⟩ = some (.map (some B.mr)) := by
    rw [hw2']; exact cell_one_new w _ _ 0 _ rfl
  clear hw2'
  have hM2 := hM0.keep k2 (fun h => h)
  have hseq := rv_vals_stops Fence.wide 2 trivial rfl (by omega) w.heap.size B.mr _ w2 (World.block_lt_of_cell? _ _ hbm) hbm hM2
  have hsort := rows_sorted _ _ (enters_of Tryz.func125 (by kernel_rfl) rfl) _ _ _ (by simp; omega) (by simp; omega) (fun xs hx => by have := hx.length_eq; unfold vals at this; simp at this ⊢; omega) w2 hseq
  clear hseq hM2 hM0
  go_wp2_with fail
  refine hsort.mono ?_
  rintro e w3 ⟨v, ss, ts, rfl, hS, hp, hasc, hrow, hb⟩
  clear hsort
  have k3 : Keep (fun _ => False) w2 w3 := Below.keep0 hb
  have k03 : Keep (fun _ => False) w w3 := k2.trans k3 (fun _ h => h) (fun _ _ h => h)
  obtain ⟨rs, hrs, rfl⟩ := perm_map_inv (f := fun p : Int × RowM => toS p.2) (hp.trans hS) M.rows (by unfold vals; rw [List.map_map]; rfl)
  have hasc2 : rs.Pairwise (fun p q => p.2.order < q.2.order) := by
    have h1 : (rs.map fun p => p.2.order).Nodup := (hrs.map _).nodup_iff.2 HW.out.ro
    rw [List.pairwise_map] at hasc
    have h2 : rs.Pairwise (fun p q => p.2.order ≠ q.2.order) := List.pairwise_map.1 h1
    exact List.Pairwise.imp₂ (fun p q (h1 : (toS p.2).o ≤ (toS q.2).o) (h2 : p.2.order ≠ q.2.order) => by rw [toS_o, toS_o] at h1; omega) hasc h2
  obtain ⟨pv, cv, rfl, hcells⟩ := owns_pair hrow
  have hrl2 : rs.length ≤ 256 := by have := hrs.length_eq; omega
  have htoks : ∀ p ∈ rs, TokAt w (B.fp c) p.2.v p.2.toks := fun p hp => hr.toks p (hrs.subset hp)
  have hlen : ∀ p ∈ rs, 1 ≤ p.2.toks.length ∧ p.2.toks.length ≤ 64 := fun p hp => by
    have := HW.out.rt p (hrs.subset hp); omega
  have Hc := Lib.hid hcells
  have Htk := Lib.hid htoks
  have Hln := Lib.hid hlen
  have Has := Lib.hid hasc2
  have hz3 := k03.size
  clear hcells htoks hlen hasc2 hrow hasc hS hp hb hcl hc5 hbm
  rw [List.length_map]
  go_wp2_with fail
  go_loopw [4, 15] (fun vo vi wr => ∃ (i : Nat) (told : List Int), vi = .int .i64 i ∧ i ≤ rs.length ∧ told = (rs.take i).flatMap (fun p => p.2.toks) ∧ wr.ownsRow w3.heap.size 3 1 vo told.length (told.map ki) ∧ Keep (fun _ => False) w3 wr) (fun _ vi _ => rs.length - (intOf vi).toNat)
  case atStart => exact ⟨0, [], by go_num, by omega, by simp, by simpa using World.ownsRow_nil _ _ _ _, Keep.refl _ _⟩
  case round =>
    obtain ⟨i, told, rfl, hir, htold, hrowi, kr⟩ := hrel
    have Htold := Lib.hid htold
    have htl : told.length ≤ i * 64 := by
      rw [htold]
      have h1 : ∀ l : List (Int × RowM), (∀ p ∈ l, p.2.toks.length ≤ 64) → (l.flatMap (fun p => p.2.toks)).length ≤ l.length * 64 := fun l => by
        induction l with
        | nil => intro _; simp
        | cons p l ih =>
          intro h
          have h2 := h p (List.mem_cons_self ..)
          have h3 := ih (fun q hq => h q (List.mem_cons_of_mem _ hq))
          rw [List.flatMap_cons, List.length_append, List.length_cons]; omega
      have h2 := h1 (rs.take i) (fun p hp => (Hln.out p (List.mem_of_mem_take hp)).2)
      have h3 : (rs.take i).length ≤ i := List.length_take_le _ _
      omega
    clear htold
    by_cases hlt : i < rs.length
    · have hli : (i : Int) < rs.length := by omega
      obtain ⟨g, rfl, hg1, hca, hcb⟩ := Hc.out i (by simpa using hlt)
      have htk := Htk.out rs[i] (by simp)
      have hln := Hln.out rs[i] (by simp)
      obtain ⟨gr, cr, hrv⟩ : ∃ gr cr, rs[i].2.v = .slice (some ⟨gr, 0, none⟩) rs[i].2.toks.length cr := by
        rcases htk.1.2 with ⟨_, h0⟩ | ⟨g', cap', cur, h1, _⟩
        · omega
        · exact ⟨g', cap', h1⟩
      simp only [List.getElem_map, toS_eq hrv] at hca hcb
      rw [hrv] at htk
      have hrowr := ownsRow_keep2 htk.1 (k03.trans kr (fun _ h => h) (fun _ _ h => h)) (fun _ _ h => h)
      have hca2 := kr.cell hca (fun h => h)
      have hcb2 := kr.cell hcb (fun h => h)
      have hzr := kr.size
      have hln2 := hln.2
      obtain ⟨tk, htkk⟩ : ∃ tk, tk = rs[i].2.toks := ⟨_, rfl⟩
      obtain ⟨od, hod⟩ : ∃ od, od = rs[i].2.order := ⟨_, rfl⟩
      rw [← htkk] at hca2 hrowr hln2
      rw [← hod] at hcb2
      have Htkk := Lib.hid htkk
      clear hca hcb htk hrv hln htkk hod
      have hsm := hrowi.1
      go_wp2_with (at_builtin; refine wpList_append_own _ rfl _ _ 35 rfl w3.heap.size 3 i0 (ki 0) 1 8 Tryz.underlying35 hi hz0 hz1 hz2 rfl (by decide) _ _ _ rfl (hrowi.alloc _) ⟨gr, 0, none⟩ tk.length cr (tk.map ki) rfl (by simp) (owns_cells (hrowr.alloc _)) (by simp [Value.oneCell']) (by unfold maxLen; omega) (by omega) (by simp; omega) ?_; intro v5 w5 hown5 hgrow5 _; have hk5 := app_keep hrowi hgrow5; clear hgrow5)
      go_roundw
      case rel =>
        refine ⟨i + 1, told ++ tk, by go_num, by omega, ?_, by simpa using hown5, kr.trans hk5 (fun _ h => h) (fun j hj e => absurd hj (Nat.not_lt.2 e))⟩
        rw [List.take_succ_eq_append_getElem hlt, List.flatMap_append, ← Htold.out, List.flatMap_cons, List.flatMap_nil, Htkk.out]; simp
      case measure => simp [intOf]; omega
    · obtain rfl : i = rs.length := by omega
      go_wp2_with fail
      go_ret
      have htold := Htold.out
      rw [List.take_length] at htold
      subst htold
      have k0r := k03.trans kr (fun _ h => h) (fun _ _ h => h)
      exact ⟨_, rs, rfl, hrs, Has.out, ⟨ownsRow_mono0 hrowi, fun g hg hf => ownBlock_not_fp (H.out.keep k0r (fun _ _ h => h)) hrowi g hg hf⟩, k0r⟩
end Go.Proofs.YtdacbgdinmaemaaGreatDoor

namespace Go.Proofs.YtdacbgdinmaemaaGreatDoor
open Go Go.RowKit Vz Go.Shelf

theorem clone_map {κ ν : Type} [DecidableEq κ] {ek : κ → Value} {ev : ν → Value} {F : Nat} (L : ∀ (b : Nat) (es : Array MapEntry) (clock : Nat) (w : World), w.heap[b]? = some (.map es clock) → Calls Tryz.prog F #[.map (some b)] w fun e w' => e = .returned (.map (some w.heap.size)) ∧ w' = w.alloc (.map es clock))
    (r : Nat) (l : List (κ × ν)) (w : World) (h : MapAt w r ek ev l) :
    Calls Tryz.prog F #[.map (some r)] w fun e w' => ∃ r', e = .returned (.map (some r')) ∧ w.heap.size ≤ r' ∧ MapAt w' r' ek ev l ∧ Keep (fun _ => False) w w' := by
  obtain ⟨es, clock, hb, h2⟩ := h
  refine (L r es clock w hb).mono ?_
  rintro e w' ⟨rfl, rfl⟩
  exact ⟨_, rfl, Nat.le_refl _, ⟨es, clock, World.alloc_heap_new _ _, h2⟩, (Keep.refl _ w).alloc _⟩
theorem clone_ent (r : Nat) (l : List (Int × Ent)) (w : World) (h : MapAt w r ku entV l) :
    Calls Tryz.prog 67 #[.map (some r)] w fun e w' => ∃ r', e = .returned (.map (some r')) ∧ w.heap.size ≤ r' ∧ MapAt w' r' ku entV l ∧ Keep (fun _ => False) w w' :=
  clone_map (F := 67) (fun b es clock w hb => AnyW.maps_Clone Tryz.laysCloneEnt b es clock w hb) r l w h
theorem clone_row (r : Nat) (l : List (Int × RowM)) (w : World) (h : MapAt w r ku rowV l) :
    Calls Tryz.prog 68 #[.map (some r)] w fun e w' => ∃ r', e = .returned (.map (some r')) ∧ w.heap.size ≤ r' ∧ MapAt w' r' ku rowV l ∧ Keep (fun _ => False) w w' :=
  clone_map (F := 68) (fun b es clock w hb => AnyW.maps_Clone Tryz.laysCloneRow b es clock w hb) r l w h

def CloneS (c : Nat) (M : CM) (B : CB) (w : World) : Prop := w.cell? ⟨c, 0, none⟩ = some (.int .i64 M.room) ∧ w.cell? ⟨c, 1, none⟩ = some (.int .i64 M.wait) ∧ w.cell? ⟨c, 2, none⟩ = some (.int .u64 M.life) ∧ w.cell? ⟨c, 3, none⟩ = some (.int .u64 M.pat) ∧
  w.cell? ⟨c, 4, none⟩ = some (.map (some B.me)) ∧ w.cell? ⟨c, 5, none⟩ = some (.map (some B.mr)) ∧ w.cell? ⟨c, 6, none⟩ = some (.pointer (some ⟨B.bl, 0, none⟩)) ∧ w.cell? ⟨c, 7, none⟩ = some (.pointer (some ⟨B.bw, 0, none⟩)) ∧ w.cell? ⟨c, 8, none⟩ = some (.int .i64 M.count)
theorem cloneS {c : Nat} {M : CM} {B : CB} {tl tw : List (Int × Nat)} {w : World} (h : CacheRaw w c M B tl tw) : CloneS c M B w :=
  ⟨h.cells.cell (o := 0) (by omega), h.cells.cell (o := 1) (by omega), h.cells.cell (o := 2) (by omega), h.cells.cell (o := 3) (by omega), h.cells.cell (o := 4) (by omega), h.cells.cell (o := 5) (by omega), h.cells.cell (o := 6) (by omega), h.cells.cell (o := 7) (by omega), h.cells.cell (o := 8) (by omega)⟩

set_option maxRecDepth 100000 in
set_option maxHeartbeats 1000000 in
theorem cclone_any (c : Nat) (M : CM) (B : CB) (w : World) (h : CacheAt w c M B) :
    Calls Tryz.prog 22 #[.pointer (some ⟨c, 0, none⟩)] w fun e w' => ∃ c' B', e = .returned (.pointer (some ⟨c', 0, none⟩)) ∧ CacheAt w' c' M B' ∧ Keep (fun _ => False) w w' ∧ ∀ i, B'.fp c' i → w.heap.size ≤ i := by
  obtain ⟨tl, tw, hr, hpl, hpw⟩ := h
  have hcl := hr.cells.lt
  have hrd : CacheRaw w.drew c M B tl tw := hr.drewN 1
  have hS0 : CloneS c M B w.drew := cloneS hrd
  have tok1 : True := trivial
  have Htok := Lib.hid (fun p hp => hr.toks p hp)
  have Hpl := Lib.hid hpl
  have Hpw := Lib.hid hpw
  clear hpl hpw
  go_enter Tryz.func22, Tryz.ntmps22
  go_wp2_with fail
  go_region_held3 (fun w' => w'.cell? ⟨c, 0, none⟩ = some (.int .i64 M.room) ∧ w'.cell? ⟨c, 1, none⟩ = some (.int .i64 M.wait) ∧ w'.cell? ⟨c, 2, none⟩ = some (.int .u64 M.life) ∧ w'.cell? ⟨c, 3, none⟩ = some (.int .u64 M.pat) ∧ w'.cell? ⟨c, 4, none⟩ = some (.map (some B.me)) ∧ w'.cell? ⟨c, 5, none⟩ = some (.map (some B.mr)) ∧ w'.cell? ⟨c, 6, none⟩ = some (.pointer (some ⟨B.bl, 0, none⟩)) ∧ w'.cell? ⟨c, 7, none⟩ = some (.pointer (some ⟨B.bw, 0, none⟩)) ∧ w'.cell? ⟨c, 8, none⟩ = some (.int .i64 M.count)) (first | exact hS0 | exact hS1 | exact hS2 | exact hS3 | exact hS4 | exact cloneS (hr4.alloc _))
    (first
      | (go_at_call 67; refine (clone_ent B.me M.ent w.drew hrd.ent).mono ?_; rintro e w1 ⟨me', rfl, hl1, hm1, k1⟩; have hr1 : CacheRaw w1 c M B tl tw := hrd.keep k1 (fun _ _ h => h); have hS1 : CloneS c M B w1 := cloneS hr1)
      | (go_at_call 68; refine (clone_row B.mr M.rows w1 hr1.rows).mono ?_; rintro e w2 ⟨mr', rfl, hl2, hm2, k2⟩; have hr2 : CacheRaw w2 c M B tl tw := hr1.keep k2 (fun _ _ h => h); have hS2 : CloneS c M B w2 := cloneS hr2)
      | (go_at_call 69; have _t := tok1; refine (clone_any B.bl 0 tl B.WL w2 hr2.lives).mono ?_; rintro e w3 ⟨bl', tl', WL', rfl, hW3, hp3, k3, hf3⟩; clear tok1; have hr3 : CacheRaw w3 c M B tl tw := hr2.keep k3 (fun _ _ h => h); have hS3 : CloneS c M B w3 := cloneS hr3)
      | (go_at_call 69; refine (clone_any B.bw 0 tw B.WW w3 hr3.waits).mono ?_; rintro e w4 ⟨bw', tw', WW', rfl, hW4, hp4, k4, hf4⟩; have hr4 : CacheRaw w4 c M B tl tw := hr3.keep k4 (fun _ _ h => h); have hS4 : CloneS c M B w4 := cloneS hr4))
  go_wp2_with fail
  go_ret
  have z0 : w.drew.heap.size = w.heap.size := rfl
  have z1 := hm1.lt
  have z2 := hm2.lt
  have z3 := fun i (hi : WL'.fp bl' i) => hW3.raw.lt hi
  have z4 := fun i (hi : WW'.fp bw' i) => hW4.raw.lt hi
  have s1 := k1.size; have s2 := k2.size; have s3 := k3.size; have s4 := k4.size
  have kA : ∀ o : Obj, Keep (fun _ => False) w4 (w4.alloc o) := fun o => (Keep.refl _ w4).alloc o
  have hm1' := ((hm1.keep k2 (fun h => h)).keep k3 (fun h => h)).keep k4 (fun h => h)
  have hm2' := (hm2.keep k3 (fun h => h)).keep k4 (fun h => h)
  have hW3' := hW3.keep k4 (fun _ _ h => h)
  have k04 : Keep (fun _ => False) w w4 := ((((Keep.refl (fun _ => False) w).drewN 1).trans k1 (fun _ h => h) (fun _ _ h => h)).trans k2 (fun _ h => h) (fun _ _ h => h)).trans k3 (fun _ h => h) (fun _ _ h => h) |>.trans k4 (fun _ h => h) (fun _ _ h => h)
  have k05 := fun o => k04.trans (kA o) (fun _ h => h) (fun _ _ h => h)
  have hfp : ∀ i, CB.fp ⟨me', mr', bl', bw', WL', WW'⟩ w4.heap.size i → w.heap.size ≤ i := fun i hi => by
    rcases hi with hi | hi | hi | hi | hi
    · omega
    · simp only at hi; omega
    · simp only at hi; omega
    · have := hf3 _ hi; omega
    · have := hf4 _ hi; omega
  refine ⟨w4.heap.size, ⟨me', mr', bl', bw', WL', WW'⟩, rfl, ⟨tl', tw', ⟨⟨_, World.alloc_heap_new _ _, rfl, fun o ho => ?_⟩, hm1'.keep (kA _) (fun h => h), hm2'.keep (kA _) (fun h => h), hW3'.keep (kA _) (fun _ _ h => h), hW4.keep (kA _) (fun _ _ h => h), fun p hp => ?_, ?_, ?_, ?_, ?_⟩, hp3.trans Hpl.out, hp4.trans Hpw.out⟩, k05 _, hfp⟩
  · match o, ho with
    | 0, _ => rfl | 1, _ => rfl | 2, _ => rfl | 3, _ => rfl | 4, _ => rfl | 5, _ => rfl | 6, _ => rfl | 7, _ => rfl | 8, _ => rfl
    | o + 9, ho => omega
  · exact (Htok.out p hp).step (k05 _) (fun _ _ h => h.elim) (fun i hi => .inr (hfp i hi))
  · simp only; omega
  · exact ⟨fun x => by have := z3 _ x; omega, fun x => by have := hf3 _ x; simp only at this; omega, fun x => by have := hf3 _ x; simp only at this; omega⟩
  · exact ⟨fun x => by have := z4 _ x; omega, fun x => by have := hf4 _ x; simp only at this; omega, fun x => by have := hf4 _ x; simp only at this; omega⟩
  · intro i h1 h2; have := z3 _ h1; have := hf4 _ h2; omega
end Go.Proofs.YtdacbgdinmaemaaGreatDoor

namespace Go.Proofs.YtdacbgdinmaemaaGreatDoor
open Go Go.RowKit Vz Go.Shelf Go.Sort
attribute [local go_sem] Oper.semAt_some

theorem Keep.grown0 {w w' : World} (h : Keep (fun _ => False) w w') : w.grownBy w' none := ⟨h.os, h.tape, h.output, h.size, fun k hk _ => h.block k hk (fun h => h)⟩

/-- what a round keeps for the iterator: cells and maps from n0 on -/
def KeepN (n0 : Nat) (W W' : World) : Prop := W.heap.size ≤ W'.heap.size ∧ ∀ k o, n0 ≤ k → W.heap[k]? = some o → (o.isCells = true ∨ o.isWalk = true) → W'.heap[k]? = some o
theorem keepN_t {n0 : Nat} {A B C : World} (h : KeepN n0 A B) (k : KeepN n0 B C) : KeepN n0 A C :=
  ⟨Nat.le_trans h.1 k.1, fun i o hi ho hc => k.2 i o hi (h.2 i o hi ho hc) hc⟩
theorem keepN_b {n0 : Nat} {w : World} (W : World) (l : Nat) (o o' : Obj) (_ : w.heap.size ≤ l) (h : W.heap[l]? = some o) (h1 : o.isCells = false) (h2 : o.isWalk = false) : KeepN n0 W (W.putObj l o') :=
  ⟨by simp [World.putObj], fun k u _ hu hc => by
    by_cases e : k = l
    · subst e; rw [h] at hu; cases hu; rw [h1, h2] at hc; simp at hc
    · rw [World.putObj_heap_other (fun e' => e e')]; exact hu⟩
theorem KeepN.cell {n0 : Nat} {W W' : World} (h : KeepN n0 W W') {b o : Nat} (hb : n0 ≤ b) {v : Value} (hv : W.cell? ⟨b, o, none⟩ = some v) : W'.cell? ⟨b, o, none⟩ = some v := by
  obtain ⟨u, hu, hc⟩ := cells_of_cell hv
  rw [World.cell?_of_block (w := W) (w' := W') ((h.2 b u hb hu (.inl hc)).trans hu.symm)]; exact hv
theorem KeepN.map {n0 : Nat} {W W' : World} {κ ν : Type} [DecidableEq κ] {ek : κ → Value} {ev : ν → Value} {l : List (κ × ν)} {r : Nat} (h : KeepN n0 W W') (hb : n0 ≤ r) (hm : MapAt W r ek ev l) : MapAt W' r ek ev l := by
  obtain ⟨es, c, h1, h2⟩ := hm; exact ⟨es, c, h.2 r _ hb h1 (.inr rfl), h2⟩

def macAt (l : List (Int × Ent)) (x : Int) : Mac6 := ((lk l x).map Ent.mac).getD Mac6.zero
theorem field_ent0 (a0 a1 a2 a3 a4 a5 o : Value) (w : World) : (Instr.field 125 (.agg #[a0, a1, a2, a3, a4, a5, o]) 0).run Tryz.prog w = .ok (.agg #[a0, a1, a2, a3, a4, a5]) w := by kernel_rfl
theorem run_ent2 (me : Nat) (l : List (Int × Ent)) (w : World) (hM : MapAt w me ku entV l) (x : Int) :
    (Instr.lookup 120 (.map (some me)) (.int .u32 x) false).run Tryz.prog w = .ok (.agg #[.int .u8 (macAt l x).a0, .int .u8 (macAt l x).a1, .int .u8 (macAt l x).a2, .int .u8 (macAt l x).a3, .int .u8 (macAt l x).a4, .int .u8 (macAt l x).a5, .int .i64 (ordIn l x)]) w := by
  have h := run_lookup_at (P := Tryz.prog) (T := 120) kU32 und_entmap (zent w) hM x false
  unfold ordIn macAt
  cases hl : lk l x with
  | none => rw [hl] at h; exact h
  | some d => rw [hl] at h; exact h

set_option maxRecDepth 100000 in
set_option maxHeartbeats 400000 in
theorem all_cmp (bx me : Nat) (l : List (Int × Ent)) (w : World) (x y : Int) (hbx : w.cell? ⟨bx, 0, none⟩ = some (.map (some me))) (hM : MapAt w me ku entV l) :
    Calls Tryz.prog 115 #[.int .u32 x, .int .u32 y, .pointer (some ⟨bx, 0, none⟩)] w fun e w' => e = .returned (.int .i64 (cmpI (ordIn l x) (ordIn l y))) ∧ w' = w := by
  have hl1 := run_ent2 me l w hM x
  have hl2 := run_ent2 me l w hM y
  have hf1 := field_ent1 (.int .u8 (macAt l x).a0) (.int .u8 (macAt l x).a1) (.int .u8 (macAt l x).a2) (.int .u8 (macAt l x).a3) (.int .u8 (macAt l x).a4) (.int .u8 (macAt l x).a5) (.int .i64 (ordIn l x)) w
  have hf2 := field_ent1 (.int .u8 (macAt l y).a0) (.int .u8 (macAt l y).a1) (.int .u8 (macAt l y).a2) (.int .u8 (macAt l y).a3) (.int .u8 (macAt l y).a4) (.int .u8 (macAt l y).a5) (.int .i64 (ordIn l y)) w
  go_enter Tryz.func115, Tryz.ntmps115
  go_wp2_with fail
  refine (compareInt _ _ _).mono ?_
  rintro e w' ⟨rfl, rfl⟩
  go_wp2_with fail
  go_ret
  exact ⟨rfl, rfl⟩

theorem swoOrd (l : List (Int × Ent)) : SWO (ltOf fun x y : Int => cmpI (ordIn l x) (ordIn l y)) := by
  have h : ∀ x y, ltOf (fun x y : Int => cmpI (ordIn l x) (ordIn l y)) x y = decide (ordIn l x < ordIn l y) := fun x y => by
    unfold ltOf
    have := @cmpI_lt (ordIn l x : Int) (ordIn l y : Int)
    by_cases h : ordIn l x < ordIn l y
    · simp [h]; omega
    · simp [h]; omega
  exact { irrefl := fun x => by rw [h]; simp
          trans := fun x y z h1 h2 => by rw [h] at *; simp at *; omega
          ntrans := fun x y z h1 h2 => by rw [h] at *; simp at *; omega }

set_option maxHeartbeats 1000000 in
/-- slices.SortedFunc over Ips, by a comparison -/
theorem u32_sorted (g0 : Nat) (lb0 : Array Value) (eg0 : ∀ args w, (callFunc g0 args).run Tryz.prog w = .ok (.enter g0 args) w) (S Sp : List Int → Prop) (N : Nat) (hN : N ≤ 281474976710656) (hNb : N * 4 ≤ 140737488355328) (hSN : ∀ xs, S xs → xs.length ≤ N) (w : World)
    (hseq : SeqStopsK Fence.wide 2 Tryz.prog g0 lb0 (fun x => #[ku x]) KeepsWalks S Sp N w)
    (g : Nat) (cb : Array Value) (eg : ∀ args w, (callFunc g args).run Tryz.prog w = .ok (.enter g args) w) (cf : Int → Int → Int) (hO : SWO (ltOf cf))
    (hcmp : ∀ W, RowKit.Below w.heap.size w W → ∀ x y : Int, Calls Tryz.prog g (#[ku x, ku y] ++ cb) W fun e W' => e = .returned (.int .i64 (cf x y)) ∧ ∃ q os', W' = grow (W.drewN q) os') :
    Calls Tryz.prog 113 #[.func (.func g0) #[] lb0, .func (.func g) #[] cb] w fun e w' => ∃ (v : Value) (ss ts : List Int), e = .returned v ∧ S ss ∧ ts.Perm ss ∧ ts.Pairwise (fun x y => ltOf cf y x = false) ∧
      w'.ownsRow w.heap.size 30 1 v ts.length (ts.map ku) ∧ RowKit.Below w.heap.size w w' := by
  go_enter Tryz.func113, Tryz.ntmps113
  go_wp2_with fail
  refine (callsIn_wide.1 (au_collect Fence.wide 4 trivial trivial rfl (Nat.le_refl _) g0 lb0 trivial eg0 S Sp N hN hNb hSN w hseq)).mono ?_
  rintro e w1 ⟨v, ss, rfl, hS, hrow, hnil, hb⟩
  by_cases hss : ss = []
  · subst hss
    obtain rfl := hnil.2 rfl
    go_wp2_with fail
    refine (Tryz.slices_SortFunc_none_f167 (α := Int) none 0 _ w1).mono ?_
    rintro e w2 ⟨rfl, rfl⟩
    go_wp2_with fail
    go_ret
    exact ⟨_, [], [], rfl, hS, List.Perm.refl _, List.Pairwise.nil, by simpa using hrow, hb⟩
  · obtain ⟨hlen, h | ⟨g1, cap, cur, rfl, hg, hblk, hl, hc, hsz, htk⟩⟩ := hrow
    · exact absurd (hnil.1 h.1) hss
    have hH : Holds ku w1 g1 0 ss.toArray := holdsE_of_block ku hblk (by rw [Nat.mul_one] at htk; exact htk)
    have hsort := Tryz.slices_SortFunc_f167 ku (fun _ => rfl) cf hO g cb g1 0 cap ss.toArray w1 eg
      (fun m os dk hs x y => hcmp _ (sorted_below ku dk hb hg (Nat.le_refl _)) x y) hH (lt_of_heap hblk) (by have := hSN _ hS; simp; omega)
    simp only [List.size_toArray] at hsort
    go_wp2_with fail
    refine hsort.mono ?_
    rintro e w2 ⟨rfl, d', n, os, hP, hO2, rfl⟩
    go_wp2_with fail
    go_ret
    obtain ⟨hP1, _, hP2⟩ := hP
    have hl2 : d'.toList.length = ss.length := by simpa using hP1
    refine ⟨_, ss, d'.toList, rfl, hS, ?_, ?_, ?_, sorted_below ku _ hb hg (Nat.le_refl _)⟩
    · have e1 : d'.extract 0 ss.length = d' := by rw [show ss.length = d'.size by simpa using hP1.symm]; simp
      have e2 : ss.toArray.extract 0 ss.length = ss.toArray := by simp
      rw [e1, e2] at hP2; simpa using hP2
    · rw [List.pairwise_iff_getElem]
      intro i j hi hj hij
      have h1 := hO2 i j (Nat.zero_le _) hij (by rw [hl2] at hj; exact hj)
      have hi' : i < d'.size := by simpa using hi
      have hj' : j < d'.size := by simpa using hj
      rw [getElem!_pos d' i hi', getElem!_pos d' j hj'] at h1
      simpa using h1
    · have := ownsRow_sorted1 (w := w1) (n := n) (os := os) (e := 30) ku hl2 hg hblk hl hc (by simpa using hsz)
      rw [hl2]; exact this
end Go.Proofs.YtdacbgdinmaemaaGreatDoor

namespace Go.Proofs.YtdacbgdinmaemaaGreatDoor
open Go Go.RowKit Vz Go.Shelf Go.Sort
attribute [local go_sem] Oper.semAt_some

/-- an entry as All tells it -/
def AllE (M : CM) : Type := { x : Int × Mac6 // x.1 ∈ keys M.ent ∧ x.2 = macAt M.ent x.1 }
def AllS (M : CM) (xs : List (AllE M)) : Prop := ∃ ts : List Int, ts.Perm (keys M.ent) ∧ ts.Pairwise (fun x y => ordIn M.ent x ≤ ordIn M.ent y) ∧ xs.map (·.1) = ts.map fun x => (x, macAt M.ent x)

set_option maxRecDepth 100000 in
set_option maxHeartbeats 1000000 in
theorem all1_in (c bx n0 : Nat) (M : CM) (B : CB) (l0 : Nat) (J Jx : List (AllE M) → World → Prop) (hlen : M.ent.length ≤ 16384)
    (hY : ∀ pre x W, J pre W → pre.length < M.ent.length → YieldAt Fence.wide 2 Tryz.prog l0 #[ku x.1.1, macV x.1.2] W fun e W' =>
      (e = .returned (.bool true) ∧ J (pre ++ [x]) W' ∧ KeepN n0 W W') ∨ (e = .returned (.bool false) ∧ Jx (pre ++ [x]) W'))
    (W : World) (hn0 : n0 ≤ W.heap.size) (hA : CacheAt W c M B) (hbx : W.cell? ⟨bx, 0, none⟩ = some (.pointer (some ⟨c, 0, none⟩))) (hJ : AbidesFrom W.heap.size J) (h0 : J [] W) :
    CallsIn Fence.wide 3 Tryz.prog 112 #[.func (.yield l0) #[] #[], .pointer (some ⟨bx, 0, none⟩)] W fun e W' => (∃ v, e = .returned v) ∧
      ((∃ xs, AllS M xs ∧ J xs W') ∨ (∃ pre : List (AllE M), True ∧ Jx pre W')) := by
  obtain ⟨tl, tw, hr, _, _⟩ := hA
  have hc4 : W.cell? ⟨c, 4, none⟩ = some (.map (some B.me)) := hr.cells.cell (o := 4) (by omega)
  have hcl := hr.cells.lt
  have hbxl := World.block_lt_of_cell? _ _ hbx
  refine callsIn_of_wp Tryz.func112 rfl trivial ?_ rfl
  simp only [Tryz.ntmps112, List.size_toArray, List.length_cons, List.length_nil, Nat.reduceAdd, Nat.reduceSub, Array.replicate_succ, Array.replicate_zero, List.push_toArray, List.append_toArray, List.nil_append, List.cons_append]
  gi_wp2_with (refine ⟨trivial, ?_⟩; gi_at_call 67; refine (callsIn_wide.2 (clone_ent B.me M.ent W hr.ent)).mono ?_; rintro e w1 ⟨me', rfl, hl1, hm1, k1⟩)
  refine ⟨trivial, ?_⟩
  refine (ke_keys Fence.wide 2 trivial rfl (some me') _).mono ?_
  rintro e w2 ⟨rfl, hw2⟩
  have k2 : Keep (fun _ => False) w1 w2 := by rw [hw2]; exact ((Keep.refl _ w1).alloc _).alloc _
  have hbox : w2.cell? ⟨w1.heap.size, 0, none⟩ = some (.map (some me')) := by
    rw [hw2]; exact ((Keep.refl (fun _ => False) _).alloc _).cell (cell_one_new w1 _ _ 0 _ rfl) (fun h => h)
  have hbk : w2.cell? ⟨w1.heap.size + 1, 0, none⟩ = some (.map (some me')) := by
    have e : w1.heap.size + 1 = (w1.alloc (.cells #[.map (some me')] 120)).heap.size := by simp
    rw [hw2, e]; exact cell_one_new _ _ _ 0 _ rfl
  have e1 : (w1.alloc (.cells #[.map (some me')] 120)).heap.size = w1.heap.size + 1 := by simp
  rw [e1]
  clear hw2 e1
  have hm2 := hm1.keep k2 (fun h => h)
  have hseq := ke_keys_stops Fence.wide 2 trivial rfl (by omega) (w1.heap.size + 1) me' M.ent w2 (World.block_lt_of_cell? _ _ hbk) hbk hm2
  have hsort := u32_sorted _ _ (enters_of Tryz.func168 (by kernel_rfl) rfl) _ _ _ (by omega) (by omega) (fun xs hx => by have := hx.length_eq; unfold keys at this; simp at this ⊢; omega) w2 hseq
    115 #[.pointer (some ⟨w1.heap.size, 0, none⟩)] (enters_of Tryz.func115 (by kernel_rfl) rfl) (fun x y => cmpI (ordIn M.ent x) (ordIn M.ent y)) (swoOrd M.ent)
    (fun W hW x y => (all_cmp w1.heap.size me' M.ent W x y ((Below.keep0 hW).cell hbox (fun h => h)) (hm2.keep (Below.keep0 hW) (fun h => h))).mono (by
      rintro e w' ⟨rfl, rfl⟩; exact ⟨rfl, 0, #[], by rw [grow_empty]; rfl⟩))
  gi_wp2
  refine ⟨trivial, ?_⟩
  refine (callsIn_wide.2 hsort).mono ?_
  rintro e w3 ⟨v, ss, ts, rfl, hS, hp, hasc, hrow, hb⟩
  have k3 : Keep (fun _ => False) w2 w3 := Below.keep0 hb
  have k03 : Keep (fun _ => False) W w3 := (k1.trans k2 (fun _ h => h) (fun _ _ h => h)).trans k3 (fun _ h => h) (fun _ _ h => h)
  have hkp : ts.Perm (keys M.ent) := hp.trans hS
  have hord : ts.Pairwise (fun x y => ordIn M.ent x ≤ ordIn M.ent y) := hasc.imp (fun {x y} h => by
    unfold ltOf at h
    have := @cmpI_lt (ordIn M.ent y : Int) (ordIn M.ent x : Int)
    simp at h; omega)
  have htl : ts.length = M.ent.length := by have := hkp.length_eq; unfold keys at this; simpa using this
  obtain ⟨p, cap, rfl, hcells⟩ := U32At.of_owns hrow
  have hbox3 := k3.cell hbox (fun h => h)
  have hm3 := hm2.keep k3 (fun h => h)
  have hJ3 : J [] w3 := hJ [] W w3 none h0 (Keep.grown0 k03) (fun r e => by cases e)
  have hz1 := k1.size; have hz2 := k2.size; have hz3 := k3.size
  have hml := hm1.lt
  have Hc := Lib.hid hcells
  clear hcells hrow hb hsort hseq hbk hbox hm2 hS hp hasc
  gi_wp2
  gi_loopw [18] (fun vi wr => ∃ i : Nat, vi = .int .i64 i ∧ i ≤ ts.length ∧ (∃ pre : List (AllE M), pre.map (·.1) = (ts.take i).map (fun x => (x, macAt M.ent x)) ∧ J pre wr) ∧ KeepN n0 w3 wr) (fun vi _ => ts.length - (intOf vi).toNat)
  case atStart => exact ⟨0, by go_num, by omega, ⟨[], by simp, hJ3⟩, ⟨Nat.le_refl _, fun _ _ _ h _ => h⟩⟩
  case round =>
    obtain ⟨i, rfl, hi, ⟨pre, hpre, hJi⟩, hK⟩ := hrel
    have Hpre := Lib.hid hpre
    have hprl : pre.length ≤ i := by have := congrArg List.length hpre; simp at this; omega
    clear hpre
    by_cases hlt : i < ts.length
    · have hli : (i : Int) < ts.length := by omega
      obtain ⟨g, rfl, hg1, hg2, hce⟩ := Hc.out i hlt
      have hq := hK.cell (by omega) hce
      have hqb := hK.cell (by omega) hbox3
      have hqm := hK.map (by omega) hm3
      have hl1 := run_ent2 me' M.ent wr hqm ts[i]
      have hf1 := field_ent0 (.int .u8 (macAt M.ent ts[i]).a0) (.int .u8 (macAt M.ent ts[i]).a1) (.int .u8 (macAt M.ent ts[i]).a2) (.int .u8 (macAt M.ent ts[i]).a3) (.int .u8 (macAt M.ent ts[i]).a4) (.int .u8 (macAt M.ent ts[i]).a5) (.int .i64 (ordIn M.ent ts[i])) wr
      obtain ⟨fn, tmps, assign, body, hy, hR⟩ := hY pre ⟨(ts[i], macAt M.ent ts[i]), hkp.subset (List.getElem_mem hlt), rfl⟩ wr hJi (by omega)
      dsimp only [macV, ku] at hy
      clear hce
      gi_wp2
      refine hR.mono ?_
      rintro e W3 (⟨rfl, hJ4, hk4⟩ | ⟨rfl, hJx4⟩)
      · gi_wp2
        go_roundw
        case rel =>
          refine ⟨i + 1, by go_num, by omega, ⟨_, ?_, hJ4⟩, keepN_t hK hk4⟩
          rw [List.take_succ_eq_append_getElem hlt, List.map_append, List.map_append, Hpre.out]; rfl
        case measure => simp [intOf]; omega
      · gi_wp2
        refine bodyPost_ret (results_none rfl _ _ _) rfl ?_
        exact ⟨⟨_, rfl⟩, .inr ⟨_, trivial, hJx4⟩⟩
    · obtain rfl : i = ts.length := by omega
      have hpre := Hpre.out
      rw [List.take_length] at hpre
      gi_wp2
      go_end0
      exact ⟨⟨_, rfl⟩, .inl ⟨_, ⟨ts, hkp, hord, hpre⟩, hJi⟩⟩

theorem all1_stops (c bx n0 : Nat) (M : CM) (B : CB) (hlen : M.ent.length ≤ 16384) (w : World) (hn0 : n0 ≤ w.heap.size) (hA : CacheAt w c M B) (hbx : w.cell? ⟨bx, 0, none⟩ = some (.pointer (some ⟨c, 0, none⟩))) :
    SeqStopsK Fence.wide 3 Tryz.prog 112 #[.pointer (some ⟨bx, 0, none⟩)] (fun x : AllE M => #[ku x.1.1, macV x.1.2]) (KeepN n0) (AllS M) (fun _ => True) M.ent.length w := fun l0 J Jx W hW hJ _ hY h0 =>
  all1_in c bx n0 M B l0 J Jx hlen hY W (Nat.le_trans hn0 hW.size) (hA.keep (Below.keep0 hW) (fun _ _ h => h)) ((Below.keep0 hW).cell hbx (fun h => h)) hJ h0

set_option maxHeartbeats 400000 in
theorem all_any (c : Nat) (w : World) :
    Calls Tryz.prog 48 #[.pointer (some ⟨c, 0, none⟩)] w fun e w' => e = .returned (.func (.func 112) #[] #[.pointer (some ⟨w.heap.size, 0, none⟩)]) ∧ w' = w.alloc (.cells #[.pointer (some ⟨c, 0, none⟩)] 25) := by
  go_enter Tryz.func48, Tryz.ntmps48
  go_wp2
  go_ret
  exact ⟨rfl, rfl⟩
end Go.Proofs.YtdacbgdinmaemaaGreatDoor
