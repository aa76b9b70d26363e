/- Contracts and plain laws of this claim, part K12. -/
import Derived.ProofKit
import Derived.LaidMore
import Derived.OpenShut
import Derived.Stop.Joined
import Derived.Carry
import Derived.SevenTiedAt
import Derived.Lib.LaidTab
import Derived.Test.YtdacbgdinmaemaaGreatDoorRows
import Derived.Test.YtdacbgdinmaemaaGreatDoorTie
import Derived.Test.YtdacbgdinmaemaaGreatDoorCards
import Derived.Test.YtdacbgdinmaemaaGreatDoorK11
import Derived.Test.YtdacbgdinmaemaaGreatDoorK9
import Derived.Test.YtdacbgdinmaemaaGreatDoorK4
import Derived.Test.YtdacbgdinmaemaaGreatDoorK6
import Derived.Test.YtdacbgdinmaemaaGreatDoorK1
set_option linter.all false

namespace Go.Proofs.YtdacbgdinmaemaaGreatDoor
open Go Go.RowKit Vz Go.Shelf Go.Sort
attribute [local go_sem] Oper.semAt_some

theorem stepK {w0 w w' : World} {c : Nat} {B B' : CB} (K : Keep (fun i => w0.heap.size ≤ i) w0 w) (F : ∀ i, B.fp c i → w0.heap.size ≤ i) (s : Step c B w B' w') : Keep (fun i => w0.heap.size ≤ i) w0 w' ∧ ∀ i, B'.fp c i → w0.heap.size ≤ i :=
  ⟨K.trans s.keep (fun _ h => h) (fun i _ hi => F i hi), fun i hi => (s.fp i hi).elim (F i) (fun h => Nat.le_trans K.size h)⟩
theorem quietK {w0 w w' : World} (K : Keep (fun i => w0.heap.size ≤ i) w0 w) (k : Keep (fun _ => False) w w') : Keep (fun i => w0.heap.size ≤ i) w0 w' := K.trans k (fun _ h => h) (fun _ _ h => h.elim)
theorem quietS {w w' : World} (c : Nat) (B : CB) (k : Keep (fun _ => False) w w') : Step c B w B w' := ⟨k.mono (fun _ _ h => h.elim), fun _ h => .inl h⟩

/-- two caches apart, with a row of tokens in common -/
structure TwoC (w : World) (c : Nat) (B : CB) (d : Nat) (Bd : CB) (Md : CM) (v : Value) (xs : List Int) : Prop where
  da : CacheAt w d Md Bd
  apart : ∀ i, Bd.fp d i → ¬ B.fp c i
  tok : TokAt w (B.fp c) v xs
  rows : ∀ p ∈ Md.rows, p.2.v = v
theorem TwoC.step {w w' : World} {c : Nat} {B B' : CB} {d : Nat} {Bd : CB} {Md : CM} {v : Value} {xs : List Int} (h : TwoC w c B d Bd Md v xs) (s : Step c B w B' w') : TwoC w' c B' d Bd Md v xs :=
  ⟨h.da.keepS s.keep h.apart (fun p hp g hg => h.tok.2 g (by rw [← h.rows p hp]; exact hg)), fun i hi hb => (s.fp i hb).elim (h.apart i hi) (fun x => absurd (h.da.lt hi) (by omega)), h.tok.step s.keep (fun _ _ h => h) s.fp, h.rows⟩

def aliveM : CM := (⟨1, 2, 10, 3, 3, [(3, ⟨⟨6, 0, 0, 0, 0, 0⟩, 3, 113⟩)], []⟩ : CM)
theorem keepN_alloc (n0 : Nat) (W : World) (o : Obj) : KeepN n0 W (W.alloc o) := ⟨by simp, fun k u _ hu _ => (Below.heap_alloc _ _ _ (lt_of_heap hu)).trans hu⟩

theorem keepN_set {n0 : Nat} {W : World} {b o : Nat} (hb : b < n0) (v : Value) : KeepN n0 W (W.setCell ⟨b, o, none⟩ v) :=
  ⟨by simp, fun k u hk hu _ => by rw [Below.heap_setCell _ _ _ _ (by simp; omega)]; exact hu⟩

theorem lit2 (w : World) (a b : Int) : IntsAt (w.alloc (.cells #[.int .i64 a, .int .i64 b] 3)) (.slice (some ⟨w.heap.size, 0, none⟩) 2 2) [a, b] := by
  have hb := World.alloc_heap_new w (.cells #[.int .i64 a, .int .i64 b] 3)
  refine ⟨_, 2, rfl, fun i hi => ⟨w.heap.size, 0, rfl, ?_⟩⟩
  match i, hi with
  | 0, _ => simp only [World.cell?, hb]; rfl
  | 1, _ => simp only [World.cell?, hb]; rfl
theorem same2 (v : Value) (xs : List Int) (w : World) (hv : w.ownsRow 0 3 1 v xs.length (xs.map ki)) (hx : xs.length ≤ 16384) :
    Calls Tryz.prog 19 #[v, .slice (some ⟨w.heap.size, 0, none⟩) 2 2] (w.alloc (.cells #[.int .i64 71, .int .i64 72] 3)) fun e w' => e = .returned (.bool (decide (xs = [71, 72]))) ∧ Keep (fun _ => False) w w' :=
  (sameInts v _ xs [71, 72] _ (IntsAt.of_owns (hv.alloc _)) (lit2 w 71 72) (by omega) (by simp)).mono (by
    rintro e w' ⟨rfl, n, rfl⟩
    exact ⟨rfl, ((Keep.refl _ w).alloc _).drewN n⟩)

set_option maxRecDepth 100000 in


set_option maxHeartbeats 2000000 in
theorem alive_in (w : World) (hT : Tab w) :
    CallsIn Fence.wide 4 Tryz.prog 10 #[] w fun e w' => e = .returned (.bool true) ∧ Keep (fun _ => False) w w' := by
  refine callsIn_of_wp_marks Tryz.func10 rfl trivial ?_ rfl
  simp only [Tryz.ntmps10, List.size_toArray, List.length_cons, List.length_nil, Nat.reduceAdd, Nat.reduceSub, Array.replicate_succ, Array.replicate_zero, List.push_toArray, List.append_toArray, List.nil_append, List.cons_append]
  have hTz : 1 < w.heap.size := World.block_lt_of_cell? _ _ (hT 0 (by decide))
  gi_wp2
  generalize hw0 : World.alloc w _ = w0
  have hzw0 : w0.heap.size = w.heap.size + 1 := by rw [← hw0]; simp
  have k0 : Keep (fun _ => False) w w0 := by rw [← hw0]; exact (Keep.refl _ w).alloc _
  have hres : w0.heap[w.heap.size]? = some (.cells #[.bool false] 4 (0, 0)) := by rw [← hw0]; exact World.alloc_heap_new _ _
  clear hw0
  refine ⟨trivial, ?_⟩
  have hnew : Calls Tryz.prog 11 #[.int .i64 1, .int .i64 2, .int .u64 10, .int .u64 3] w0 fun e w' => ∃ c B, e = .returned (.tuple #[.pointer (some ⟨c, 0, none⟩), .int .i64 0]) ∧ CacheAt w' c ⟨1, 2, 10, 3, 0, [], []⟩ B ∧ Keep (fun _ => False) w0 w' ∧ ∀ i, B.fp c i → w0.heap.size ≤ i := cnew_right 1 2 10 3 w0 (by decide)
  refine (callsIn_wide.2 hnew).mono ?_
  clear hnew
  rintro e w1 ⟨c, B, rfl, hA1, k1, hf1⟩
  gi_wp2
  refine ⟨trivial, ?_⟩
  have hwr : Calls Tryz.prog 11 #[.int .i64 0, .int .i64 2, .int .u64 10, .int .u64 3] w1 fun e w' => e = .returned (.tuple #[.pointer none, .int .i64 11]) ∧ Keep (fun _ => False) w1 w' := cnew_wrong 0 2 10 3 w1 (by decide)
  refine (callsIn_wide.2 hwr).mono ?_
  clear hwr
  rintro e w2 ⟨rfl, k2⟩
  have hA2 := hA1.keep k2 (fun _ _ h => h)
  gi_wp2
  have K2 : Keep (fun i => w0.heap.size ≤ i) w0 w2 := quietK (quietK (Keep.refl _ w0) k1) k2
  refine ⟨trivial, ?_⟩
  have hc1 : Calls Tryz.prog 13 #[.pointer (some ⟨c, 0, none⟩), .int .u32 2, .int .i64 71, .int .u64 100] w2 fun e w' => e = .returned (.tuple #[.bool true, .int .i64 0]) ∧ ∃ v', (∀ g, v'.ownBlock = some g → w2.heap.size ≤ g) ∧ CachePost c ⟨1, 2, 10, 3, 1, [], [(2, ⟨v', [71], 1, 103⟩)]⟩ B w2 w' :=
    wait_new c 2 71 100 _ B w2 hA2 (by simp) (by simp) rfl (by simp) (by simp) (by simp) (by simp)
  refine (callsIn_wide.2 hc1).mono ?_
  clear hc1
  rintro e w3 ⟨rfl, v1, _, B3, hA3, s3⟩
  obtain ⟨K3, F3⟩ := stepK K2 hf1 s3
  gi_wp2
  refine ⟨trivial, ?_⟩
  have hc2 : Calls Tryz.prog 13 #[.pointer (some ⟨c, 0, none⟩), .int .u32 2, .int .i64 72, .int .u64 101] w3 fun e w' => e = .returned (.tuple #[.bool false, .int .i64 0]) ∧ ∃ v', (∀ g, v'.ownBlock = some g → w3.heap.size ≤ g) ∧ CachePost c ⟨1, 2, 10, 3, 1, [], [(2, ⟨v', [71, 72], 1, 103⟩)]⟩ B3 w3 w' :=
    wait_there c 2 72 101 _ B3 w3 hA3 (by simp) (by simp) ⟨v1, [71], 1, 103⟩ rfl (by simp) (by simp)
  refine (callsIn_wide.2 hc2).mono ?_
  clear hc2
  rintro e w4 ⟨rfl, v2, _, B4, hA4, s4⟩
  obtain ⟨K4, F4⟩ := stepK K3 F3 s4
  gi_wp2
  refine ⟨trivial, ?_⟩
  have hc3 : Calls Tryz.prog 13 #[.pointer (some ⟨c, 0, none⟩), .int .u32 2, .int .i64 73, .int .u64 101] w4 fun e w' => e = .returned (.tuple #[.bool false, .int .i64 18]) ∧ Keep (fun _ => False) w4 w' :=
    wait_most c 2 73 101 _ B4 w4 hA4 (by simp) (by simp) ⟨v2, [71, 72], 1, 103⟩ rfl (by simp)
  refine (callsIn_wide.2 hc3).mono ?_
  clear hc3
  rintro e w5 ⟨rfl, k5⟩
  have hA5 := hA4.keep k5 (fun _ _ h => h)
  have K5 := quietK K4 k5
  gi_wp2
  refine ⟨trivial, ?_⟩
  have hc4 : Calls Tryz.prog 13 #[.pointer (some ⟨c, 0, none⟩), .int .u32 3, .int .i64 74, .int .u64 101] w5 fun e w' => e = .returned (.tuple #[.bool false, .int .i64 18]) ∧ Keep (fun _ => False) w5 w' :=
    wait_full c 3 74 101 _ B4 w5 hA5 (by simp) (by simp) rfl (by simp)
  refine (callsIn_wide.2 hc4).mono ?_
  clear hc4
  rintro e w6 ⟨rfl, k6⟩
  have hA6 := hA5.keep k6 (fun _ _ h => h)
  have K6 := quietK K5 k6
  gi_wp2
  refine ⟨trivial, ?_⟩
  refine (callsIn_wide.2 (cclone_any c _ B4 w6 hA6)).mono ?_
  rintro e w7 ⟨d, Bd, rfl, hD7, k7, hfd⟩
  have hA7 := hA6.keep k7 (fun _ _ h => h)
  have K7 := quietK K6 k7
  have T7 : TwoC w7 c B4 d Bd ⟨1, 2, 10, 3, 1, [], [(2, ⟨v2, [71, 72], 1, 103⟩)]⟩ v2 [71, 72] :=
    ⟨hD7, fun i hi hb => by have h1 := hA6.lt hb; have h2 := hfd i hi; omega, by obtain ⟨_, _, hq, _⟩ := hA7; exact hq.toks (2, ⟨v2, [71, 72], 1, 103⟩) (List.mem_cons_self ..), fun p hp => by simp at hp; rw [hp]⟩
  have Fd : ∀ i, Bd.fp d i → w0.heap.size ≤ i := fun i hi => Nat.le_trans K6.size (hfd i hi)
  gi_wp2
  refine ⟨trivial, ?_⟩
  have hc5 : Calls Tryz.prog 12 #[.pointer (some ⟨c, 0, none⟩), .int .u32 2, .agg #[.int .u8 4, .int .u8 0, .int .u8 0, .int .u8 0, .int .u8 0, .int .u8 0], .int .u64 102] w7 fun e w' => e = .returned v2 ∧ CachePost c ⟨1, 2, 10, 3, 2, [(2, ⟨⟨4, 0, 0, 0, 0, 0⟩, 2, 112⟩)], []⟩ B4 w7 w' :=
    learn_new c 2 ⟨4, 0, 0, 0, 0, 0⟩ 102 _ B4 w7 hA7 (by simp) (by simp) (by simp) (by simp) (by simp) rfl (by simp)
  refine (callsIn_wide.2 hc5).mono ?_
  clear hc5
  rintro e w8 ⟨rfl, B8, hA8, s8⟩
  obtain ⟨K8, F8⟩ := stepK K7 F4 s8
  have T8 := T7.step s8
  gi_wp2
  refine ⟨trivial, ?_⟩
  have hc6 : Calls Tryz.prog 18 #[.pointer (some ⟨c, 0, none⟩), .int .u32 2, .int .u64 111] w8 fun e w' => e = .returned (.tuple #[.agg #[.int .u8 4, .int .u8 0, .int .u8 0, .int .u8 0, .int .u8 0, .int .u8 0], .bool true]) ∧ Keep (fun _ => False) w8 w' :=
    find_any c 2 111 _ B8 w8 hA8 (by simp) (by simp)
  refine (callsIn_wide.2 hc6).mono ?_
  clear hc6
  rintro e w9 ⟨rfl, k9⟩
  have hA9 := hA8.keep k9 (fun _ _ h => h)
  have K9 := quietK K8 k9
  have T9 := T8.step (quietS c B8 k9)
  gi_wp2
  generalize hwm : World.alloc w9 _ = w10
  have k10 : Keep (fun _ => False) w9 w10 := by rw [← hwm]; exact (Keep.refl _ w9).alloc _
  have hmb : w10.heap[w9.heap.size]? = some (.cells #[.int .u8 4, .int .u8 0, .int .u8 0, .int .u8 0, .int .u8 0, .int .u8 0] 32 (0, 0)) := by rw [← hwm]; exact World.alloc_heap_new _ _
  clear hwm
  have hA10 := hA9.keep k10 (fun _ _ h => h)
  have K10 := quietK K9 k10
  have T10 := T9.step (quietS c B8 k10)
  refine ⟨trivial, ?_⟩
  have hc7 : Calls Tryz.prog 18 #[.pointer (some ⟨c, 0, none⟩), .int .u32 2, .int .u64 112] w10 fun e w' => e = .returned (.tuple #[.agg #[.int .u8 0, .int .u8 0, .int .u8 0, .int .u8 0, .int .u8 0, .int .u8 0], .bool false]) ∧ Keep (fun _ => False) w10 w' :=
    find_any c 2 112 _ B8 w10 hA10 (by simp) (by simp)
  refine (callsIn_wide.2 hc7).mono ?_
  clear hc7
  rintro e w11 ⟨rfl, k11⟩
  have hA11 := hA10.keep k11 (fun _ _ h => h)
  have K11 := quietK K10 k11
  have T11 := T10.step (quietS c B8 k11)
  have hmb11 := k11.heap hmb (fun h => h)
  gi_wp2
  generalize hwm : World.alloc w11 _ = w12
  have k12 : Keep (fun _ => False) w11 w12 := by rw [← hwm]; exact (Keep.refl _ w11).alloc _
  clear hwm
  have hA12 := hA11.keep k12 (fun _ _ h => h)
  have K12 := quietK K11 k12
  have T12 := T11.step (quietS c B8 k12)
  have hmb12 := k12.heap hmb11 (fun h => h)
  refine ⟨trivial, ?_⟩
  have hc8 : Calls Tryz.prog 12 #[.pointer (some ⟨c, 0, none⟩), .int .u32 3, .agg #[.int .u8 6, .int .u8 0, .int .u8 0, .int .u8 0, .int .u8 0, .int .u8 0], .int .u64 103] w12 fun e w' => e = .returned (.slice none 0 0) ∧ CachePost c ⟨1, 2, 10, 3, 3, [(3, ⟨⟨6, 0, 0, 0, 0, 0⟩, 3, 113⟩)], []⟩ B8 w12 w' :=
    (learn_full c 3 ⟨6, 0, 0, 0, 0, 0⟩ 103 _ B8 w12 hA12 (by simp) (by simp) (by simp) (by simp) (by simp) rfl (by simp) (by simp) (by simp [keys])).mono (by
      rintro e w' ⟨m, hm, _, rfl, hP⟩
      simp [keys] at hm; subst hm
      exact ⟨rfl, hP⟩)
  refine (callsIn_wide.2 hc8).mono ?_
  clear hc8
  have hmbn : ¬ B8.fp c w9.heap.size := fun hx => by have := hA9.lt hx; omega
  rintro e w13 ⟨rfl, B13, hA13, s13⟩
  obtain ⟨K13, F13⟩ := stepK K12 F8 s13
  have T13 := T12.step s13
  have hmb13 := s13.keep.heap hmb12 hmbn
  clear hA1 hA2 hA3 hA4 hA5 hA6 hA7 hA8 hA9 hA10 hA11 hA12 K2 K3 K4 K5 K6 K7 K8 K9 K10 K11 K12 T7 T8 T9 T10 T11 T12 k2 k5 k6 k7 k9 k10 k11 k12 s3 s4 s8 s13 hmb hmb11 hmb12 F3 F4 F8 hf1 hD7 hfd
  gi_wp2
  refine ⟨trivial, ?_⟩
  refine (callsIn_wide.2 (all_any c _)).mono ?_
  rintro e w14 ⟨rfl, hw14⟩
  have e1 : (w13.alloc (.cells #[.int .i64 0] 3)).heap.size = w13.heap.size + 1 := by simp
  rw [e1]
  have k14 : Keep (fun _ => False) w13 w14 := by rw [hw14]; exact ((Keep.refl _ w13).alloc _).alloc _
  have hnb : Boxed w14 w13.heap.size 3 (.int .i64 0) := by
    rw [hw14]; exact (Boxed.new w13 3 (.int .i64 0)).alloc _
  have hbx : w14.cell? ⟨w13.heap.size + 1, 0, none⟩ = some (.pointer (some ⟨c, 0, none⟩)) := by
    rw [hw14, ← e1]; exact cell_one_new _ _ _ 0 _ rfl
  have hz14 : w14.heap.size = w13.heap.size + 2 := by rw [hw14]; simp
  clear hw14 e1
  have hA14 := hA13.keep k14 (fun _ _ h => h)
  have K14 := quietK K13 k14
  have T14 := T13.step (quietS c B13 k14)
  have hmb14 := k14.heap hmb13 (fun h => h)
  have hs13 : ∀ i, B13.fp c i → i < w13.heap.size := fun i hi => hA13.lt hi
  have hd13 : ∀ i, Bd.fp d i → i < w13.heap.size := fun i hi => T13.da.lt hi
  have hv13 : ∀ g, v2.ownBlock = some g → g < w13.heap.size := fun g hg => ownBlock_lt T13.tok.1 hg
  have hz013 := K13.size
  have hz9 : w9.heap.size < w13.heap.size := lt_of_heap hmb13
  clear hA13 K13 T13 hmb13
  gi_wp2
  have hOwn : OwnFrom w14.heap.size (fun (pre : List (AllE aliveM)) W => Boxed W w13.heap.size 3 (.int .i64 pre.length) ∧ Keep (fun i => i = w13.heap.size) w14 W) := by
    rintro s X Y row ⟨hb, hk⟩ hg hr
    refine ⟨hb.kept hg (fun e => ?_), hg.os.trans hk.os, hg.tape.trans hk.tape, hg.output.trans hk.output, Nat.le_trans hk.size hg.size, fun k hlt hn => (hg.block k (Nat.lt_of_lt_of_le hlt hk.size) (fun e => ?_)).trans (hk.block k hlt hn)⟩
    · have := (hr _ e.symm).1; omega
    · have := (hr _ e.symm).1; omega
  refine wpIn_rangeFunc_ownH rfl (by omega) (gf := 112) (lb := #[.pointer (some ⟨w13.heap.size + 1, 0, none⟩)]) rfl trivial (enters_of Tryz.func112 (by kernel_rfl) rfl)
    (all1_stops c (w13.heap.size + 1) w14.heap.size aliveM B13 (by simp [aliveM]) w14 (Nat.le_refl _) hA14 hbx) keepN_t keepN_b (Below.refl _ _) (fun _ => rfl)
    (fun (pre : List (AllE aliveM)) W => Boxed W w13.heap.size 3 (.int .i64 pre.length) ∧ Keep (fun i => i = w13.heap.size) w14 W) (fun _ _ _ => False) hOwn (fun _ _ _ _ _ hs _ _ => hs) ⟨hnb, Keep.refl _ _⟩
    (fun x a' W => ∃ Bm, w14.heap.size ≤ Bm ∧ W.heap[Bm]? = some (.cells #[.int .u8 6, .int .u8 0, .int .u8 0, .int .u8 0, .int .u8 0, .int .u8 0] 32 (0, 0)) ∧ a' = { tmps := #[.pointer (some ⟨w.heap.size, 0, none⟩), .pointer (some ⟨c, 0, none⟩), .int .i64 0, .pointer none, .int .i64 11, .bool true, .int .i64 0, .bool false, .int .i64 0, .bool false, .int .i64 18, .bool false, .int .i64 18, .pointer (some ⟨d, 0, none⟩), v2, .pointer (some ⟨w9.heap.size, 0, none⟩), .bool true, .pointer (some ⟨w11.heap.size, 0, none⟩), .bool false, .pointer (some ⟨w13.heap.size, 0, none⟩), ku x.1.1, .pointer (some ⟨Bm, 0, none⟩), .tuple #[.pointer (some ⟨c, 0, none⟩), .int .i64 0], .tuple #[.pointer (some ⟨c, 0, none⟩), .int .i64 0], .pointer (some ⟨c, 0, none⟩), .int .i64 0, .tuple #[.pointer none, .int .i64 11], .tuple #[.pointer none, .int .i64 11], .pointer none, .int .i64 11, .pointer (some ⟨c, 0, none⟩), .bool false, .bool false, .int .i64 0, .bool false, .bool false, .bool false, .int .i64 11, .bool false, .bool false, .tuple #[.bool true, .int .i64 0], .pointer (some ⟨c, 0, none⟩), .tuple #[.bool true, .int .i64 0], .bool true, .int .i64 0, .tuple #[.bool false, .int .i64 0], .pointer (some ⟨c, 0, none⟩), .tuple #[.bool false, .int .i64 0], .bool false, .int .i64 0, .tuple #[.bool false, .int .i64 18], .pointer (some ⟨c, 0, none⟩), .tuple #[.bool false, .int .i64 18], .bool false, .int .i64 18, .tuple #[.bool false, .int .i64 18], .pointer (some ⟨c, 0, none⟩), .tuple #[.bool false, .int .i64 18], .bool false, .int .i64 18, .pointer (some ⟨c, 0, none⟩), .pointer (some ⟨d, 0, none⟩), .pointer (some ⟨c, 0, none⟩), .agg #[.int .u8 4, .int .u8 0, .int .u8 0, .int .u8 0, .int .u8 0, .int .u8 0], v2, .tuple #[.agg #[.int .u8 4, .int .u8 0, .int .u8 0, .int .u8 0, .int .u8 0, .int .u8 0], .bool true], .pointer (some ⟨c, 0, none⟩), .tuple #[.agg #[.int .u8 4, .int .u8 0, .int .u8 0, .int .u8 0, .int .u8 0, .int .u8 0], .bool true], .agg #[.int .u8 4, .int .u8 0, .int .u8 0, .int .u8 0, .int .u8 0, .int .u8 0], .bool true, .tuple #[.agg #[.int .u8 0, .int .u8 0, .int .u8 0, .int .u8 0, .int .u8 0, .int .u8 0], .bool false], .pointer (some ⟨c, 0, none⟩), .tuple #[.agg #[.int .u8 0, .int .u8 0, .int .u8 0, .int .u8 0, .int .u8 0, .int .u8 0], .bool false], .agg #[.int .u8 0, .int .u8 0, .int .u8 0, .int .u8 0, .int .u8 0, .int .u8 0], .bool false, .pointer (some ⟨c, 0, none⟩), .agg #[.int .u8 6, .int .u8 0, .int .u8 0, .int .u8 0, .int .u8 0, .int .u8 0], .slice none 0 0, .pointer (some ⟨d, 0, none⟩), .bool false, .pointer (some ⟨c, 0, none⟩), .func (.func 112) #[] #[.pointer (some ⟨w13.heap.size + 1, 0, none⟩)], ku x.1.1, macV x.1.2, undef, undef, undef, undef, undef, undef, undef, undef, undef, undef, undef, undef, undef, undef, undef, undef, undef, undef, undef, undef, undef, undef, undef, undef, undef, undef, undef, undef, undef, undef, undef, undef, undef, undef, undef, undef, undef, undef, undef, undef, undef, undef, undef, undef, undef, undef, undef, undef, undef, undef, undef, undef, undef, undef, undef, undef, undef, undef, undef, undef, undef, undef, undef, undef, undef, undef, undef, undef, undef, undef, undef, undef, undef, undef, undef, undef, undef, undef, undef, undef, undef, undef, undef, undef], defers := [] })
    ?hAx ?assign ?body ?done ?stop
  case hAx =>
    rintro x a' _ X Y row ⟨Bm, hb, hB, e⟩ hg hr
    exact ⟨Bm, hb, (hg.block Bm (lt_of_heap hB) (fun e' => by obtain ⟨_, o, ho, hc⟩ := hr Bm e'.symm; rw [hB] at ho; cases ho; cases hc)).trans hB, e⟩
  case assign =>
    intro l pre x W K hI hK
    have hzW := hI.2.size
    obtain ⟨⟨ip, mac⟩, hx1, hx2⟩ := x
    simp only [aliveM, keys, List.map_cons, List.map_nil, List.mem_singleton] at hx1
    subst hx1
    have hx3 : mac = ⟨6, 0, 0, 0, 0, 0⟩ := hx2
    subst hx3
    dsimp only [macV]
    gi_wp2
    exact hK _ _ ((KeepsOthers.alloc _ _).from _) (keepN_alloc _ _ _) (hOwn.alloc _ hI) ⟨W.heap.size, hzW, World.alloc_heap_new _ _, rfl⟩
  case body =>
    rintro l pre x a' W hl _ ⟨hb, hk⟩ ⟨Bm, hbm, hBm, rfl⟩ hlt
    obtain ⟨⟨ip, mac⟩, hx1, hx2⟩ := x
    simp only [aliveM, keys, List.map_cons, List.map_nil, List.mem_singleton] at hx1
    subst hx1
    have hx3 : mac = ⟨6, 0, 0, 0, 0, 0⟩ := hx2
    subst hx3
    dsimp only [macV]
    have q0 : W.cell? ⟨Bm, 0, none⟩ = some (.int .u8 6) := by simp [World.cell?, hBm]
    have q1 : W.cell? ⟨Bm, 1, none⟩ = some (.int .u8 0) := by simp [World.cell?, hBm]
    have q2 : W.cell? ⟨Bm, 2, none⟩ = some (.int .u8 0) := by simp [World.cell?, hBm]
    have q3 : W.cell? ⟨Bm, 3, none⟩ = some (.int .u8 0) := by simp [World.cell?, hBm]
    have q4 : W.cell? ⟨Bm, 4, none⟩ = some (.int .u8 0) := by simp [World.cell?, hBm]
    have q5 : W.cell? ⟨Bm, 5, none⟩ = some (.int .u8 0) := by simp [World.cell?, hBm]
    have hbl : Bm < W.heap.size := lt_of_heap hBm
    have hc := hb.cell
    have hf := hb.frozen
    have hnl := hb.lt
    have hpl : pre.length < 1 := hlt
    have hw64 : IntKind.i64.wrap ((pre.length : Int) + 1) = ((pre.length + 1 : Nat) : Int) := by rw [IntKind.wrap_i64]; omega
    have hne : ∀ W : World, (binOp .neq 32 (.agg #[.int .u8 6, .int .u8 0, .int .u8 0, .int .u8 0, .int .u8 0, .int .u8 0]) (.agg #[.int .u8 6, .int .u8 0, .int .u8 0, .int .u8 0, .int .u8 0, .int .u8 0])).run Tryz.prog W = .ok (.bool false) W := fun _ => by kernel_rfl
    gi_wp2
    refine ⟨(KeepsOthers.setCell _ _ _).from _, keepN_set (by omega) _, ?_, hk.setCell (p := ⟨w13.heap.size, 0, none⟩) (fun _ => rfl) _⟩
    have h9 := hb.set (.int .i64 ((pre.length + 1 : Nat) : Int))
    rw [List.length_append]; exact h9
  case done =>
    rintro D xs W hD hS ⟨hb, hk⟩ hK
    have hxs : xs.length = 1 := by
      obtain ⟨ts, hp, _, hm⟩ := hS
      have h1 : xs.length = ts.length := by simpa using congrArg List.length hm
      have h2 : ts.length = 1 := hp.length_eq
      omega
    rw [hxs] at hb
    have hA := hA14.keepS hk (fun i hi e => by have := hs13 i hi; omega) (fun p hp => by simp at hp)
    have hDd := T14.da.keepS hk (fun i hi e => by have := hd13 i hi; omega) (fun p hp g hg e => by rw [T14.rows p hp] at hg; have := hv13 g hg; omega)
    have htk : W.ownsRow 0 3 1 v2 2 [.int .i64 71, .int .i64 72] := ownsRow_keep2 T14.tok.1 hk (fun g hg e => by have := hv13 g hg; omega)
    have KW : Keep (fun i => w0.heap.size ≤ i) w0 W := K14.trans hk (fun _ h => h) (fun i hi e => by omega)
    have hmW := hk.heap hmb14 (by omega)
    have hzW := hk.size
    have hDl := lt_of_heap hK
    have hcc : ∀ i, B13.fp c i → i < D := fun i hi => by have := hs13 i hi; omega
    have hdd : ∀ i, Bd.fp d i → i < D := fun i hi => by have := hd13 i hi; omega
    have heq : ∀ W : World, (binOp .eql 32 (.agg #[.int .u8 4, .int .u8 0, .int .u8 0, .int .u8 0, .int .u8 0, .int .u8 0]) (.agg #[.int .u8 4, .int .u8 0, .int .u8 0, .int .u8 0, .int .u8 0, .int .u8 0])).run Tryz.prog W = .ok (.bool true) W := fun _ => by kernel_rfl
    gi_wp2
    refine ⟨trivial, ?_⟩
    refine (callsIn_wide.2 (same2 v2 [71, 72] W htk (by simp))).mono ?_
    rintro e W1 ⟨rfl, q1⟩
    have hA1 := hA.keep q1 (fun _ _ h => h)
    have hD1 := hDd.keep q1 (fun _ _ h => h)
    have KW1 := quietK KW q1
    have hm1 := q1.heap hmW (fun h => h)
    have hb1 : Boxed W1 w13.heap.size 3 (.int .i64 1) := q1.heap hb (fun h => h)
    have hK1 := q1.heap hK (fun h => h)
    have hml : w9.heap.size < W1.heap.size := lt_of_heap hm1
    have p0 : W1.cell? ⟨w9.heap.size, 0, none⟩ = some (.int .u8 4) := by simp [World.cell?, hm1]
    have p1 : W1.cell? ⟨w9.heap.size, 1, none⟩ = some (.int .u8 0) := by simp [World.cell?, hm1]
    have p2 : W1.cell? ⟨w9.heap.size, 2, none⟩ = some (.int .u8 0) := by simp [World.cell?, hm1]
    have p3 : W1.cell? ⟨w9.heap.size, 3, none⟩ = some (.int .u8 0) := by simp [World.cell?, hm1]
    have p4 : W1.cell? ⟨w9.heap.size, 4, none⟩ = some (.int .u8 0) := by simp [World.cell?, hm1]
    have p5 : W1.cell? ⟨w9.heap.size, 5, none⟩ = some (.int .u8 0) := by simp [World.cell?, hm1]
    have hbc := hb1.cell
    have hbl := hb1.lt
    clear hA hDd KW hmW hb hK hk hA14 T14 K14 hmb14 hnb hOwn hbx k14 q1 hm1
    gi_wp2
    refine ⟨trivial, ?_⟩
    have hlen : Calls Tryz.prog 16 #[.pointer (some ⟨c, 0, none⟩)] W1 fun e w' => e = .returned (.int .i64 1) ∧ w' = W1 := len_any c _ B13 W1 hA1
    refine (callsIn_wide.2 hlen).mono ?_
    clear hlen
    rintro e W1' ⟨rfl, rfl⟩
    clear p0 p1 p2 p3 p4 p5 hbc
    gi_wp2
    refine ⟨trivial, ?_⟩
    have hrow1 : Calls Tryz.prog 17 #[.pointer (some ⟨c, 0, none⟩)] W1' fun e w' => e = .returned (.int .i64 0) ∧ w' = W1' := rows_any c _ B13 W1' hA1
    refine (callsIn_wide.2 hrow1).mono ?_
    clear hrow1
    rintro e W2 ⟨rfl, rfl⟩
    have hWF : WF (⟨1, 2, 10, 3, 1, [], [(2, ⟨v2, [71, 72], 1, 103⟩)]⟩ : CM) 1 2 10 3 1 := ⟨rfl, rfl, rfl, rfl, by simp, by simp, Nat.le_refl _, by simp, by simp, by simp, by simp, by simp, by simp [keys]⟩
    gi_wp2
    refine ⟨trivial, ?_⟩
    refine (callsIn_wide.2 (tokens_any d _ Bd W2 1 2 10 3 1 hD1 hWF (by simp) (by simp))).mono ?_
    rintro e W3 ⟨v, rs, rfl, hrs, _, htk3, q3⟩
    obtain rfl := List.perm_singleton.1 hrs
    have hD3 := hD1.keep q3 (fun _ _ h => h)
    have KW3 := quietK KW1 q3
    have hK3 := q3.heap hK1 (fun h => h)
    have htr : W3.ownsRow 0 3 1 v 2 [.int .i64 71, .int .i64 72] := htk3.1
    clear hrs htk3
    gi_wp2
    refine ⟨trivial, ?_⟩
    refine (callsIn_wide.2 (same2 v [71, 72] W3 htr (by simp))).mono ?_
    rintro e W4 ⟨rfl, q4⟩
    have hD4 := hD3.keep q4 (fun _ _ h => h)
    have KW4 := quietK KW3 q4
    have hK4 := q4.heap hK3 (fun h => h)
    have hT4 : Tab W4 := (Tab.keep (Tab.keep hT k0 (fun h => h)) KW4 (fun h => by omega))
    gi_wp2
    refine ⟨trivial, ?_⟩
    refine (callsIn_wide.2 (sweep_any d 102 _ Bd W4 1 2 10 3 1 hD4 hWF (by simp) (by simp) hT4 (fun hx => by have := Fd _ hx; omega))).mono ?_
    rintro e W5 ⟨v5, told, B5, rfl, htold, hD5, s5, htk5⟩
    have htold0 : told = [] := htold.unique (SweepTold.none (by simp [tm61]))
    subst htold0
    have hD5 : CacheAt W5 d ⟨1, 2, 10, 3, 1, [], [(2, ⟨v2, [71, 72], 1, 103⟩)]⟩ B5 := hD5
    obtain ⟨KW5, F5⟩ := stepK KW4 Fd s5
    have hK5 := s5.keep.heap hK4 (fun hx => by have := hdd _ hx; omega)
    have hD4l := lt_of_heap hK4
    have hdd5 : ¬ B5.fp d D := fun hx => by
      rcases s5.fp _ hx with h | h
      · have := hdd _ h; omega
      · omega
    obtain ⟨p5, c5, rfl⟩ := slice_form htk5.1
    have hT5 : Tab W5 := (Tab.keep (Tab.keep hT k0 (fun h => h)) KW5 (fun h => by omega))
    clear htold htk5 hT4 hD4
    gi_wp2
    refine ⟨trivial, ?_⟩
    refine (callsIn_wide.2 (sweep_any d 103 _ B5 W5 1 2 10 3 1 hD5 hWF (by simp) (by simp) hT5 (fun hx => by have := F5 _ hx; omega))).mono ?_
    rintro e W6 ⟨v6, told, B6, rfl, htold, hD6, s6, htk6⟩
    have htold1 : told = [71, 72] := by
      obtain ⟨xs, hx, rfl⟩ := htold
      have hx1 : xs.Perm [2] := hx.1
      obtain rfl := List.perm_singleton.1 hx1
      rfl
    subst htold1
    have hD6 : CacheAt W6 d ⟨1, 2, 10, 3, 1, [], []⟩ B6 := hD6
    obtain ⟨KW6, F6⟩ := stepK KW5 F5 s6
    have hK6 := s6.keep.heap hK5 hdd5
    have htr6 : W6.ownsRow 0 3 1 v6 2 [.int .i64 71, .int .i64 72] := htk6.1
    clear htold htk6 hT5 hD5
    gi_wp2
    refine ⟨trivial, ?_⟩
    refine (callsIn_wide.2 (same2 v6 [71, 72] W6 htr6 (by simp))).mono ?_
    rintro e W7 ⟨rfl, q7⟩
    have hD7 := hD6.keep q7 (fun _ _ h => h)
    have KW7 := quietK KW6 q7
    have hK7 := q7.heap hK6 (fun h => h)
    gi_wp2
    refine ⟨trivial, ?_⟩
    have hrow2 : Calls Tryz.prog 17 #[.pointer (some ⟨d, 0, none⟩)] W7 fun e w' => e = .returned (.int .i64 0) ∧ w' = W7 := rows_any d _ B6 W7 hD7
    refine (callsIn_wide.2 hrow2).mono ?_
    clear hrow2
    rintro e W8 ⟨rfl, rfl⟩
    have hR : Boxed W8 w.heap.size 4 (.bool false) := KW7.heap hres (fun h => by omega)
    have hRc := hR.cell
    have hRf := hR.frozen
    have hRl := hR.lt
    gi_wp2
    have hD0 : w.heap.size < D := by omega
    have hK' : (W8.setCell ⟨w.heap.size, 0, none⟩ (.bool true)).heap[D]? = some (.deferred (some [])) := by rw [Below.heap_setCell _ _ _ _ (by simp; omega)]; exact hK7
    refine ⟨by simp, .inl ⟨_, _, rfl, run_takeDeferred hK', ?_⟩⟩
    have hc5 := cell_kept (World.cell?_setCell_same' W8 ⟨w.heap.size, 0, none⟩ (.bool true) (by rw [hRc]; rfl)) (grownBy_putObj' _ D (.deferred none)) (fun r e => by cases e; exact ⟨_, hK', rfl⟩)
    refine ⟨.bool true, ?_, rfl, ?_⟩
    · simp [results, Tryz.f10, go_sem, hc5]
    · have h1 : Keep (fun i => w.heap.size ≤ i) w (W8.setCell ⟨w.heap.size, 0, none⟩ (.bool true)) := ((k0.trans KW7 (fun _ h => h.elim) (fun i hi (e : w0.heap.size ≤ i) => by omega)).setCell (p := ⟨w.heap.size, 0, none⟩) (fun h => absurd h (Nat.lt_irrefl _)) _)
      have h2 := h1.putObj (r := D) (fun h => by omega) (.deferred none)
      exact h2.mono (fun i hi h => absurd hi (by omega))
  case stop =>
    rintro D c pre W _ _ h _
    exact h.elim

theorem alive_any (w : World) (hT : Tab w) :
    Calls Tryz.prog 10 #[] w fun e w' => e = .returned (.bool true) ∧ Keep (fun _ => False) w w' := callsIn_wide.1 (alive_in w hT)
end Go.Proofs.YtdacbgdinmaemaaGreatDoor

namespace Go.Proofs.YtdacbgdinmaemaaGreatDoor
open Go Go.ChangeShapes Go.WideShapes Go.ChangeAt Go.WideMaps Go.WideElems Go.RowKit Vz

theorem vz_own : ownKnob Tryz.prog.godebug = none := by kernel_rfl
theorem vz_out : laidOutB Tryz.prog = true := by kernel_rfl
theorem vz_g : Tryz.prog.globalNamed "math/bits.deBruijn64tab" = some 1 := by kernel_rfl
def tabZs : List Int := Lib.deBruijn64tab.map fun n : Nat => (n : Int)
def vzLaid : List (String × DataW Unit) := [("math/bits.deBruijn64tab", Rows.laid_math_bits_deBruijn64tab)]
theorem laid_tab : (Rows.laid_math_bits_deBruijn64tab : DataW Unit) = Lib.tabData .u8 tabZs := by kernel_rfl

theorem door_met (os : Os) (args : Array Value) : laidMetH Tryz.prog vzLaid ((World.doorLaid Tryz.prog 21 os).forCall (fun _ _ => 0) ⟨#[], args, []⟩).memory :=
  laidMetH_of_parts3 (fuel := 8) (laidMet_of_run' 8 (by kernel_rfl) (by kernel_rfl)) (by kernel_rfl) (by kernel_rfl)

theorem tab_of_laid {W : World} (h : laidMetH Tryz.prog vzLaid W) : Tab W := by
  rw [MakeChecks.laidMetH_plain _ _ _ (by kernel_rfl)] at h
  unfold vzLaid at h
  rw [laid_tab] at h
  have hT := Lib.tabIs_of_head vz_g (t := 389) (e := 5) (n := 64) (by kernel_rfl) (by kernel_rfl) (by kernel_rfl) (by kernel_rfl) (by kernel_rfl) h
  intro j hj
  have hl : tabZs.length = Lib.deBruijn64tab.length := by unfold tabZs; simp
  rw [hT.cell vz_g j (by rw [hl]; exact hj)]
  unfold tabZs
  simp [List.getD, hj]
end Go.Proofs.YtdacbgdinmaemaaGreatDoor

namespace Go.Proofs.YtdacbgdinmaemaaGreatDoor
open Go Go.ChangeShapes Go.WideShapes Go.ChangeAt Go.WideMaps Go.WideElems Go.RowKit Vz

section
variable {H : Type} {enc : TypeId × Value → H}

theorem trodAll_below {P : Program} (hl : laidOutB P = true) {W W' : World} (hb : RowKit.Below W.heap.size W W') : ∀ {ts : List TypeId} {vs : List Value} {ds : List (DataW H)} {ps : List MemPlace}, (ts.all fun t => P.readableRec t && decide (t < P.types.size)) = true →
    DataW.TrodAll enc P W 0 (fun _ => true) true ts vs ds ps → (∀ x ∈ ps, x.block < W.heap.size) → DataW.TrodAll enc P W' 0 (fun b => decide (b < W.heap.size)) true ts vs ds ps := by
  intro ts
  induction ts with
  | nil =>
    intro vs ds ps _ h _
    obtain ⟨rfl, rfl, rfl⟩ := trodAll_nil h
    exact trodAll_mk0
  | cons t ts ih =>
    intro vs ds ps ht h hlt
    obtain ⟨v, vs', d, ds', p, q, rfl, rfl, rfl, h1, h2⟩ := trodAll_cons h
    simp only [List.all_cons, Bool.and_eq_true, decide_eq_true_eq] at ht
    exact trodAll_cons_mk (Below.trod hl ht.1.1 ht.1.2 h1 hb (fun x hx => hlt x (List.mem_append_left _ hx))) (ih ht.2 h2 (fun x hx => hlt x (List.mem_append_right _ hx)))

theorem law_post {f : Func} {s : ChangeSpec} {W W' : World} {args : Array Value} {ds : List (DataW H)} {before : List MemPlace} (hsv : s.vars = []) (hres : f.resultTypes = #[4])
    (hrec : (f.params.toList.all fun t => Tryz.prog.readableRec t && decide (t < Tryz.prog.types.size)) = true) (hA : DataW.TrodAll enc Tryz.prog W 0 (fun _ => true) true f.params.toList args.toList ds before)
    (hW : DataW.Whole enc Tryz.prog f.params.toList s.vars false W args.toList ds [] before) (hr : (s.fn H (ds ++ [])).results = [.lit (.bool true)]) (ha : (s.fn H (ds ++ [])).args = ds) (hv : (s.fn H (ds ++ [])).vars = [])
    (hb : RowKit.Below W.heap.size W W') : s.post enc Tryz.prog f false true false false W args (.bool true) W' := by
  have hlt : ∀ p ∈ before, p.block < W.heap.size := fun p hp => hW.lt p hp
  refine ⟨ds, [], before, [], before, [], hW, ?_, ?_, ?_, World.keptBut_mono (fun p hp => ⟨hp, .inr (.inl hp)⟩) (hb.frame (· ∈ before)), fun h => by cases h⟩
  · rw [hres, hr]; exact trodAll_mk1 (shut_bool (by kernel_rfl) _)
  · rw [ha]; exact trodAll_below vz_out hb hrec hA hlt
  · rw [hsv, hv]; exact rfl
end
end Go.Proofs.YtdacbgdinmaemaaGreatDoor

namespace Go.Proofs.YtdacbgdinmaemaaGreatDoor
open Go Go.ChangeShapes Go.WideShapes Go.ChangeAt Go.WideMaps Go.WideElems Go.RowKit Vz

section
variable {P : Program} {W : World}
theorem cell_int_ok {t : TypeId} {k : IntKind} {base : Nat} {v : Value} (hu : P.underlying t = some (.int k)) (h : Cell.okWide P W .any base t v) : ∃ n : Int, v = .int k n ∧ k.has n := by
  unfold Cell.okWide Cell.ok at h
  rw [hu] at h
  cases v <;> simp at h
  obtain ⟨rfl, h1⟩ := h
  exact ⟨_, rfl, h1⟩
/-- an array of six bytes, by value -/
theorem arr6_ok {t e : TypeId} {base : Nat} {v : Value} (ht : P.underlying t = some (.array 6 e)) (he : P.underlying e = some (.int .u8)) (hc : P.cellsOf t = 6) (hts : P.cellTypes P.depth t = some [e, e, e, e, e, e]) (h : Value.okWide P W .any base t v) : ∃ m : Mac6, v = macV m := by
  unfold Value.okWide at h
  rw [ht] at h
  obtain ⟨cs, rfl, hsz, ts, h1, _, h2⟩ := h
  rw [hts] at h1; cases h1
  rw [hc] at hsz
  have hcell : ∀ i, i < 6 → ∃ n : Int, cs[i]? = some (.int .u8 n) := fun i hi => by
    have hv : cs[i]? = some cs[i] := Array.getElem?_eq_getElem (by omega)
    obtain ⟨u, hu, hk⟩ := h2 i _ hv
    have hue : u = e := by
      match i, hi, hu with
      | 0, _, hu => exact (Option.some.inj hu).symm
      | 1, _, hu => exact (Option.some.inj hu).symm
      | 2, _, hu => exact (Option.some.inj hu).symm
      | 3, _, hu => exact (Option.some.inj hu).symm
      | 4, _, hu => exact (Option.some.inj hu).symm
      | 5, _, hu => exact (Option.some.inj hu).symm
    subst hue
    obtain ⟨n, hn, _⟩ := cell_int_ok he hk
    exact ⟨n, by rw [hv, hn]⟩
  obtain ⟨a0, h0⟩ := hcell 0 (by omega)
  obtain ⟨a1, h1⟩ := hcell 1 (by omega)
  obtain ⟨a2, h2⟩ := hcell 2 (by omega)
  obtain ⟨a3, h3⟩ := hcell 3 (by omega)
  obtain ⟨a4, h4⟩ := hcell 4 (by omega)
  obtain ⟨a5, h5⟩ := hcell 5 (by omega)
  refine ⟨⟨a0, a1, a2, a3, a4, a5⟩, ?_⟩
  unfold macV
  congr 1
  apply Array.ext_getElem?
  intro i
  by_cases hi : i < 6
  · match i, hi with
    | 0, _ => exact h0 | 1, _ => exact h1 | 2, _ => exact h2 | 3, _ => exact h3 | 4, _ => exact h4 | 5, _ => exact h5
  · rw [Array.getElem?_eq_none (by omega), Array.getElem?_eq_none (by simp; omega)]

theorem spot_none {a : Addr} {v : Value} (h : W.cell? a = some v) : a.spot = none := by
  unfold World.cell? at h
  split at h
  · split at h
    · cases h
    · rename_i hs; simpa using hs
  · cases h
/-- a slice of whole numbers that came in -/
theorem ints_in {H : Type} {enc : TypeId × Value → H} {t e : TypeId} {base : Nat} {v : Value} {d : DataW H} {p : List MemPlace} (ht : P.underlying t = some (.slice e)) (he : P.underlying e = some (.int .i64)) (hc : P.cellsOf e = 1)
    (hok : Value.okWide P W .any base t v) (h : DataW.Trod enc P W 0 (fun _ => true) true t v d p) : ∃ xs : List Int, IntsAt W v xs ∧ xs.length ≤ 9223372036854775807 := by
  obtain ⟨a0, len0, cap0, rfl⟩ := okWide_slice ht hok
  obtain ⟨fuel, hf⟩ := h
  rcases open_ints ht he hc hf with ⟨hcs, _⟩ | ⟨a, len, cap, zs, hcs, _, hl, hm, hz, _, hcell, _⟩
  · simp [Value.cells] at hcs
    obtain ⟨rfl, rfl, rfl⟩ := hcs
    exact ⟨[], ⟨none, 0, rfl, fun i hi => by simp at hi⟩, by simp⟩
  · simp [Value.cells] at hcs
    obtain ⟨rfl, rfl, rfl⟩ := hcs
    simp at hz
    have hlz : (zs.take len0).length = len0 := by rw [List.length_take]; omega
    refine ⟨zs.take len0, ⟨some a, cap0, by rw [hlz], fun i hi => ?_⟩, by rw [hlz]; unfold maxLen at hm; omega⟩
    have hi2 : i < zs.length := by rw [List.length_take] at hi; omega
    have h1 := hcell i hi2
    rw [List.getElem_take]
    obtain ⟨g, o, s⟩ := a
    have hs : s = none := by
      have h0 := hcell 0 (by omega)
      exact spot_none (a := ⟨g, o, s⟩) (by simpa [Addr.add] using h0)
    subst hs
    refine ⟨g, o, rfl, ?_⟩
    rw [Addr.add_lit] at h1
    rw [h1]; simp [List.getD, hi2]
end
theorem has_u32 {n : Int} (h : IntKind.u32.has n) : 0 ≤ n ∧ n < 4294967296 := by
  simp [IntKind.has, IntKind.min, IntKind.max, IntKind.signed, IntKind.bits] at h; omega
theorem has_u64 {n : Int} (h : IntKind.u64.has n) : ∃ k : Nat, n = k ∧ k < 18446744073709551616 := by
  simp [IntKind.has, IntKind.min, IntKind.max, IntKind.signed, IntKind.bits] at h; exact ⟨n.toNat, by omega, by omega⟩
theorem int_in {P : Program} {W : World} {t : TypeId} {k : IntKind} {base : Nat} {v : Value} (hu : P.underlying t = some (.int k)) (h : Value.okWide P W .any base t v) : ∃ n : Int, v = .int k n ∧ k.has n := by
  unfold Value.okWide at h
  rw [hu] at h
  exact cell_int_ok hu h
end Go.Proofs.YtdacbgdinmaemaaGreatDoor

namespace Vz
open Go Go.RowKit

/-- where an append's row lies: where it lay, or in a new block -/
theorem append_where {P : Program} {w : World} {base : Nat} (t ty e : TypeId) (i : TypeInfo) (z : Value) {size bytes : Nat} (ht : P.underlying t = some (.slice e)) (hi : P.info? e = some i) (hz : i.zero = some z)
    (hsize : i.size = size) (hby : i.bytes = bytes) (v : Value) (n : Nat) (xs : List Value) (hown : w.ownsRow base e size v n xs) (a : Addr) (m c : Nat) (news : List Value) (hl : news.length = m * size) (hnews : ∀ j u, news[j]? = some u → w.cell? (a.add j) = some u) (h1 : ∀ u ∈ news, u.oneCell' = true)
    (hm : 0 < m) (h63 : n + m ≤ maxLen) (hbytes : (n + m) * bytes ≤ 140737488355328) {v' : Value} {w' : World} (hrun : (Builtin.append_ #[t, t] ty #[v, .slice (some a) m c]).run P w = .ok v' w') :
    v'.ownBlock = v.ownBlock ∨ ∀ g, v'.ownBlock = some g → w.heap.size ≤ g := by
  subst hsize
  subst hby
  have hsmall : n + m ≤ 9223372036854775807 := by simp only [maxLen] at h63; omega
  rcases hown.2 with ⟨rfl, rfl⟩ | ⟨g, cap, cur, rfl, hbg, hg, hnc, hcm, hcs, htake⟩
  · have hr := run_append_nil (P := P) w t ty e i z ht hi hz a m c news hl hnews hm (by omega) (by have hb := hbytes; simp only [Nat.zero_add] at hb; omega)
    rw [hr] at hrun; injection hrun with h2 h3
    exact .inr fun g hg => by rw [← h2] at hg; simp [Value.ownBlock] at hg; omega
  · by_cases hroom : n + m ≤ cap
    · have hfit : n * i.size + news.length ≤ cur.size := by rw [hl, hcs, ← Nat.add_mul]; exact Nat.mul_le_mul_right _ hroom
      have hr := run_append_room (P := P) w t ty e i ht hi g n cap cur hg a m c news hl hnews h1 hroom hfit
      rw [hr] at hrun; injection hrun with h2 h3
      exact .inl (by rw [← h2]; rfl)
    · have hr := run_append_grow (P := P) w t ty e i z ht hi hz ⟨g, 0, none⟩ n cap xs hown.1 (hown.cells (g := g) rfl) a m c news hl hnews (by omega) (by omega) (growslice_fits (by omega) hbytes)
      rw [hr] at hrun; injection hrun with h2 h3
      exact .inr fun g hg => by rw [← h2] at hg; simp [Value.ownBlock] at hg; omega

theorem wpList_append_own2 {P : Program} {w : World} {ops : Array Oper} {rest : List Oper} {o : Oper} {a : Act} {Q : Exit → Act → World → Prop} (hgd : o.guard = none) (s x : Operand) (t : TypeId)
    (ho : o.op = .call { callee := .builtin .append, args := #[s, x], argTypes := #[t, t] })
    (base : Nat) (e : TypeId) (i : TypeInfo) (z : Value) (size bytes : Nat) (ht : P.underlying t = some (.slice e)) (hi : P.info? e = some i) (hz : i.zero = some z)
    (hsize : i.size = size) (hby : i.bytes = bytes) (hzs : z.cells.size = size) (hsz : 0 < size)
    (v : Value) (n : Nat) (xs : List Value) (hs : a.eval s = v) (hown : w.ownsRow base e size v n xs)
    (ad : Addr) (m c : Nat) (news : List Value) (hx : a.eval x = .slice (some ad) m c) (hl : news.length = m * size) (hnews : ∀ j u, news[j]? = some u → w.cell? (ad.add j) = some u) (h1 : ∀ u ∈ news, u.oneCell' = true)
    (hm : 0 < m) (h63 : n + m ≤ maxLen) (hbytes : (n + m) * bytes ≤ 140737488355328) (hbase : base ≤ w.heap.size)
    (h : ∀ v' w', w'.ownsRow base e size v' (n + m) (xs ++ news) → w.grownBy w' v.ownBlock → (v'.ownBlock = v.ownBlock ∨ ∀ g, v'.ownBlock = some g → w.heap.size ≤ g) → wpList P ops Q rest (a.put o.dst v') w') : wpList P ops Q (o :: rest) a w := by
  refine wpList_plain hgd fun _ hK => ?_
  obtain ⟨v', w', hr, h2, h3, h4⟩ := run_append_own (P := P) w base t o.type e i z size bytes ht hi hz hsize hby hzs hsz v n xs hown ad m c news hl hnews h1 h63 hbytes hbase
  have hw := append_where t o.type e i z ht hi hz hsize hby v n xs hown ad m c news hl hnews h1 hm h63 hbytes hr
  unfold Oper.wp execOp
  simp only [ho, resolve, invoke, builtin, Sem.run_bind, Sem.run_pure, Result.andThen_ok, List.map_toArray, List.map_cons, List.map_nil, hs, hx, hr]
  exact hK _ _ (h v' w' h2 h3 hw)

theorem app_keep3 {w3 w4 : World} {o : Obj} {v : Value} (hg : (w3.alloc o).grownBy w4 v.ownBlock) : Keep (fun i => v.ownBlock = some i) w3 w4 :=
  ⟨hg.os, hg.tape, hg.output, by have := hg.size; simp at this; omega, fun k hk hn => (hg.block k (by simp; omega) (fun e => hn e.symm)).trans (Below.heap_alloc _ _ _ hk)⟩
theorem own_base {w : World} {base : Nat} {e : TypeId} {size : Nat} {v : Value} {n : Nat} {xs : List Value} (h : w.ownsRow base e size v n xs) {g : Nat} (hg : v.ownBlock = some g) : base ≤ g := by
  rcases h.2 with ⟨rfl, _⟩ | ⟨g', cap, cur, rfl, h2, _⟩
  · simp [Value.ownBlock] at hg
  · simp [Value.ownBlock] at hg; omega
end Vz
