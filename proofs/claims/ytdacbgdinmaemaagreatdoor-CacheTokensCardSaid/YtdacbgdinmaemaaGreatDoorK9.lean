/- Contracts and plain laws of this claim, part K9. -/
import Derived.WalkLawsBesides
import Derived.WalkSpells
import Derived.Deep.QuietTactic
import Derived.BigQuiet
import Derived.Test.YtdacbgdinmaemaaGreatDoorProg
import Derived.Test.YtdacbgdinmaemaaGreatDoorK8
import Derived.Test.YtdacbgdinmaemaaGreatDoorK5
set_option linter.all false

namespace Go.Proofs.YtdacbgdinmaemaaGreatDoor
open Go Go.RowKit Vz Go.Shelf

set_option maxRecDepth 100000 in
set_option maxHeartbeats 1000000 in
theorem wait_most (c : Nat) (ip token : Int) (now : Nat) (M : CM) (B : CB) (w : World) (h : CacheAt w c M B) (h0 : 0 ≤ ip) (h1 : ip < 4294967296) (r : RowM) (hth : lk M.rows ip = some r) (hlt : M.wait ≤ r.toks.length) :
    Calls Tryz.prog 13 #[.pointer (some ⟨c, 0, none⟩), .int .u32 ip, .int .i64 token, .int .u64 now] w fun e w' =>
      e = .returned (.tuple #[.bool false, .int .i64 18]) ∧ Keep (fun _ => False) w w' := by
  obtain ⟨tl, tw, hr, hpl, hpw⟩ := h
  have hc5 : w.cell? ⟨c, 5, none⟩ = some (.map (some B.mr)) := hr.cells.cell (o := 5) (by omega)
  have hcl := hr.cells.lt
  have hcl1 : c < w.heap.size + 1 := by omega
  have Hth := Lib.hid hth
  have htok := hr.toks _ (mem_keys_of_lk hth)
  simp only at htok
  clear hth
  obtain ⟨rv, rt, ro, rd⟩ := r
  simp only at htok hlt
  obtain ⟨p, cap, rfl⟩ := slice_form htok.1
  go_enter Tryz.func13, Tryz.ntmps13
  go_wp2_with (at_lookup; refine wpList_lookup_ok_at rfl _ _ _ rfl kU32 und_rowmap (zrow _) rfl hr.rows ip rfl ?_; rw [Hth.out]; simp only [Option.map_some, Option.getD_some, Option.isSome_some, rowV])
  generalize hw1 : World.alloc w _ = w1
  have hr1 : CacheRaw w1 c M B tl tw := by rw [← hw1]; exact hr.alloc _
  have hk1 : Keep (fun _ => False) w w1 := by rw [← hw1]; exact (Keep.refl _ w).alloc _
  have hrb : w1.heap[w.heap.size]? = some (.cells #[.slice p rt.length cap, .int .i64 ro] 132 (0, 0)) := by
    rw [← hw1]; exact World.alloc_heap_new _ _
  clear hw1
  have hq0 : w1.cell? ⟨w.heap.size, 0, none⟩ = some (.slice p rt.length cap) := by simp [World.cell?, hrb]
  have hc1 : w1.cell? ⟨c, 1, none⟩ = some (.int .i64 M.wait) := hr1.cells.cell (o := 1) (by omega)
  have hlti : (M.wait : Int) ≤ rt.length := by omega
  have hltf : decide (M.wait ≤ rt.length) = true := decide_eq_true (by omega)
  have hltg : decide ((M.wait : Int) ≤ (rt.length : Int)) = true := decide_eq_true (by omega)
  have hcl3 := hr1.cells.lt
  have hrl : w.heap.size < w1.heap.size := lt_of_heap hrb
  go_quiet (fail)
  go_wp2_with fail
  exact bodyPost_ret (v := .tuple #[.bool false, .int .i64 18]) (by simp [results, Tryz.results13, go_sem]) rfl ⟨rfl, hk1.drewN _⟩

set_option maxRecDepth 100000 in
set_option maxHeartbeats 1000000 in
theorem wait_full (c : Nat) (ip token : Int) (now : Nat) (M : CM) (B : CB) (w : World) (h : CacheAt w c M B) (h0 : 0 ≤ ip) (h1 : ip < 4294967296) (hth : lk M.rows ip = none) (hlt : M.room ≤ M.rows.length) :
    Calls Tryz.prog 13 #[.pointer (some ⟨c, 0, none⟩), .int .u32 ip, .int .i64 token, .int .u64 now] w fun e w' =>
      e = .returned (.tuple #[.bool false, .int .i64 18]) ∧ Keep (fun _ => False) w w' := by
  obtain ⟨tl, tw, hr, hpl, hpw⟩ := h
  have hc5 : w.cell? ⟨c, 5, none⟩ = some (.map (some B.mr)) := hr.cells.cell (o := 5) (by omega)
  have hcl := hr.cells.lt
  have hcl1 : c < w.heap.size + 1 := by omega
  have Hth := Lib.hid hth
  clear hth
  go_enter Tryz.func13, Tryz.ntmps13
  go_wp2_with (at_lookup; refine wpList_lookup_ok_at rfl _ _ _ rfl kU32 und_rowmap (zrow _) rfl hr.rows ip rfl ?_; rw [Hth.out]; simp only [Option.map_none, Option.getD_none, Option.isSome_none, rowV])
  generalize hw1 : World.alloc w _ = w1
  have hr1 : CacheRaw w1 c M B tl tw := by rw [← hw1]; exact hr.alloc _
  have hk1 : Keep (fun _ => False) w w1 := by rw [← hw1]; exact (Keep.refl _ w).alloc _
  clear hw1
  have hc51 : w1.cell? ⟨c, 5, none⟩ = some (.map (some B.mr)) := hr1.cells.cell (o := 5) (by omega)
  have hc0 : w1.cell? ⟨c, 0, none⟩ = some (.int .i64 M.room) := hr1.cells.cell (o := 0) (by omega)
  have hln : ∀ ty n, (Builtin.len_ #[121] ty #[.map (some B.mr)]).run Tryz.prog (w1.drewN n) = .ok (.int .i64 M.rows.length) (w1.drewN n) := fun ty n => run_len_at und_rowmap (hr1.drewN n).rows ty
  have hlti : (M.room : Int) ≤ M.rows.length := by omega
  have hltf : decide (M.room ≤ M.rows.length) = true := decide_eq_true (by omega)
  have hltg : decide ((M.room : Int) ≤ (M.rows.length : Int)) = true := decide_eq_true (by omega)
  have hcl3 := hr1.cells.lt
  go_quiet (fail)
  go_wp2_with fail
  exact bodyPost_ret (v := .tuple #[.bool false, .int .i64 18]) (by simp [results, Tryz.results13, go_sem]) rfl ⟨rfl, hk1.drewN _⟩
end Go.Proofs.YtdacbgdinmaemaaGreatDoor

namespace Go.Proofs.YtdacbgdinmaemaaGreatDoor
open Go Go.RowKit Vz Go.Shelf

theorem CacheRaw.keepS {S : Nat → Prop} {w w' : World} {c : Nat} {M : CM} {B : CB} {tl tw : List (Int × Nat)} (h : CacheRaw w c M B tl tw) (hk : Keep S w w') (hn : ∀ i, B.fp c i → ¬ S i) (hT : ∀ p ∈ M.rows, ∀ g, p.2.v.ownBlock = some g → ¬ S g) : CacheRaw w' c M B tl tw :=
  ⟨h.cells.of_block (hk.block c h.cells.lt (hn c (.inl rfl))), h.ent.keep hk (hn _ (.inr (.inl rfl))), h.rows.keep hk (hn _ (.inr (.inr (.inl rfl)))),
   h.lives.keep hk (fun i hi => hn i (.inr (.inr (.inr (.inl hi))))), h.waits.keep hk (fun i hi => hn i (.inr (.inr (.inr (.inr hi))))),
   fun p hp => ⟨ownsRow_keep2 (h.toks p hp).1 hk (hT p hp), (h.toks p hp).2⟩, h.a1, h.a2, h.a3, h.a4⟩

set_option maxRecDepth 100000 in
set_option maxHeartbeats 1000000 in
theorem wait_new (c : Nat) (ip token : Int) (now : Nat) (M : CM) (B : CB) (w : World) (h : CacheAt w c M B) (h0 : 0 ≤ ip) (h1 : ip < 4294967296) (hth : lk M.rows ip = none) (hfree : M.rows.length < M.room) (hn : M.count < 4611686018427387904) (hpat : M.pat ≤ 4294967296) (hroom : M.rows.length ≤ 16383) :
    Calls Tryz.prog 13 #[.pointer (some ⟨c, 0, none⟩), .int .u32 ip, .int .i64 token, .int .u64 now] w fun e w' =>
      e = .returned (.tuple #[.bool true, .int .i64 0]) ∧ ∃ v', (∀ g, v'.ownBlock = some g → w.heap.size ≤ g) ∧ CachePost c { M with count := M.count + 1, rows := put M.rows ip ⟨v', [token], M.count + 1, tm61 now + M.pat⟩ } B w w' := by
  obtain ⟨i0, hi, hz0, hz1, hz2⟩ := info_parts int_info
  obtain ⟨tl, tw, hr, hpl, hpw⟩ := h
  have hc5 : w.cell? ⟨c, 5, none⟩ = some (.map (some B.mr)) := hr.cells.cell (o := 5) (by omega)
  have hcl := hr.cells.lt
  have hcl1 : c < w.heap.size + 1 := by omega
  have Hth := Lib.hid hth
  clear hth
  go_enter Tryz.func13, Tryz.ntmps13
  go_wp2_with (at_lookup; refine wpList_lookup_ok_at rfl _ _ _ rfl kU32 und_rowmap (zrow _) rfl hr.rows ip rfl ?_; rw [Hth.out]; simp only [Option.map_none, Option.getD_none, Option.isSome_none, rowV])
  generalize hw1 : World.alloc w _ = w1
  have hr1 : CacheRaw w1 c M B tl tw := by rw [← hw1]; exact hr.alloc _
  have hk1 : Keep (fun _ => False) w w1 := by rw [← hw1]; exact (Keep.refl _ w).alloc _
  have hrb : w1.heap[w.heap.size]? = some (.cells #[.slice none 0 0, .int .i64 0] 132 (0, 0)) := by
    rw [← hw1]; exact World.alloc_heap_new _ _
  clear hw1
  have hc51 : w1.cell? ⟨c, 5, none⟩ = some (.map (some B.mr)) := hr1.cells.cell (o := 5) (by omega)
  have hc0 : w1.cell? ⟨c, 0, none⟩ = some (.int .i64 M.room) := hr1.cells.cell (o := 0) (by omega)
  have hln : ∀ ty n, (Builtin.len_ #[121] ty #[.map (some B.mr)]).run Tryz.prog (w1.drewN n) = .ok (.int .i64 M.rows.length) (w1.drewN n) := fun ty n => run_len_at und_rowmap (hr1.drewN n).rows ty
  have hlti : (M.rows.length : Int) < M.room := by omega
  have hltf : decide (M.room ≤ M.rows.length) = false := decide_eq_false (by omega)
  have hltg : decide ((M.room : Int) ≤ (M.rows.length : Int)) = false := decide_eq_false (by omega)
  have hcl3 := hr1.cells.lt
  have hrl : w.heap.size < w1.heap.size := lt_of_heap hrb
  go_quiet (fail)
  generalize hw2 : World.drewN w1 _ = w2
  have hr2 : CacheRaw w2 c M B tl tw := by rw [← hw2]; exact hr1.drewN _
  have hk2 : Keep (fun _ => False) w w2 := by rw [← hw2]; exact hk1.drewN _
  have hrb2 : w2.heap[w.heap.size]? = some (.cells #[.slice none 0 0, .int .i64 0] 132 (0, 0)) := by rw [← hw2]; exact hrb
  clear hw2 hc51 hc0 hln hltf hltg hcl3 hrl hrb
  go_wp2_with fail
  have hmn : ¬ B.fp c w.heap.size := fun x => absurd (hr.lt x) (by omega)
  refine (next_any c M B tl tw w2 hr2 hn).mono ?_
  rintro e w3 ⟨rfl, hr3, hs3⟩
  have hrb3 := hs3.keep.heap hrb2 hmn
  have hq31 : w3.cell? ⟨w.heap.size, 1, none⟩ = some (.int .i64 0) := by simp [World.cell?, hrb3]
  have hf31 : w3.frozen? ⟨w.heap.size, 1, none⟩ = false := frozen_of hrb3 1
  have hrl3 : w.heap.size < w3.heap.size := lt_of_heap hrb3
  go_wp2_with fail
  generalize hw4 : World.setCell w3 _ _ = w4
  have hk34 : Keep (fun i => i = w.heap.size) w3 w4 := by rw [← hw4]; exact (Keep.refl (fun i => i = w.heap.size) w3).setCell (p := ⟨w.heap.size, 1, none⟩) (fun _ => rfl) _
  have hrb4 : w4.heap[w.heap.size]? = some (.cells #[.slice none 0 0, .int .i64 (M.count + 1 : Nat)] 132 (0, 0)) := by
    rw [← hw4]; simp only [World.setCell, Array.getElem?_modify, hrb3]; simp
  have hr4 : CacheRaw w4 c { M with count := M.count + 1 } B tl tw := hr3.keepS hk34 (fun i hi e => hmn (e ▸ hi)) (fun p hp g hg e => by
    have h5 := ownBlock_lt (hr.toks p hp).1 hg; omega)
  have hc6 : w4.cell? ⟨c, 7, none⟩ = some (.pointer (some ⟨B.bw, 0, none⟩)) := hr4.cells.cell (o := 7) (by omega)
  have hc2 : w4.cell? ⟨c, 3, none⟩ = some (.int .u64 M.pat) := hr4.cells.cell (o := 3) (by omega)
  obtain ⟨d, hd⟩ : ∃ d : Nat, d = tm61 now + M.pat := ⟨_, rfl⟩
  have hdw : IntKind.u64.wrap (min (now : Int) 2305843009213693952 + (M.pat : Int)) = (d : Int) := by rw [IntKind.wrap_u64]; unfold tm61 at hd; omega
  have hcv : IntKind.i64.wrap ip = ip := by rw [IntKind.wrap_i64]; omega
  have hcl4 : c < w4.heap.size := hr4.cells.lt
  have hdb : d ≤ 4611686018427387904 := by unfold tm61 at hd; omega
  have Hd := Lib.hid hd
  clear hd hw4 hq31 hf31 hrl3 hrb3 hrb2
  refine wp_region_still_tail 14 (by kernel_rfl) (by kernel_rfl) ?_
  simp only [List.take_succ_cons, List.take_zero, List.drop_succ_cons, List.drop_zero, World.drew_eq]
  repeat still_step
  refine wpStill_nil ?_
  go_wp2_with fail
  refine (set_ok B.bw 0 d ip tw B.WW w4.drew (hr4.drewN 1).waits hdb (.inr (by have := hpw.length_eq; unfold waitT at this; simp at this; omega))).mono ?_
  rintro e w5 ⟨rfl, hp5⟩
  obtain ⟨W, hr5, hs5⟩ := (hr4.drewN 1).setWaits hp5
  have hs04 : Step c B w B w4 := ⟨((hk2.trans hs3.keep (fun _ h => h.elim) (fun i _ e => e)).trans hk34 (fun _ h => h) (fun i hi e => absurd hi (by omega))), fun i hi => .inl hi⟩
  have hs44 : Step c B w4 B w4.drew := ⟨(Keep.refl _ w4).drewN 1, fun _ h => .inl h⟩
  have hs05 := (hs04.trans hs44).trans hs5
  have hl4 : w.heap.size < w4.drew.heap.size := lt_of_heap (w := w4.drew) hrb4
  have hrb5 := hs5.keep.heap (b := w.heap.size) (w := w4.drew) hrb4 hmn
  have hrl5 : w.heap.size < w5.heap.size := lt_of_heap hrb5
  have hq5 : w5.cell? ⟨w.heap.size, 0, none⟩ = some (.slice none 0 0) := by simp [World.cell?, hrb5]
  have hz05 : w.heap.size + 1 ≤ w5.heap.size := hrl5
  clear hc6 hc2 hdw hcl4 hp5
  go_wp2_with fail
  refine (clone_toks (.slice none 0 0) [] w5 (World.ownsRow_nil _ _ _ _) (by simp)).mono ?_
  rintro e w6 ⟨v6, rfl, hrow6, hb6⟩
  have hk6 := Below.keep0 hb6
  have hrb6 := hk6.heap hrb5 (fun h => h)
  have hz6 := hb6.size
  go_wp2_with (at_builtin; refine wpList_append_own _ rfl _ _ 35 rfl w5.heap.size 3 i0 (ki 0) 1 8 Tryz.underlying35 hi hz0 hz1 hz2 rfl (by decide) _ _ _ rfl (hrow6.alloc _) ⟨w6.heap.size, 0, none⟩ 1 1 [ki token] rfl rfl (cell_one_new _ _ _) (by simp [Value.oneCell']) (by unfold maxLen; simp) (by simp) (by simp; omega) ?_; intro v7 w7 hown7 hgrow7 _; obtain ⟨g7, cap7, rfl⟩ := ownsRow_succ hown7; have hk7 := app_keep hrow6 hgrow7; have hrb7 := hk7.heap hrb6 (Nat.not_le.2 hrl5); have hf7 : w7.frozen? ⟨w.heap.size, 0, none⟩ = false := frozen_of hrb7 0; have hk57 : Keep (fun _ => False) w5 w7 := hk6.trans hk7 (fun _ h => h) (fun i hi e => absurd hi (Nat.not_lt.2 e)); clear hrb6 hrb5 hb6 hk6 hgrow7; have hq7 : w7.cell? ⟨w.heap.size, 0, none⟩ = some (.slice none 0 0) := by simp [World.cell?, hrb7])
  generalize hw8 : World.setCell w7 _ _ = w8
  have hr7 : CacheRaw w7 c { M with count := M.count + 1 } { B with WW := W } tl (setT tw ip d) := hr5.keep hk57 (fun _ _ h => h)
  have hk78 : Keep (fun i => i = w.heap.size) w7 w8 := by rw [← hw8]; exact (Keep.refl (fun i => i = w.heap.size) w7).setCell (p := ⟨w.heap.size, 0, none⟩) (fun _ => rfl) _
  have hmn5 : ¬ CB.fp { B with WW := W } c w.heap.size := fun x => by
    rcases hs5.fp _ x with x | x
    · exact hmn x
    · have e : (w4.drewN 1).heap.size = w4.drew.heap.size := rfl
      omega
  have hr8 : CacheRaw w8 c { M with count := M.count + 1 } { B with WW := W } tl (setT tw ip d) := hr7.keepS hk78 (fun i hi e => hmn5 (e ▸ hi)) (fun p hp g hg e => by
    have h5 := ownBlock_lt (hr.toks p hp).1 hg; omega)
  have g80 : w8.cell? ⟨w.heap.size, 0, none⟩ = some (.slice (some ⟨g7, 0, none⟩) (0 + 1) cap7) := by rw [← hw8]; exact World.cell?_setCell_same _ _ _ hq7
  have g81 : w8.cell? ⟨w.heap.size, 1, none⟩ = some (.int .i64 (M.count + 1 : Nat)) := by
    rw [← hw8, World.cell?_setCell_other _ _ _ _ (by simp)]; simp [World.cell?, hrb7]
  have hg7 : w5.heap.size ≤ g7 := by
    rcases hown7.2 with ⟨hx, _⟩ | ⟨_, _, _, hx, hy, _⟩
    · cases hx
    · cases hx; exact hy
  have htk : TokAt w8 (CB.fp { B with WW := W } c) (.slice (some ⟨g7, 0, none⟩) (0 + 1) cap7) [token] := by
    refine ⟨?_, fun g hg hf => ?_⟩
    · have h5 := ownsRow_mono0 hown7
      have h6 := ownsRow_keep2 h5 hk78 (fun g hg e => by simp [Value.ownBlock] at hg; omega)
      simpa using h6
    · simp [Value.ownBlock] at hg; subst hg
      have := hr5.lt hf; omega
  have hk08 : Keep (B.fp c) w w8 := ((hs05.keep.trans hk57 (fun _ h => h) (fun _ _ h => h.elim)).trans hk78 (fun _ h => h) (fun i hi e => absurd hi (by omega)))
  have hc85 : w8.cell? ⟨c, 5, none⟩ = some (.map (some B.mr)) := hr8.cells.cell (o := 5) (by omega)
  have hcl8 := hr8.cells.lt
  clear hw8 hq7 hf7 hrb7 hq5
  refine wp_region_still_tail 6 (by kernel_rfl) (by kernel_rfl) ?_
  simp only [List.take_succ_cons, List.take_zero, List.drop_succ_cons, List.drop_zero, World.drew_eq]
  repeat still_step
  refine wpStill_nil ?_
  refine wpList_update_at rfl _ _ _ _ rfl kU32 und_rowmap rfl ((hr8.drewN 1).rows) ip rfl (⟨.slice (some ⟨g7, 0, none⟩) (0 + 1) cap7, [token], M.count + 1, d⟩ : RowM) rfl ?_
  intro w9 hat9 hk9 hz9
  go_wp2_with fail
  refine bodyPost_ret (v := .tuple #[.bool true, .int .i64 0]) (by simp [results, Tryz.results13, go_sem]) rfl ?_
  rw [← Hd.out]
  refine ⟨rfl, _, (fun g hg => by simp [Value.ownBlock] at hg; omega), { B with WW := W }, ⟨tl, setT tw ip d, ((hr8.drewN 1).setRows hk9 hat9 (fun p hp => ?_)).1, hpl, ?_⟩, ?_⟩
  · rcases mem_put hp with rfl | hp
    · exact htk
    · exact hr8.toks p hp
  · exact setW_perm hr.waits.nodup hpw ip (⟨.slice (some ⟨g7, 0, none⟩) (0 + 1) cap7, [token], M.count + 1, d⟩ : RowM)
  · exact ⟨((hk08.drewN 1).trans hk9 (fun _ h => h) (fun i _ e => (.inr (.inr (.inl e)) : B.fp c i))), fun i hi => hs05.fp i hi⟩
end Go.Proofs.YtdacbgdinmaemaaGreatDoor

namespace Go.Proofs.YtdacbgdinmaemaaGreatDoor
open Go Go.RowKit Vz Go.Shelf

/-- what holds of a cache's knowledge behind n calls -/
structure WF (M : CM) (room wait life pat n : Nat) : Prop where
  p1 : M.room = room
  p2 : M.wait = wait
  p3 : M.life = life
  p4 : M.pat = pat
  el : M.ent.length ≤ room
  rl : M.rows.length ≤ room
  cn : M.count ≤ n
  ek : ∀ p ∈ M.ent, (0 ≤ p.1 ∧ p.1 < 4294967296) ∧ 1 ≤ p.2.order ∧ p.2.order ≤ M.count
  rk : ∀ p ∈ M.rows, (0 ≤ p.1 ∧ p.1 < 4294967296) ∧ 1 ≤ p.2.order ∧ p.2.order ≤ M.count
  rt : ∀ p ∈ M.rows, 1 ≤ p.2.toks.length ∧ p.2.toks.length ≤ wait
  eo : (M.ent.map (fun p => p.2.order)).Nodup
  ro : (M.rows.map (fun p => p.2.order)).Nodup
  kn : (keys M.ent).Nodup ∧ (keys M.rows).Nodup

variable {M M' : CM} {room wait life pat n : Nat}

theorem WF.start (room wait life pat : Nat) : WF ⟨room, wait, life, pat, 0, [], []⟩ room wait life pat 0 :=
  ⟨rfl, rfl, rfl, rfl, Nat.zero_le _, Nat.zero_le _, Nat.le_refl _, by simp, by simp, by simp, by simp, by simp, by simp [keys]⟩
theorem WF.mono (h : WF M room wait life pat n) {k : Nat} (hk : n ≤ k) : WF M room wait life pat k :=
  { h with cn := Nat.le_trans h.cn hk }
/-- what a filter leaves -/
theorem WF.sub (h : WF M room wait life pat n) {E : List (Int × Ent)} {R : List (Int × RowM)} (hE : E.Sublist M.ent) (hR : R.Sublist M.rows) : WF { M with ent := E, rows := R } room wait life pat n :=
  ⟨h.p1, h.p2, h.p3, h.p4, Nat.le_trans hE.length_le h.el, Nat.le_trans hR.length_le h.rl, h.cn, fun p hp => h.ek p (hE.subset hp), fun p hp => h.rk p (hR.subset hp), fun p hp => h.rt p (hR.subset hp),
   (hE.map _).nodup h.eo, (hR.map _).nodup h.ro, (hE.map _).nodup h.kn.1, (hR.map _).nodup h.kn.2⟩
theorem put_ord {ν : Type} (f : ν → Nat) {l : List (Int × ν)} (h : (l.map (fun p => f p.2)).Nodup) (k : Int) {v : ν} (hv : ∀ p ∈ l, f p.2 ≠ f v) : ((put l k v).map (fun p => f p.2)).Nodup := by
  have hp := (put_perm l k v).map (fun p => f p.2)
  rw [hp.nodup_iff, List.map_append, List.nodup_append]
  refine ⟨((keys_del_sub l k).map _).nodup h, by simp, fun a ha b hb => ?_⟩
  obtain ⟨p, hp, rfl⟩ := List.mem_map.1 ha
  simp at hb; subst hb
  exact hv p ((keys_del_sub l k).subset hp)
theorem mem_put2 {ν : Type} {l : List (Int × ν)} {k : Int} {v : ν} {p : Int × ν} (h : p ∈ put l k v) : p = (k, v) ∨ p ∈ l := mem_put h
theorem length_put_le {ν : Type} (l : List (Int × ν)) (k : Int) (v : ν) : (put l k v).length ≤ l.length + 1 := by
  rw [length_put]; split <;> omega

/-- a neighbour was learned -/
def Learned (M : CM) (ip : Int) (mac : Mac6) (now : Nat) (M' : CM) : Prop :=
  ∃ E : List (Int × Ent), (E = M.ent ∧ ((lk M.ent ip).isSome = true ∨ M.ent.length < M.room) ∨ ∃ m, lk M.ent ip = none ∧ M.room ≤ M.ent.length ∧ m ∈ keys M.ent ∧ (∀ p ∈ M.ent, ordIn M.ent m ≤ p.2.order) ∧ E = del M.ent m) ∧
    M' = { M with count := M.count + 1, ent := put E ip ⟨mac, M.count + 1, tm61 now + M.life⟩, rows := del M.rows ip }

theorem WF.learned (h : WF M room wait life pat n) {ip : Int} {mac : Mac6} {now : Nat} (h0 : 0 ≤ ip) (h1 : ip < 4294967296) (hr : 1 ≤ room) (hL : Learned M ip mac now M') : WF M' room wait life pat (n + 1) := by
  obtain ⟨E, hE, rfl⟩ := hL
  have hsub : E.Sublist M.ent := by
    rcases hE with ⟨rfl, _⟩ | ⟨m, _, _, _, _, rfl⟩
    · exact List.Sublist.refl _
    · exact keys_del_sub _ _
  have hlen : (put E ip (⟨mac, M.count + 1, tm61 now + M.life⟩ : Ent)).length ≤ room := by
    have hp := h.p1
    have hel := h.el
    rcases hE with ⟨rfl, h2 | h2⟩ | ⟨m, _, h2, h3, _, rfl⟩
    · rw [length_put, has_eq, h2, if_pos rfl]; exact hel
    · have := length_put_le M.ent ip (⟨mac, M.count + 1, tm61 now + M.life⟩ : Ent); omega
    · have := length_put_le (del M.ent m) ip (⟨mac, M.count + 1, tm61 now + M.life⟩ : Ent)
      have hd : (del M.ent m).length = M.ent.length - 1 := by rw [length_del, mem_keys.1 h3, if_pos rfl]
      have : 0 < M.ent.length := by
        rcases Nat.eq_zero_or_pos M.ent.length with e | e
        · rw [List.length_eq_zero_iff] at e; rw [e] at h3; simp [keys] at h3
        · exact e
      omega
  have hdel := keys_del_sub M.rows ip
  refine ⟨h.p1, h.p2, h.p3, h.p4, hlen, Nat.le_trans hdel.length_le h.rl, by have := h.cn; simp only; omega, fun p hp => ?_, fun p hp => ?_, fun p hp => h.rt p (hdel.subset hp),
    put_ord (fun e : Ent => e.order) ((hsub.map _).nodup h.eo) ip (fun p hp => ?_), (hdel.map _).nodup h.ro, nodup_put ((hsub.map _).nodup h.kn.1) _ _, nodup_del h.kn.2 _⟩
  · rcases mem_put hp with rfl | hp
    · exact ⟨⟨h0, h1⟩, by simp only; omega, by simp only; omega⟩
    · have := h.ek p (hsub.subset hp); exact ⟨this.1, this.2.1, by simp only; omega⟩
  · have := h.rk p (hdel.subset hp); exact ⟨this.1, this.2.1, by simp only; omega⟩
  · have := h.ek p (hsub.subset hp); simp only; omega

def toksAt (M : CM) (ip : Int) : List Int := ((lk M.rows ip).map RowM.toks).getD []
theorem toksAt_del (c : Nat) (B B' : CB) (w w' : World) (ip : Int) (h : CacheAt w c M B) (hs : Step c B w B' w') : TokAt w' (B'.fp c) (((lk M.rows ip).map RowM.v).getD (.slice none 0 0)) (toksAt M ip) := by
  obtain ⟨tl, tw, hr, _, _⟩ := h
  unfold toksAt
  cases hl : lk M.rows ip with
  | none => exact ⟨World.ownsRow_nil _ _ _ _, fun g hg => by simp [Value.ownBlock] at hg⟩
  | some r => exact (hr.toks _ (mem_keys_of_lk hl)).step hs.keep (fun _ _ h => h) hs.fp

theorem learn_any (c : Nat) (ip : Int) (mac : Mac6) (now : Nat) (M : CM) (B : CB) (w : World) (room wait life pat n : Nat) (h : CacheAt w c M B) (hW : WF M room wait life pat n) (h0 : 0 ≤ ip) (h1 : ip < 4294967296) (hn : n < 4611686018427387904) (hlife : life ≤ 4294967296) (hr1 : 1 ≤ room) (hr2 : room ≤ 256) :
    Calls Tryz.prog 12 #[.pointer (some ⟨c, 0, none⟩), .int .u32 ip, macV mac, .int .u64 now] w fun e w' =>
      ∃ v M' B', e = .returned v ∧ Learned M ip mac now M' ∧ WF M' room wait life pat (n + 1) ∧ CacheAt w' c M' B' ∧ Step c B w B' w' ∧ TokAt w' (B'.fp c) v (toksAt M ip) := by
  have e1 := hW.p1; have e3 := hW.p3; have e4 := hW.cn; have e5 := hW.el
  cases hl : lk M.ent ip with
  | some e0 =>
    refine (learn_there c ip mac now M B w h h0 h1 (by omega) (by omega) (by omega) e0 hl).mono ?_
    rintro e w' ⟨rfl, B', hA, hs⟩
    have hL : Learned M ip mac now { setEntM M ip mac now with rows := del M.rows ip } := ⟨M.ent, .inl ⟨rfl, .inl (by rw [hl]; rfl)⟩, rfl⟩
    exact ⟨_, _, B', rfl, hL, hW.learned h0 h1 hr1 hL, hA, hs, toksAt_del c B B' w w' ip h hs⟩
  | none =>
    by_cases hf : M.ent.length < M.room
    · refine (learn_new c ip mac now M B w h h0 h1 (by omega) (by omega) (by omega) hl hf).mono ?_
      rintro e w' ⟨rfl, B', hA, hs⟩
      have hL : Learned M ip mac now { setEntM M ip mac now with rows := del M.rows ip } := ⟨M.ent, .inl ⟨rfl, .inr hf⟩, rfl⟩
      exact ⟨_, _, B', rfl, hL, hW.learned h0 h1 hr1 hL, hA, hs, toksAt_del c B B' w w' ip h hs⟩
    · refine (learn_full c ip mac now M B w h h0 h1 (by omega) (by omega) (by omega) hl (by omega) (fun e => by rw [e] at hf; simp at hf; omega) (fun k hk => ?_)).mono ?_
      · obtain ⟨p, hp, rfl⟩ := List.mem_map.1 hk; exact (hW.ek p hp).1
      · rintro e w' ⟨m, hm, hmin, rfl, B', hA, hs⟩
        have hL : Learned M ip mac now { setEntM { M with ent := del M.ent m } ip mac now with rows := del M.rows ip } := ⟨del M.ent m, .inr ⟨m, hl, by omega, hm, hmin, rfl⟩, rfl⟩
        exact ⟨_, _, B', rfl, hL, hW.learned h0 h1 hr1 hL, hA, hs, toksAt_del c B B' w w' ip h hs⟩

/-- a token waits, or not: what is answered -/
def waitsFirst (M : CM) (ip : Int) : Bool := (lk M.rows ip).isNone && decide (M.rows.length < M.room)
def waitsOk (M : CM) (ip : Int) : Bool := match lk M.rows ip with | some r => decide (r.toks.length < M.wait) | none => decide (M.rows.length < M.room)
def Waited (M : CM) (ip token : Int) (now : Nat) (M' : CM) : Prop :=
  if waitsOk M ip then match lk M.rows ip with
    | some r => ∃ v', M' = { M with rows := put M.rows ip ⟨v', r.toks ++ [token], r.order, r.due⟩ }
    | none => ∃ v', M' = { M with count := M.count + 1, rows := put M.rows ip ⟨v', [token], M.count + 1, tm61 now + M.pat⟩ }
  else M' = M

theorem put_same_ord {ν : Type} (f : ν → Nat) : ∀ {l : List (Int × ν)} {k : Int} {r v : ν}, lk l k = some r → f v = f r → (put l k v).map (fun p => f p.2) = l.map (fun p => f p.2)
  | [], _, _, _, h, _ => by cases h
  | p :: l, k, r, v, h, hf => by
    rw [lk_cons] at h
    unfold put
    by_cases e : p.1 = k
    · rw [if_pos e] at h ⊢; cases h; simp [hf]
    · rw [if_neg e] at h ⊢; simp only [List.map_cons]; rw [put_same_ord f h hf]

theorem WF.waited (h : WF M room wait life pat n) {ip token : Int} {now : Nat} (h0 : 0 ≤ ip) (h1 : ip < 4294967296) (hw : 1 ≤ wait) (hL : Waited M ip token now M') : WF M' room wait life pat (n + 1) := by
  unfold Waited at hL
  by_cases hok : waitsOk M ip = true
  · rw [if_pos hok] at hL
    unfold waitsOk at hok
    have hp1 := h.p1; have hp2 := h.p2; have hcn := h.cn; have hrl := h.rl
    cases hl : lk M.rows ip with
    | some r =>
      rw [hl] at hL hok
      obtain ⟨v', rfl⟩ := hL
      have hm := mem_keys_of_lk hl
      have hlt : r.toks.length < M.wait := by simpa using hok
      refine ⟨h.p1, h.p2, h.p3, h.p4, h.el, ?_, by simp only; omega, h.ek, fun p hp => ?_, fun p hp => ?_, h.eo, ?_, h.kn.1, nodup_put h.kn.2 _ _⟩
      · rw [length_put, has_eq, hl]; exact h.rl
      · rcases mem_put hp with rfl | hp
        · have := h.rk (ip, r) hm; exact this
        · exact h.rk p hp
      · rcases mem_put hp with rfl | hp
        · simp only [List.length_append, List.length_singleton]; omega
        · exact h.rt p hp
      · have := put_same_ord (fun r : RowM => r.order) (v := ⟨v', r.toks ++ [token], r.order, r.due⟩) hl rfl
        simp only at this ⊢
        rw [this]; exact h.ro
    | none =>
      rw [hl] at hL hok
      obtain ⟨v', rfl⟩ := hL
      have hlt : M.rows.length < M.room := by simpa using hok
      refine ⟨h.p1, h.p2, h.p3, h.p4, h.el, ?_, by simp only; omega, fun p hp => ?_, fun p hp => ?_, fun p hp => ?_, h.eo, put_ord (fun r : RowM => r.order) h.ro ip (fun p hp => ?_), h.kn.1, nodup_put h.kn.2 _ _⟩
      · have := length_put_le M.rows ip (⟨v', [token], M.count + 1, tm61 now + M.pat⟩ : RowM); simp only; omega
      · have := h.ek p hp; exact ⟨this.1, this.2.1, by simp only; omega⟩
      · rcases mem_put hp with rfl | hp
        · exact ⟨⟨h0, h1⟩, by simp only; omega, by simp only; omega⟩
        · have := h.rk p hp; exact ⟨this.1, this.2.1, by simp only; omega⟩
      · rcases mem_put hp with rfl | hp
        · simp only [List.length_singleton]; omega
        · exact h.rt p hp
      · have := h.rk p hp; simp only; omega
  · rw [if_neg hok] at hL; subst hL; exact h.mono (Nat.le_succ n)

/-- the blocks of the tokens that wait -/
def TB (M : CM) (g : Nat) : Prop := ∃ p ∈ M.rows, p.2.v.ownBlock = some g
theorem TB_put {M : CM} {ip : Int} {r : RowM} {k cnt : Nat} (h : ∀ g, r.v.ownBlock = some g → k ≤ g) (g : Nat) (hg : TB { M with count := cnt, rows := put M.rows ip r } g) : TB M g ∨ k ≤ g := by
  obtain ⟨p, hp, hb⟩ := hg
  rcases mem_put hp with rfl | hp
  · exact .inr (h g hb)
  · exact .inl ⟨p, hp, hb⟩
theorem TB_sub {M M' : CM} (h : ∀ p ∈ M'.rows, p ∈ M.rows) {g : Nat} (hg : TB M' g) : TB M g := by
  obtain ⟨p, hp, hb⟩ := hg; exact ⟨p, h p hp, hb⟩
theorem CacheAt.keepAll {w w' : World} {c : Nat} {B : CB} (h : CacheAt w c M B) (hk : Keep (fun _ => False) w w') : CacheAt w' c M B ∧ Step c B w B w' :=
  ⟨h.keep hk (fun _ _ h => h), hk.mono (fun _ _ h => h.elim), fun _ h => .inl h⟩

theorem wait_any (c : Nat) (ip token : Int) (now : Nat) (M : CM) (B : CB) (w : World) (room wait life pat n : Nat) (h : CacheAt w c M B) (hW : WF M room wait life pat n) (h0 : 0 ≤ ip) (h1 : ip < 4294967296) (hn : n < 4611686018427387904) (hpat : pat ≤ 4294967296) (hr2 : room ≤ 256) (hw1 : 1 ≤ wait) (hw2 : wait ≤ 64) :
    Calls Tryz.prog 13 #[.pointer (some ⟨c, 0, none⟩), .int .u32 ip, .int .i64 token, .int .u64 now] w fun e w' =>
      ∃ M' B', e = .returned (.tuple #[.bool (waitsFirst M ip), .int .i64 (if waitsOk M ip then 0 else 18)]) ∧ Waited M ip token now M' ∧ WF M' room wait life pat (n + 1) ∧ CacheAt w' c M' B' ∧ Step c B w B' w' ∧ (∀ g, TB M' g → TB M g ∨ w.heap.size ≤ g) := by
  have e1 := hW.p1; have e2 := hW.p2; have e4 := hW.cn; have e5 := hW.rl; have e6 := hW.p4
  cases hl : lk M.rows ip with
  | some r =>
    by_cases hf : r.toks.length < M.wait
    · refine (wait_there c ip token now M B w h h0 h1 r hl hf (by omega)).mono ?_
      rintro e w' ⟨rfl, v', hfr, B', hA, hs⟩
      have hok : waitsOk M ip = true := by unfold waitsOk; rw [hl]; simpa using hf
      have hL : Waited M ip token now { M with rows := put M.rows ip ⟨v', r.toks ++ [token], r.order, r.due⟩ } := by unfold Waited; rw [if_pos hok, hl]; exact ⟨v', rfl⟩
      exact ⟨_, B', by rw [if_pos hok]; unfold waitsFirst; rw [hl]; rfl, hL, hW.waited h0 h1 hw1 hL, hA, hs, fun g hg => TB_put (M := M) hfr g hg⟩
    · refine (wait_most c ip token now M B w h h0 h1 r hl (by omega)).mono ?_
      rintro e w' ⟨rfl, hk⟩
      have hok : ¬ waitsOk M ip = true := by unfold waitsOk; rw [hl]; simpa using hf
      have hL : Waited M ip token now M := by unfold Waited; rw [if_neg hok]
      exact ⟨_, B, by rw [if_neg hok]; unfold waitsFirst; rw [hl]; rfl, hL, hW.waited h0 h1 hw1 hL, (h.keepAll hk).1, (h.keepAll hk).2, fun g hg => .inl hg⟩
  | none =>
    by_cases hf : M.rows.length < M.room
    · refine (wait_new c ip token now M B w h h0 h1 hl hf (by omega) (by omega) (by omega)).mono ?_
      rintro e w' ⟨rfl, v', hfr, B', hA, hs⟩
      have hok : waitsOk M ip = true := by unfold waitsOk; rw [hl]; simpa using hf
      have hL : Waited M ip token now { M with count := M.count + 1, rows := put M.rows ip ⟨v', [token], M.count + 1, tm61 now + M.pat⟩ } := by unfold Waited; rw [if_pos hok, hl]; exact ⟨v', rfl⟩
      exact ⟨_, B', by rw [if_pos hok]; unfold waitsFirst; rw [hl]; simp [hf], hL, hW.waited h0 h1 hw1 hL, hA, hs, fun g hg => TB_put (M := M) hfr g hg⟩
    · refine (wait_full c ip token now M B w h h0 h1 hl (by omega)).mono ?_
      rintro e w' ⟨rfl, hk⟩
      have hok : ¬ waitsOk M ip = true := by unfold waitsOk; rw [hl]; simpa using hf
      have hL : Waited M ip token now M := by unfold Waited; rw [if_neg hok]
      exact ⟨_, B, by rw [if_neg hok]; unfold waitsFirst; rw [hl]; simp [hf], hL, hW.waited h0 h1 hw1 hL, (h.keepAll hk).1, (h.keepAll hk).2, fun g hg => .inl hg⟩
end Go.Proofs.YtdacbgdinmaemaaGreatDoor

namespace Go.Proofs.YtdacbgdinmaemaaGreatDoor
open Go Go.RowKit Vz Go.Shelf Go.Sort

/-- the timers that are over, in order -/
def Overs (tm : List (Int × Nat)) (t : Nat) (xs : List Int) : Prop := xs.Perm (keys (tm.filter (fun p => p.2 ≤ t))) ∧ xs.Pairwise (fun x y => cmpDue tm x y < 0)

theorem dueIn_perm {a b : List (Int × Nat)} (hn : (keys a).Nodup) (hp : a.Perm b) (x : Int) : dueIn a x = dueIn b x := by
  unfold dueIn; rw [lk_perm hn hp]
theorem cmpDue_perm {a b : List (Int × Nat)} (hn : (keys a).Nodup) (hp : a.Perm b) (x y : Int) : cmpDue a x y < 0 ↔ cmpDue b x y < 0 := by
  rw [cmpDue_lt, cmpDue_lt, dueIn_perm hn hp x, dueIn_perm hn hp y]
theorem Overs.perm {a b : List (Int × Nat)} {t : Nat} {xs : List Int} (h : Overs a t xs) (hn : (keys a).Nodup) (hp : a.Perm b) : Overs b t xs :=
  ⟨h.1.trans ((hp.filter _).map _), h.2.imp (fun hx => (cmpDue_perm hn hp _ _).1 hx)⟩
theorem Overs.unique {a : List (Int × Nat)} {t : Nat} {xs ys : List Int} (h : Overs a t xs) (k : Overs a t ys) : xs = ys :=
  perm_asc (r := fun x y => cmpDue a x y < 0) (fun x y h1 h2 => by rw [cmpDue_lt] at h1 h2; omega) (h.1.trans k.1.symm) h.2 k.2
theorem Overs.mem {a : List (Int × Nat)} (hn : (keys a).Nodup) {t : Nat} {xs : List Int} (h : Overs a t xs) {x : Int} : x ∈ xs ↔ ∃ d, lk a x = some d ∧ d ≤ t := by
  rw [h.1.mem_iff]
  constructor
  · intro hx
    obtain ⟨p, hp, rfl⟩ := List.mem_map.1 hx
    rw [List.mem_filter] at hp
    exact ⟨p.2, lk_of_mem hn (k := p.1) (v := p.2) hp.1, by simpa using hp.2⟩
  · rintro ⟨d, h1, h2⟩
    exact List.mem_map.2 ⟨(x, d), List.mem_filter.2 ⟨mem_keys_of_lk h1, by simpa using h2⟩, rfl⟩

theorem lk_filterD {ν : Type} {l : List (Int × ν)} (hn : (keys l).Nodup) (q : Int × ν → Bool) (t : Int) : lk (l.filter q) t = (lk l t).bind fun d => if q (t, d) then some d else none := by
  have hn2 : (keys (l.filter q)).Nodup := (List.filter_sublist.map _).nodup hn
  cases h : lk l t with
  | none =>
    show _ = none
    rw [lk_eq_none] at h ⊢
    exact fun hx => h ((List.filter_sublist.map Prod.fst).subset hx)
  | some d =>
    show _ = if q (t, d) then some d else none
    have hm := mem_keys_of_lk h
    by_cases hq : q (t, d) = true
    · rw [if_pos hq]; exact lk_of_mem hn2 (List.mem_filter.2 ⟨hm, hq⟩)
    · rw [if_neg hq, lk_eq_none]
      intro hx
      obtain ⟨p, hp, e⟩ := List.mem_map.1 hx
      rw [List.mem_filter] at hp
      have : lk l t = some p.2 := lk_of_mem hn (by rw [← e]; exact hp.1)
      rw [h] at this; cases this
      exact hq (by rw [← e]; exact hp.2)

/-- a sweep at t, and one at t' behind it: one at t' -/
theorem Overs.split {a : List (Int × Nat)} (hn : (keys a).Nodup) {t t' : Nat} (ht : t ≤ t') {xs ys : List Int} (h : Overs a t xs) (k : Overs (a.filter (fun p => t < p.2)) t' ys) : Overs a t' (xs ++ ys) := by
  have hn2 : (keys (a.filter (fun p => t < p.2))).Nodup := (List.filter_sublist.map _).nodup hn
  have hdue : ∀ x ∈ ys, dueIn (a.filter (fun p => t < p.2)) x = dueIn a x ∧ t < dueIn a x := by
    intro x hx
    obtain ⟨d, h1, h2⟩ := (k.mem hn2).1 hx
    have h3 := h1
    rw [lk_filterD hn] at h3
    cases hl : lk a x with
    | none => rw [hl] at h3; cases h3
    | some d' =>
      rw [hl] at h3
      simp only [Option.bind_some] at h3
      split at h3
      · rename_i hq; cases h3
        unfold dueIn; rw [h1, hl]; exact ⟨rfl, by simpa using hq⟩
      · cases h3
  refine ⟨?_, ?_⟩
  · have e : (keys (a.filter (fun p => p.2 ≤ t)) ++ keys ((a.filter (fun p => t < p.2)).filter (fun p => p.2 ≤ t'))).Perm (keys (a.filter (fun p => p.2 ≤ t'))) := by
      unfold keys
      rw [← List.map_append]
      refine List.Perm.map _ ?_
      have h1 := List.filter_append_perm (fun p : Int × Nat => decide (p.2 ≤ t)) (a.filter (fun p => p.2 ≤ t'))
      refine List.Perm.trans ?_ h1
      rw [List.filter_filter, List.filter_filter, List.filter_filter]
      refine List.Perm.append (List.Perm.of_eq (List.filter_congr fun p _ => ?_)) (List.Perm.of_eq (List.filter_congr fun p _ => ?_))
      · by_cases h2 : p.2 ≤ t <;> by_cases h3 : p.2 ≤ t' <;> simp [h2, h3]; omega
      · by_cases h2 : p.2 ≤ t <;> by_cases h3 : p.2 ≤ t' <;> simp [h2, h3] <;> omega
    exact (h.1.append k.1).trans e
  · rw [List.pairwise_append]
    refine ⟨h.2, List.Pairwise.imp_of_mem (fun {x y} hx hy hxy => ?_) k.2, fun x hx y hy => ?_⟩
    · rw [cmpDue_lt, (hdue x hx).1, (hdue y hy).1] at hxy; rw [cmpDue_lt]; exact hxy
    · obtain ⟨d, h1, h2⟩ := (h.mem hn).1 hx
      have h3 := (hdue y hy).2
      have h4 : dueIn a x = d := by unfold dueIn; rw [h1]; rfl
      rw [cmpDue_lt]; omega

theorem flatMap_congrM {α β : Type} {f g : α → List β} : ∀ {l : List α}, (∀ x ∈ l, f x = g x) → l.flatMap f = l.flatMap g
  | [], _ => rfl
  | x :: l, h => by rw [List.flatMap_cons, List.flatMap_cons, h x (List.mem_cons_self ..), flatMap_congrM (l := l) fun y hy => h y (List.mem_cons_of_mem _ hy)]

/-- what a sweep leaves -/
def sweptM (M : CM) (t : Nat) : CM := { M with ent := M.ent.filter (fun p => t < p.2.due), rows := M.rows.filter (fun p => t < p.2.due) }
def SweepTold (M : CM) (t : Nat) (told : List Int) : Prop := ∃ xs, Overs (waitT M) t xs ∧ told = xs.flatMap (toksAt M)

theorem keys_waitT (M : CM) : keys (waitT M) = keys M.rows := keys_map (fun e : RowM => e.due) M.rows
theorem keys_liveT (M : CM) : keys (liveT M) = keys M.ent := keys_map (fun e : Ent => e.due) M.ent
theorem waitT_swept (M : CM) (t : Nat) : waitT (sweptM M t) = (waitT M).filter (fun p => t < p.2) := by
  unfold waitT sweptM; rw [List.filter_map]; rfl
theorem WF.swept {M : CM} {room wait life pat n : Nat} (h : WF M room wait life pat n) (t : Nat) : WF (sweptM M t) room wait life pat n := h.sub List.filter_sublist List.filter_sublist
theorem sweptM_swept {M : CM} {t t' : Nat} (h : t ≤ t') : sweptM (sweptM M t) t' = sweptM M t' := by
  unfold sweptM
  simp only [List.filter_filter]
  congr 1
  · exact List.filter_congr fun p _ => by by_cases h1 : t < p.2.due <;> by_cases h2 : t' < p.2.due <;> simp [h1, h2]; omega
  · exact List.filter_congr fun p _ => by by_cases h1 : t < p.2.due <;> by_cases h2 : t' < p.2.due <;> simp [h1, h2]; omega

theorem SweepTold.split {M : CM} (hn : (keys M.rows).Nodup) {t t' : Nat} (ht : t ≤ t') {a b : List Int} (h : SweepTold M t a) (k : SweepTold (sweptM M t) t' b) : SweepTold M t' (a ++ b) := by
  obtain ⟨xs, hx, rfl⟩ := h
  obtain ⟨ys, hy, rfl⟩ := k
  have hnw : (keys (waitT M)).Nodup := by rw [keys_waitT]; exact hn
  rw [waitT_swept] at hy
  refine ⟨xs ++ ys, hx.split hnw ht hy, ?_⟩
  rw [List.flatMap_append]
  refine congrArg (xs.flatMap (toksAt M) ++ ·) (flatMap_congrM fun y hym => ?_)
  have hn2 : (keys ((waitT M).filter (fun p => t < p.2))).Nodup := (List.filter_sublist.map _).nodup hnw
  obtain ⟨d, h1, _⟩ := (hy.mem hn2).1 hym
  unfold toksAt sweptM
  simp only
  rw [lk_filterD hn]
  rw [lk_filterD hnw] at h1
  have e : lk (waitT M) y = (lk M.rows y).map RowM.due := lk_map (fun e : RowM => e.due) M.rows y
  rw [e] at h1
  cases hl : lk M.rows y with
  | none => rfl
  | some r =>
    rw [hl] at h1
    simp only [Option.map_some, Option.bind_some] at h1 ⊢
    split at h1
    · rename_i hq; rw [if_pos (by simpa using hq)]; rfl
    · cases h1
theorem SweepTold.unique {M : CM} {t : Nat} {a b : List Int} (h : SweepTold M t a) (k : SweepTold M t b) : a = b := by
  obtain ⟨xs, hx, rfl⟩ := h
  obtain ⟨ys, hy, rfl⟩ := k
  rw [hx.unique hy]
theorem SweepTold.none {M : CM} {t : Nat} (h : ∀ p ∈ M.rows, t < p.2.due) : SweepTold M t [] := by
  refine ⟨[], ⟨?_, List.Pairwise.nil⟩, rfl⟩
  rw [List.filter_eq_nil_iff.2]
  · exact List.Perm.refl _
  · intro p hp
    obtain ⟨q, hq, rfl⟩ := List.mem_map.1 hp
    have := h q hq
    simp; omega
end Go.Proofs.YtdacbgdinmaemaaGreatDoor

namespace Go.Proofs.YtdacbgdinmaemaaGreatDoor
open Go Go.RowKit Vz
abbrev ki0 (n : Int) : Value := .int .i64 n

/-- a slice of whole numbers, where it stands -/
def IntsAt (w : World) (v : Value) (xs : List Int) : Prop := ∃ p cap, v = .slice p xs.length cap ∧ ∀ i (h : i < xs.length), ∃ g o, p = some ⟨g, o, none⟩ ∧ w.cell? ⟨g, o + i, none⟩ = some (.int .i64 xs[i])
theorem IntsAt.of_owns {w : World} {b : Nat} {e : TypeId} {v : Value} {xs : List Int} (h : w.ownsRow b e 1 v xs.length (xs.map ki0)) : IntsAt w v xs := by
  rcases h.2 with ⟨rfl, h0⟩ | ⟨g, cap, cur, rfl, hg, hb⟩
  · exact ⟨none, 0, by rw [h0], fun i hi => by omega⟩
  · exact ⟨some ⟨g, 0, none⟩, cap, rfl, fun i hi => ⟨g, 0, rfl, by rw [Nat.zero_add, h.cellAt i (by omega)]; simp [hi]⟩⟩
theorem IntsAt.keep {S : Nat → Prop} {w w' : World} {v : Value} {xs : List Int} (h : IntsAt w v xs) (hk : Keep S w w') (hn : ∀ g o n cap, v = .slice (some ⟨g, o, none⟩) n cap → ¬ S g) : IntsAt w' v xs := by
  obtain ⟨p, cap, rfl, h2⟩ := h
  refine ⟨p, cap, rfl, fun i hi => ?_⟩
  obtain ⟨g, o, rfl, h3⟩ := h2 i hi
  exact ⟨g, o, rfl, hk.cell h3 (hn _ _ _ _ rfl)⟩

set_option maxRecDepth 100000 in
set_option maxHeartbeats 400000 in
theorem sameInts (va vb : Value) (xs ys : List Int) (w : World) (ha : IntsAt w va xs) (hb : IntsAt w vb ys) (hx : xs.length ≤ 281474976710656) (hy : ys.length ≤ 281474976710656) :
    Calls Tryz.prog 19 #[va, vb] w fun e w' => e = .returned (.bool (decide (xs = ys))) ∧ ∃ n, w' = w.drewN n := by
  obtain ⟨p, ca, rfl, ha⟩ := ha
  obtain ⟨q, cb, rfl, hb⟩ := hb
  have Ha := Lib.hid ha
  have Hb := Lib.hid hb
  clear ha hb
  by_cases hl : xs.length = ys.length
  · obtain ⟨n, hn⟩ : ∃ n, n = xs.length := ⟨_, rfl⟩
    have hny : n = ys.length := hn.trans hl
    have Hn := Lib.hid hn
    have Hny := Lib.hid hny
    rw [← hn, ← hny]
    rw [← hn] at hx
    clear hy hl
    clear hn hny
    go_enter Tryz.func19, Tryz.ntmps19
    go_wp2
    go_loopw [5] (fun vi wr => ∃ i : Nat, vi = .int .i64 i ∧ i ≤ n ∧ (∀ j (h1 : j < xs.length) (h2 : j < ys.length), j < i → xs[j] = ys[j]) ∧ ∃ k, wr = w.drewN k) (fun vi _ => n - (intOf vi).toNat)
    case atStart => exact ⟨0, by go_num, by omega, fun j _ _ h => by omega, 0, rfl⟩
    case round =>
      obtain ⟨i, rfl, hi, hall, k, rfl⟩ := hrel
      have Hall := Lib.hid hall
      clear hall
      by_cases hlt : i < n
      · have hli : (i : Int) < n := by omega
        have hix : i < xs.length := by rw [← Hn.out]; exact hlt
        have hiy : i < ys.length := by rw [← Hny.out]; exact hlt
        obtain ⟨g, o, rfl, hc1⟩ := Ha.out i hix
        obtain ⟨g', o', rfl, hc2⟩ := Hb.out i hiy
        by_cases he : xs[i] = ys[i]
        · rw [he] at hc1
          go_wp2
          go_quiet (fail)
          go_wp2
          go_roundw
          case rel => 
            refine ⟨i + 1, by go_num, by omega, fun j h1 h2 h => ?_, ?_⟩
            · by_cases e : j = i
              · subst e; exact he
              · exact Hall.out j h1 h2 (by omega)
            · first | exact ⟨_, rfl⟩ | exact ⟨_, World.drewN_drewN _ _ _⟩
          case measure => simp [intOf]; omega
        · have hne : (xs[i] == ys[i]) = false := by simpa using he
          have hne0 := he
          have hne2 : (xs[i] != ys[i]) = true := by simpa using he
          go_wp2
          go_quiet (fail)
          go_wp2
          go_ret
          refine ⟨?_, ?_⟩
          · rw [decide_eq_false (p := xs = ys) (fun e => hne0 (by subst e; rfl))]; rfl
          · first | exact ⟨_, rfl⟩ | exact ⟨_, World.drewN_drewN _ _ _⟩
      · have hie : i = n := by omega
        subst hie
        go_wp2
        go_ret
        refine ⟨?_, k, rfl⟩
        rw [decide_eq_true (p := xs = ys)]
        · rfl
        exact List.ext_getElem (by rw [← Hn.out, ← Hny.out]) (fun j h1 h2 => Hall.out j h1 h2 (Nat.lt_of_lt_of_le h1 (Nat.le_of_eq Hn.out.symm)))
  · have hl2 : ¬ (xs.length : Int) = ys.length := by omega
    have hl3 : ((xs.length : Int) == ys.length) = false := by simpa using hl2
    have hl4 : ((xs.length : Int) != ys.length) = true := by simpa using hl2
    have hd : decide (xs = ys) = false := decide_eq_false (fun e => hl (by rw [e]))
    rw [hd]
    clear hd hl hl2
    go_enter Tryz.func19, Tryz.ntmps19
    go_wp2
    go_ret
    exact ⟨rfl, 0, rfl⟩
end Go.Proofs.YtdacbgdinmaemaaGreatDoor
