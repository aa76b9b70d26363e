/- Contracts and plain laws of this claim, part K7. -/
import Derived.Test.YtdacbgdinmaemaaGreatDoorProg
import Derived.Test.YtdacbgdinmaemaaGreatDoorK6
import Derived.Test.YtdacbgdinmaemaaGreatDoorK5
set_option linter.all false

namespace Go.Proofs.YtdacbgdinmaemaaGreatDoor
open Go Go.RowKit Vz

theorem und_entmap : Tryz.prog.underlying 120 = some (.map 30 125) := by kernel_rfl
theorem und_rowmap : Tryz.prog.underlying 121 = some (.map 30 132) := by kernel_rfl
theorem kU32 : KeyEnc Tryz.prog 30 ku := keyEnc_int (by kernel_rfl)
theorem zent (w : World) : (zeroValue 125).run Tryz.prog w = .ok (entV ⟨Mac6.zero, 0, 0⟩) w := by kernel_rfl
theorem zrow (w : World) : (zeroValue 132).run Tryz.prog w = .ok (rowV ⟨.slice none 0 0, [], 0, 0⟩) w := by kernel_rfl

set_option maxRecDepth 100000 in
set_option maxHeartbeats 400000 in
theorem next_any (c : Nat) (M : CM) (B : CB) (tl tw : List (Int × Nat)) (w : World) (h : CacheRaw w c M B tl tw) (hn : M.count < 4611686018427387904) :
    Calls Tryz.prog 53 #[.pointer (some ⟨c, 0, none⟩)] w fun e w' => e = .returned (.int .i64 (M.count + 1 : Nat)) ∧ CacheRaw w' c { M with count := M.count + 1 } B tl tw ∧ Step c B w B w' := by
  have hc8 : w.cell? ⟨c, 8, none⟩ = some (.int .i64 M.count) := h.cells.cell (o := 8) (by omega)
  have hz8 := h.cells.frozen 8
  have hw : IntKind.i64.wrap ((M.count : Int) + 1) = ((M.count + 1 : Nat) : Int) := by rw [IntKind.wrap_i64]; omega
  have hp := h.setCount (M.count + 1)
  go_enter Tryz.func53, Tryz.ntmps53
  go_wp2
  go_ret
  exact ⟨rfl, hp⟩

set_option maxRecDepth 100000 in
set_option maxHeartbeats 400000 in
theorem drop_any (c : Nat) (ip : Int) (M : CM) (B : CB) (w : World) (h : CacheAt w c M B) (h0 : 0 ≤ ip) (h1 : ip < 4294967296) :
    Calls Tryz.prog 51 #[.pointer (some ⟨c, 0, none⟩), .int .u32 ip] w fun e w' => e = .returned (.tuple #[]) ∧ CachePost c { M with ent := del M.ent ip } B w w' := by
  have hnd := h.nodup
  obtain ⟨tl, tw, hr, hpl, hpw⟩ := h
  have hc4 : w.cell? ⟨c, 4, none⟩ = some (.map (some B.me)) := hr.cells.cell (o := 4) (by omega)
  have hcv : IntKind.i64.wrap ip = ip := by rw [IntKind.wrap_i64]; omega
  go_enter Tryz.func51, Tryz.ntmps51
  go_wp2_with (at_delete; refine wpList_delete_at rfl _ _ _ _ rfl kU32 und_entmap rfl hr.ent ip rfl ?_; intro w1 hat hk hz; have hs1 := hr.setEnt hk hat; have hc6 : w1.cell? ⟨c, 6, none⟩ = some (.pointer (some ⟨B.bl, 0, none⟩)) := hs1.1.cells.cell (o := 6) (by omega))
  refine (cancel_any B.bl 0 ip tl B.WL w1 hs1.1.lives).mono ?_
  rintro e w2 ⟨rfl, hp⟩
  go_wp2_with fail
  refine bodyPost_end (results_none rfl _ _ _) rfl ?_
  obtain ⟨W, hr2, hs2⟩ := hs1.1.setLives hp
  refine ⟨rfl, _, ⟨_, tw, hr2, ?_, hpw⟩, hs1.2.trans hs2⟩
  refine (del_perm hr.lives.nodup hpl ip).trans ?_
  unfold liveT; rw [del_map]

set_option maxRecDepth 100000 in
set_option maxHeartbeats 400000 in
theorem release_any (c : Nat) (ip : Int) (M : CM) (B : CB) (w : World) (h : CacheAt w c M B) (h0 : 0 ≤ ip) (h1 : ip < 4294967296) :
    Calls Tryz.prog 55 #[.pointer (some ⟨c, 0, none⟩), .int .u32 ip] w fun e w' => e = .returned (((lk M.rows ip).map RowM.v).getD (.slice none 0 0)) ∧ CachePost c { M with rows := del M.rows ip } B w w' := by
  have hnd := h.nodup
  obtain ⟨tl, tw, hr, hpl, hpw⟩ := h
  have hc5 : w.cell? ⟨c, 5, none⟩ = some (.map (some B.mr)) := hr.cells.cell (o := 5) (by omega)
  have hcv : IntKind.i64.wrap ip = ip := by rw [IntKind.wrap_i64]; omega
  have hfld : ∀ (x y : Value) (W : World), (Instr.field 132 (.agg #[x, y]) 0).run Tryz.prog W = .ok x W := fun _ _ _ => by kernel_rfl
  have hv : ((lk M.rows ip).map rowV).getD (rowV ⟨.slice none 0 0, [], 0, 0⟩) = .agg #[((lk M.rows ip).map RowM.v).getD (.slice none 0 0), .int .i64 (((lk M.rows ip).map RowM.order).getD 0 : Nat)] := by
    cases lk M.rows ip <;> rfl
  have Hv := Lib.hid hv
  clear hv
  go_enter Tryz.func55, Tryz.ntmps55
  go_wp2_with (first
    | (at_lookup; refine wpList_lookup_at rfl _ _ _ rfl kU32 und_rowmap (zrow _) rfl hr.rows ip rfl ?_; rw [Hv.out])
    | (at_delete; refine wpList_delete_at rfl _ _ _ _ rfl kU32 und_rowmap rfl hr.rows ip rfl ?_; intro w1 hat hk hz; have hs1 := hr.setRows hk hat (fun p hp => hr.toks p ((mem_del hnd.2).1 hp).1); have hc7 : w1.cell? ⟨c, 7, none⟩ = some (.pointer (some ⟨B.bw, 0, none⟩)) := hs1.1.cells.cell (o := 7) (by omega)))
  refine (cancel_any B.bw 0 ip tw B.WW w1 hs1.1.waits).mono ?_
  rintro e w2 ⟨rfl, hp⟩
  go_wp2_with fail
  go_ret
  obtain ⟨W, hr2, hs2⟩ := hs1.1.setWaits hp
  refine ⟨rfl, _, ⟨tl, _, hr2, hpl, ?_⟩, hs1.2.trans hs2⟩
  refine (del_perm hr.waits.nodup hpw ip).trans ?_
  unfold waitT; rw [del_map]
end Go.Proofs.YtdacbgdinmaemaaGreatDoor

namespace Go.Proofs.YtdacbgdinmaemaaGreatDoor
open Go Go.RowKit Vz

def RightB (room wait : Int) (life pat : Nat) : Prop := 1 ≤ room ∧ room ≤ 256 ∧ 1 ≤ wait ∧ wait ≤ 64 ∧ 1 ≤ min life pat ∧ max life pat ≤ 4294967296
instance (room wait : Int) (life pat : Nat) : Decidable (RightB room wait life pat) := by unfold RightB; infer_instance

set_option maxRecDepth 100000 in
set_option maxHeartbeats 400000 in
theorem right_any (room wait : Int) (life pat : Nat) (w : World) :
    Calls Tryz.prog 49 #[.agg #[.int .i64 room, .int .i64 wait, .int .u64 life, .int .u64 pat]] w fun e w' => e = .returned (.bool (decide (RightB room wait life pat))) ∧ Below w.heap.size w w' := by
  obtain ⟨bb, hbb⟩ : ∃ bb, decide (RightB room wait life pat) = bb := ⟨_, rfl⟩
  rw [hbb]
  have Hb := Lib.hid hbb
  clear hbb
  go_enter Tryz.func49, Tryz.ntmps49
  go_wp2
  all_goals
    refine bodyPost_ret (results_tmp rfl _ _ _) rfl ⟨?_, (Below.refl _ _).alloc (Nat.le_refl _) _⟩
    have hbb := Hb.out
    unfold RightB at hbb
    subst hbb
    show Ending.returned (Value.bool _) = Ending.returned (Value.bool _)
    refine congrArg (fun x => Ending.returned (Value.bool x)) ?_
    first
      | (refine (decide_eq_false (fun hx => ?_)).symm; obtain ⟨x1, x2, x3, x4, x5, x6⟩ := hx; omega)
      | (apply decide_eq_decide.2; constructor <;> intro hx <;> omega)

theorem Below.keep0 {w w' : World} (h : Below w.heap.size w w') : Keep (fun _ => False) w w' := Keep.of_below h (fun _ h1 h2 => absurd h1 (by omega))

set_option maxRecDepth 100000 in
set_option maxHeartbeats 400000 in
theorem cnew_wrong (room wait : Int) (life pat : Nat) (w : World) (h : ¬ RightB room wait life pat) :
    Calls Tryz.prog 11 #[.int .i64 room, .int .i64 wait, .int .u64 life, .int .u64 pat] w fun e w' => e = .returned (.tuple #[.pointer none, .int .i64 11]) ∧ Keep (fun _ => False) w w' := by
  have hc := fun W => right_any room wait life pat W
  have hf : decide (RightB room wait life pat) = false := decide_eq_false h
  simp only [hf] at hc
  clear hf
  go_enter Tryz.func11, Tryz.ntmps11
  go_wp2_with fail
  refine (hc _).mono ?_
  rintro e w1 ⟨rfl, hb1⟩
  go_wp2_with fail
  refine bodyPost_ret (v := .tuple #[.pointer none, .int .i64 11]) (by simp [results, Tryz.results11, go_sem]) rfl ⟨rfl, ?_⟩
  exact ((Keep.refl _ w).alloc _).trans (Below.keep0 hb1) (fun _ h => h) (fun _ _ h => h)

set_option maxRecDepth 100000 in
set_option maxHeartbeats 400000 in
theorem cnew_right (room wait : Nat) (life pat : Nat) (w : World) (h : RightB room wait life pat) :
    Calls Tryz.prog 11 #[.int .i64 room, .int .i64 wait, .int .u64 life, .int .u64 pat] w fun e w' => ∃ c B, e = .returned (.tuple #[.pointer (some ⟨c, 0, none⟩), .int .i64 0]) ∧ CacheAt w' c ⟨room, wait, life, pat, 0, [], []⟩ B ∧ Keep (fun _ => False) w w' ∧
      ∀ i, B.fp c i → w.heap.size ≤ i := by
  have hc := fun W => right_any room wait life pat W
  have hf : decide (RightB room wait life pat) = true := decide_eq_true h
  simp only [hf] at hc
  clear hf
  have hmm := @run_makeMap Tryz.prog
  go_enter Tryz.func11, Tryz.ntmps11
  go_wp2_with fail
  refine (hc _).mono ?_
  rintro e w1 ⟨rfl, hb1⟩
  go_wp2_with fail
  have hz1 := hb1.size
  simp only [World.size_alloc] at hz1
  have k1 : Keep (fun _ => False) w w1 := ((Keep.refl _ w).alloc _).trans (Below.keep0 hb1) (fun _ h => h) (fun _ _ h => h)
  have hblk : w1.heap[w.heap.size]? = some (.cells #[.int .i64 room, .int .i64 wait, .int .u64 life, .int .u64 pat] 116 (0, 0)) := (hb1.block _ (by simp)).trans (World.alloc_heap_new _ _)
  refine (new_any 0 w1 (by omega)).mono ?_
  rintro e w2 ⟨rfl, hW1, hk2, hf2⟩
  have hblk2 := hk2.heap hblk (fun h => h)
  have hz2 := hk2.size
  go_wp2_with fail
  refine (new_any 0 w2 (by omega)).mono ?_
  rintro e w3 ⟨rfl, hW2, hk3, hf3⟩
  have hblk3 := hk3.heap hblk2 (fun h => h)
  have hz3 := hk3.size
  have hb3 : w.heap.size < w3.heap.size := by omega
  have h30 : w3.cell? ⟨w.heap.size, 0, none⟩ = some (.int .i64 room) := by simp [World.cell?, hblk3]
  have h31 : w3.cell? ⟨w.heap.size, 1, none⟩ = some (.int .i64 wait) := by simp [World.cell?, hblk3]
  have h32 : w3.cell? ⟨w.heap.size, 2, none⟩ = some (.int .u64 life) := by simp [World.cell?, hblk3]
  have h33 : w3.cell? ⟨w.heap.size, 3, none⟩ = some (.int .u64 pat) := by simp [World.cell?, hblk3]
  clear hblk hblk2 hblk3
  go_wp2_with fail
  refine bodyPost_ret (v := .tuple #[.pointer (some ⟨w3.heap.size + 2, 0, none⟩), .int .i64 0]) (by simp [results, Tryz.results11, go_sem]) rfl ?_
  have k3 : Keep (fun _ => False) w w3 := (k1.trans hk2 (fun _ h => h) (fun _ _ h => h)).trans hk3 (fun _ h => h) (fun _ _ h => h)
  have kA := fun (o1 o2 o3 : Obj) => (((Keep.refl (fun _ => False) w3).alloc o1).alloc o2).alloc o3
  have hL := hW1.keep hk3 (fun _ _ h => h)
  have eL := fun i (hi : (newWB w1.heap.size).fp (w1.heap.size + 2) i) => newWB_fp hi
  have eW := fun i (hi : (newWB w2.heap.size).fp (w2.heap.size + 2) i) => newWB_fp hi
  have hs2 : w1.heap.size + 3 ≤ w2.heap.size := by have := hW1.raw.cells.lt; omega
  have hs3 : w2.heap.size + 3 ≤ w3.heap.size := by have := hW2.raw.cells.lt; omega
  refine ⟨w3.heap.size + 2, ⟨w3.heap.size, w3.heap.size + 1, w1.heap.size + 2, w2.heap.size + 2, newWB w1.heap.size, newWB w2.heap.size⟩, rfl, ⟨[], [], ⟨⟨#[.int .i64 room, .int .i64 wait, .int .u64 life, .int .u64 pat, .map (some w3.heap.size), .map (some (w3.heap.size + 1)), .pointer (some ⟨w1.heap.size + 2, 0, none⟩), .pointer (some ⟨w2.heap.size + 2, 0, none⟩), .int .i64 0], ?_, rfl, fun o ho => ?_⟩, ?_, ?_, hL.keep (kA _ _ _) (fun _ _ h => h), hW2.keep (kA _ _ _) (fun _ _ h => h), (by simp), ?_, ?_, ?_, ?_⟩, List.Perm.refl _, List.Perm.refl _⟩, k3.trans (kA _ _ _) (fun _ h => h) (fun _ _ h => h), fun i hi => ?_⟩
  · have := World.alloc_heap_new ((w3.alloc (.map #[] 0)).alloc (.map #[] 0)) (.cells #[.int .i64 room, .int .i64 wait, .int .u64 life, .int .u64 pat, .map (some w3.heap.size), .map (some (w3.heap.size + 1)), .pointer (some ⟨w1.heap.size + 2, 0, none⟩), .pointer (some ⟨w2.heap.size + 2, 0, none⟩), .int .i64 0] 123)
    rw [World.size_alloc, World.size_alloc] at this; exact this
  · match o, ho with
    | 0, _ => rfl | 1, _ => rfl | 2, _ => rfl | 3, _ => rfl | 4, _ => rfl | 5, _ => rfl | 6, _ => rfl | 7, _ => rfl | 8, _ => rfl
    | o + 9, ho => omega
  · exact (MapAt.fresh w3 ku entV).of_block ((Below.heap_alloc _ _ _ (by simp; omega)).trans (Below.heap_alloc _ _ _ (by simp)))
  · have hM2 := MapAt.fresh (w3.alloc (.map #[] 0)) ku rowV
    rw [World.size_alloc] at hM2
    exact hM2.of_block (Below.heap_alloc _ _ _ (by simp))
  · simp only; omega
  · exact ⟨fun x => by have := eL _ x; omega, fun x => by have := eL _ x; simp only at this; omega, fun x => by have := eL _ x; simp only at this; omega⟩
  · exact ⟨fun x => by have := eW _ x; omega, fun x => by have := eW _ x; simp only at this; omega, fun x => by have := eW _ x; simp only at this; omega⟩
  · intro i h1 h2; have := eL _ h1; have := eW _ h2; omega
  · rcases hi with hi | hi | hi | hi | hi
    · omega
    · simp only at hi; omega
    · simp only at hi; omega
    · have := eL _ hi; omega
    · have := eW _ hi; omega
end Go.Proofs.YtdacbgdinmaemaaGreatDoor

namespace Go.Proofs.YtdacbgdinmaemaaGreatDoor
open Go Go.RowKit Vz

set_option maxRecDepth 100000 in
set_option maxHeartbeats 400000 in
theorem len_any (c : Nat) (M : CM) (B : CB) (w : World) (h : CacheAt w c M B) :
    Calls Tryz.prog 16 #[.pointer (some ⟨c, 0, none⟩)] w fun e w' => e = .returned (.int .i64 M.ent.length) ∧ w' = w := by
  obtain ⟨tl, tw, hr, hpl, hpw⟩ := h
  have hc4 : w.cell? ⟨c, 4, none⟩ = some (.map (some B.me)) := hr.cells.cell (o := 4) (by omega)
  have hl := fun ty => run_len_at (P := Tryz.prog) und_entmap hr.ent ty
  go_enter Tryz.func16, Tryz.ntmps16
  go_wp2
  go_ret
  exact ⟨rfl, rfl⟩

set_option maxRecDepth 100000 in
set_option maxHeartbeats 400000 in
theorem rows_any (c : Nat) (M : CM) (B : CB) (w : World) (h : CacheAt w c M B) :
    Calls Tryz.prog 17 #[.pointer (some ⟨c, 0, none⟩)] w fun e w' => e = .returned (.int .i64 M.rows.length) ∧ w' = w := by
  obtain ⟨tl, tw, hr, hpl, hpw⟩ := h
  have hc4 : w.cell? ⟨c, 5, none⟩ = some (.map (some B.mr)) := hr.cells.cell (o := 5) (by omega)
  have hl := fun ty => run_len_at (P := Tryz.prog) und_rowmap hr.rows ty
  go_enter Tryz.func17, Tryz.ntmps17
  go_wp2
  go_ret
  exact ⟨rfl, rfl⟩

theorem heap_new1 (w : World) (o1 o2 : Obj) : ((w.alloc o1).alloc o2).heap[w.heap.size + 1]? = some o2 := by
  have a := World.alloc_heap_new (w.alloc o1) o2
  rw [World.size_alloc] at a; exact a

def tm61 (now : Nat) : Nat := min now 2305843009213693952
def findM (M : CM) (ip : Int) (now : Nat) : Mac6 × Bool := match lk M.ent ip with
  | none => (Mac6.zero, false)
  | some e => if e.due ≤ tm61 now then (Mac6.zero, false) else (e.mac, true)

theorem lk_live {w : World} {c : Nat} {M : CM} {B : CB} {tl tw : List (Int × Nat)} (hr : CacheRaw w c M B tl tw) (hp : tl.Perm (liveT M)) (ip : Int) : lk tl ip = (lk M.ent ip).map Ent.due := by
  rw [lk_perm hr.lives.nodup hp]; exact lk_map (fun e : Ent => e.due) M.ent ip
theorem lk_wait {w : World} {c : Nat} {M : CM} {B : CB} {tl tw : List (Int × Nat)} (hr : CacheRaw w c M B tl tw) (hp : tw.Perm (waitT M)) (ip : Int) : lk tw ip = (lk M.rows ip).map RowM.due := by
  rw [lk_perm hr.waits.nodup hp]; exact lk_map (fun e : RowM => e.due) M.rows ip

set_option maxRecDepth 100000 in
set_option maxHeartbeats 400000 in
theorem find_any (c : Nat) (ip : Int) (now : Nat) (M : CM) (B : CB) (w : World) (h : CacheAt w c M B) (h0 : 0 ≤ ip) (h1 : ip < 4294967296) :
    Calls Tryz.prog 18 #[.pointer (some ⟨c, 0, none⟩), .int .u32 ip, .int .u64 now] w fun e w' => e = .returned (.tuple #[macV (findM M ip now).1, .bool (findM M ip now).2]) ∧ Keep (fun _ => False) w w' := by
  obtain ⟨tl, tw, hr, hpl, hpw⟩ := h
  have hc4 : w.cell? ⟨c, 4, none⟩ = some (.map (some B.me)) := hr.cells.cell (o := 4) (by omega)
  have hc6 : w.cell? ⟨c, 6, none⟩ = some (.pointer (some ⟨B.bl, 0, none⟩)) := hr.cells.cell (o := 6) (by omega)
  have hcv : IntKind.i64.wrap ip = ip := by rw [IntKind.wrap_i64]; omega
  have hcl := hr.cells.lt
  have hcl1 : c < w.heap.size + 1 := by omega
  have hcl2 : c < w.heap.size + 1 + 1 := by omega
  have hE : ∀ o, MapAt (w.alloc o) B.me ku entV M.ent := fun o => hr.ent.of_block (Below.heap_alloc _ _ _ hr.ent.lt)
  have HE := Lib.hid hE
  have hdl := lk_live hr hpl ip
  unfold findM
  cases hl : lk M.ent ip with
  | none =>
    rw [hl] at hdl
    have Hl := Lib.hid hl
    have Hdl := Lib.hid hdl
    clear hE hl hdl
    go_enter Tryz.func18, Tryz.ntmps18
    go_wp2_with (at_lookup; refine wpList_lookup_ok_at rfl _ _ _ rfl kU32 und_entmap (zent _) rfl (HE.out _) ip rfl ?_; rw [Hl.out]; simp only [Option.map_none, Option.getD_none, Option.isSome_none, entV, Mac6.zero])
    refine (due_any B.bl 0 ip tl B.WL _ ((hr.alloc _).alloc _).lives).mono ?_
    rintro e w1 ⟨rfl, hb⟩
    rw [Hdl.out]
    simp only [Option.map_none, Option.getD_none, Option.isSome_none]
    have hB0 : w1.heap[w.heap.size]? = some (.cells #[.int .u8 0, .int .u8 0, .int .u8 0, .int .u8 0, .int .u8 0, .int .u8 0] 32 (0, 0)) := (hb.block _ (by simp; omega)).trans ((Below.heap_alloc _ _ _ (by simp)).trans (World.alloc_heap_new _ _))
    have hs1 := hb.size
    simp only [World.size_alloc] at hs1
    have hbA : w.heap.size < w1.heap.size := by omega
    have hbB : w.heap.size + 1 < w1.heap.size := by omega
    have q0 : w1.cell? ⟨w.heap.size, 0, none⟩ = some (.int .u8 0) := by simp [World.cell?, hB0]
    have q1 : w1.cell? ⟨w.heap.size, 1, none⟩ = some (.int .u8 0) := by simp [World.cell?, hB0]
    have q2 : w1.cell? ⟨w.heap.size, 2, none⟩ = some (.int .u8 0) := by simp [World.cell?, hB0]
    have q3 : w1.cell? ⟨w.heap.size, 3, none⟩ = some (.int .u8 0) := by simp [World.cell?, hB0]
    have q4 : w1.cell? ⟨w.heap.size, 4, none⟩ = some (.int .u8 0) := by simp [World.cell?, hB0]
    have q5 : w1.cell? ⟨w.heap.size, 5, none⟩ = some (.int .u8 0) := by simp [World.cell?, hB0]
    have z0 : w1.frozen? ⟨w.heap.size, 0, none⟩ = false := by simp [World.frozen?, hB0]
    have z1 : w1.frozen? ⟨w.heap.size, 1, none⟩ = false := by simp [World.frozen?, hB0]
    have z2 : w1.frozen? ⟨w.heap.size, 2, none⟩ = false := by simp [World.frozen?, hB0]
    have z3 : w1.frozen? ⟨w.heap.size, 3, none⟩ = false := by simp [World.frozen?, hB0]
    have z4 : w1.frozen? ⟨w.heap.size, 4, none⟩ = false := by simp [World.frozen?, hB0]
    have z5 : w1.frozen? ⟨w.heap.size, 5, none⟩ = false := by simp [World.frozen?, hB0]
    clear hB0
    go_wp2_with fail
    refine bodyPost_ret (v := .tuple #[macV Mac6.zero, .bool false]) (by simp [results, Tryz.results18, go_sem, q0, q1, q2, q3, q4, q5, macV, Mac6.zero]) rfl ⟨rfl, ?_⟩
    have k0 : Keep (fun _ => False) w w1 := (((Keep.refl _ w).alloc _).alloc _).trans (Below.keep0 hb) (fun _ h => h) (fun _ _ h => h)
    exact ((((((k0.setCell (p := ⟨w.heap.size, 0, none⟩) (fun x => absurd x (by simp)) _).setCell (p := ⟨w.heap.size, 1, none⟩) (fun x => absurd x (by simp)) _).setCell (p := ⟨w.heap.size, 2, none⟩) (fun x => absurd x (by simp)) _).setCell (p := ⟨w.heap.size, 3, none⟩) (fun x => absurd x (by simp)) _).setCell (p := ⟨w.heap.size, 4, none⟩) (fun x => absurd x (by simp)) _).setCell (p := ⟨w.heap.size, 5, none⟩) (fun x => absurd x (by simp)) _)
  | some e =>
    rw [hl] at hdl
    have Hl := Lib.hid hl
    have Hdl := Lib.hid hdl
    clear hE hl hdl
    by_cases hov : e.due ≤ tm61 now
    · simp only [if_pos hov]
      have hov1 : (e.due : Int) ≤ min (now : Int) 2305843009213693952 := by unfold tm61 at hov; omega
      go_enter Tryz.func18, Tryz.ntmps18
      go_wp2_with (at_lookup; refine wpList_lookup_ok_at rfl _ _ _ rfl kU32 und_entmap (zent _) rfl (HE.out _) ip rfl ?_; rw [Hl.out]; simp only [Option.map_some, Option.getD_some, Option.isSome_some, entV])
      refine (due_any B.bl 0 ip tl B.WL _ ((hr.alloc _).alloc _).lives).mono ?_
      rintro e w1 ⟨rfl, hb⟩
      rw [Hdl.out]
      simp only [Option.map_some, Option.getD_some, Option.isSome_some]
      have hB0 : w1.heap[w.heap.size]? = some (.cells #[.int .u8 0, .int .u8 0, .int .u8 0, .int .u8 0, .int .u8 0, .int .u8 0] 32 (0, 0)) := (hb.block _ (by simp; omega)).trans ((Below.heap_alloc _ _ _ (by simp)).trans (World.alloc_heap_new _ _))
      have hs1 := hb.size
      simp only [World.size_alloc] at hs1
      have hbA : w.heap.size < w1.heap.size := by omega
      have hbB : w.heap.size + 1 < w1.heap.size := by omega
      have q0 : w1.cell? ⟨w.heap.size, 0, none⟩ = some (.int .u8 0) := by simp [World.cell?, hB0]
      have q1 : w1.cell? ⟨w.heap.size, 1, none⟩ = some (.int .u8 0) := by simp [World.cell?, hB0]
      have q2 : w1.cell? ⟨w.heap.size, 2, none⟩ = some (.int .u8 0) := by simp [World.cell?, hB0]
      have q3 : w1.cell? ⟨w.heap.size, 3, none⟩ = some (.int .u8 0) := by simp [World.cell?, hB0]
      have q4 : w1.cell? ⟨w.heap.size, 4, none⟩ = some (.int .u8 0) := by simp [World.cell?, hB0]
      have q5 : w1.cell? ⟨w.heap.size, 5, none⟩ = some (.int .u8 0) := by simp [World.cell?, hB0]
      have z0 : w1.frozen? ⟨w.heap.size, 0, none⟩ = false := by simp [World.frozen?, hB0]
      have z1 : w1.frozen? ⟨w.heap.size, 1, none⟩ = false := by simp [World.frozen?, hB0]
      have z2 : w1.frozen? ⟨w.heap.size, 2, none⟩ = false := by simp [World.frozen?, hB0]
      have z3 : w1.frozen? ⟨w.heap.size, 3, none⟩ = false := by simp [World.frozen?, hB0]
      have z4 : w1.frozen? ⟨w.heap.size, 4, none⟩ = false := by simp [World.frozen?, hB0]
      have z5 : w1.frozen? ⟨w.heap.size, 5, none⟩ = false := by simp [World.frozen?, hB0]
      clear hB0
      go_wp2_with fail
      refine bodyPost_ret (v := .tuple #[macV Mac6.zero, .bool false]) (by simp [results, Tryz.results18, go_sem, q0, q1, q2, q3, q4, q5, macV, Mac6.zero]) rfl ⟨rfl, ?_⟩
      have k0 : Keep (fun _ => False) w w1 := (((Keep.refl _ w).alloc _).alloc _).trans (Below.keep0 hb) (fun _ h => h) (fun _ _ h => h)
      exact ((((((k0.setCell (p := ⟨w.heap.size, 0, none⟩) (fun x => absurd x (by simp)) _).setCell (p := ⟨w.heap.size, 1, none⟩) (fun x => absurd x (by simp)) _).setCell (p := ⟨w.heap.size, 2, none⟩) (fun x => absurd x (by simp)) _).setCell (p := ⟨w.heap.size, 3, none⟩) (fun x => absurd x (by simp)) _).setCell (p := ⟨w.heap.size, 4, none⟩) (fun x => absurd x (by simp)) _).setCell (p := ⟨w.heap.size, 5, none⟩) (fun x => absurd x (by simp)) _)
    · simp only [if_neg hov]
      have hov1 : min (now : Int) 2305843009213693952 < (e.due : Int) := by unfold tm61 at hov; omega
      go_enter Tryz.func18, Tryz.ntmps18
      go_wp2_with (at_lookup; refine wpList_lookup_ok_at rfl _ _ _ rfl kU32 und_entmap (zent _) rfl (HE.out _) ip rfl ?_; rw [Hl.out]; simp only [Option.map_some, Option.getD_some, Option.isSome_some, entV])
      refine (due_any B.bl 0 ip tl B.WL _ ((hr.alloc _).alloc _).lives).mono ?_
      rintro e1 w1 ⟨rfl, hb⟩
      rw [Hdl.out]
      simp only [Option.map_some, Option.getD_some, Option.isSome_some]
      have hB0 : w1.heap[w.heap.size]? = some (.cells #[.int .u8 0, .int .u8 0, .int .u8 0, .int .u8 0, .int .u8 0, .int .u8 0] 32 (0, 0)) := (hb.block _ (by simp; omega)).trans ((Below.heap_alloc _ _ _ (by simp)).trans (World.alloc_heap_new _ _))
      have hs1 := hb.size
      simp only [World.size_alloc] at hs1
      have hbA : w.heap.size < w1.heap.size := by omega
      have hbB : w.heap.size + 1 < w1.heap.size := by omega
      have q0 : w1.cell? ⟨w.heap.size, 0, none⟩ = some (.int .u8 0) := by simp [World.cell?, hB0]
      have q1 : w1.cell? ⟨w.heap.size, 1, none⟩ = some (.int .u8 0) := by simp [World.cell?, hB0]
      have q2 : w1.cell? ⟨w.heap.size, 2, none⟩ = some (.int .u8 0) := by simp [World.cell?, hB0]
      have q3 : w1.cell? ⟨w.heap.size, 3, none⟩ = some (.int .u8 0) := by simp [World.cell?, hB0]
      have q4 : w1.cell? ⟨w.heap.size, 4, none⟩ = some (.int .u8 0) := by simp [World.cell?, hB0]
      have q5 : w1.cell? ⟨w.heap.size, 5, none⟩ = some (.int .u8 0) := by simp [World.cell?, hB0]
      have z0 : w1.frozen? ⟨w.heap.size, 0, none⟩ = false := by simp [World.frozen?, hB0]
      have z1 : w1.frozen? ⟨w.heap.size, 1, none⟩ = false := by simp [World.frozen?, hB0]
      have z2 : w1.frozen? ⟨w.heap.size, 2, none⟩ = false := by simp [World.frozen?, hB0]
      have z3 : w1.frozen? ⟨w.heap.size, 3, none⟩ = false := by simp [World.frozen?, hB0]
      have z4 : w1.frozen? ⟨w.heap.size, 4, none⟩ = false := by simp [World.frozen?, hB0]
      have z5 : w1.frozen? ⟨w.heap.size, 5, none⟩ = false := by simp [World.frozen?, hB0]
      have hB1 : w1.heap[w.heap.size + 1]? = some (.cells #[.int .u8 e.mac.a0, .int .u8 e.mac.a1, .int .u8 e.mac.a2, .int .u8 e.mac.a3, .int .u8 e.mac.a4, .int .u8 e.mac.a5, .int .i64 e.order] 125 (0, 0)) := (hb.block _ (by simp)).trans (heap_new1 _ _ _)
      have p0 : w1.cell? ⟨w.heap.size + 1, 0, none⟩ = some (.int .u8 e.mac.a0) := by simp [World.cell?, hB1]
      have p1 : w1.cell? ⟨w.heap.size + 1, 1, none⟩ = some (.int .u8 e.mac.a1) := by simp [World.cell?, hB1]
      have p2 : w1.cell? ⟨w.heap.size + 1, 2, none⟩ = some (.int .u8 e.mac.a2) := by simp [World.cell?, hB1]
      have p3 : w1.cell? ⟨w.heap.size + 1, 3, none⟩ = some (.int .u8 e.mac.a3) := by simp [World.cell?, hB1]
      have p4 : w1.cell? ⟨w.heap.size + 1, 4, none⟩ = some (.int .u8 e.mac.a4) := by simp [World.cell?, hB1]
      have p5 : w1.cell? ⟨w.heap.size + 1, 5, none⟩ = some (.int .u8 e.mac.a5) := by simp [World.cell?, hB1]
      clear hB0 hB1
      go_wp2_with fail
      refine bodyPost_ret (v := .tuple #[macV e.mac, .bool true]) (by simp [results, Tryz.results18, go_sem, q0, q1, q2, q3, q4, q5, macV, Mac6.zero]) rfl ⟨rfl, ?_⟩
      have k0 : Keep (fun _ => False) w w1 := (((Keep.refl _ w).alloc _).alloc _).trans (Below.keep0 hb) (fun _ h => h) (fun _ _ h => h)
      exact ((((((k0.setCell (p := ⟨w.heap.size, 0, none⟩) (fun x => absurd x (by simp)) _).setCell (p := ⟨w.heap.size, 1, none⟩) (fun x => absurd x (by simp)) _).setCell (p := ⟨w.heap.size, 2, none⟩) (fun x => absurd x (by simp)) _).setCell (p := ⟨w.heap.size, 3, none⟩) (fun x => absurd x (by simp)) _).setCell (p := ⟨w.heap.size, 4, none⟩) (fun x => absurd x (by simp)) _).setCell (p := ⟨w.heap.size, 5, none⟩) (fun x => absurd x (by simp)) _)
end Go.Proofs.YtdacbgdinmaemaaGreatDoor

namespace Go.Proofs.YtdacbgdinmaemaaGreatDoor
open Go Go.RowKit Vz Go.Shelf
attribute [local go_sem] Oper.semAt_some

theorem ke_und : Tryz.prog.underlying 120 = some (.map 30 125) := by kernel_rfl

set_option maxRecDepth 100000 in
set_option maxHeartbeats 1000000 in
theorem ke_keys1 (F : Fence) (n : Nat) (h10 : F.fn 168) (hro : F.round = none) (hn : 1 ≤ n) (l0 Bm m : Nat) (l : List (Int × Ent)) (J Jx : List Int → World → Prop)
    (hY : ∀ pre x W, J pre W → pre.length < l.length → YieldAt F (n - 1) Tryz.prog l0 #[ku x] W fun e W' =>
      (e = .returned (.bool true) ∧ J (pre ++ [x]) W' ∧ KeepsWalks W W') ∨ (e = .returned (.bool false) ∧ Jx (pre ++ [x]) W'))
    (W : World) (hJ : AbidesFrom W.heap.size J) (hm : W.cell? ⟨Bm, 0, none⟩ = some (.map (some m))) (hM : MapAt W m ku entV l) (h0 : J [] W) :
    CallsIn F n Tryz.prog 168 #[.func (.yield l0) #[] #[], .pointer (some ⟨Bm, 0, none⟩)] W fun e W' => (∃ v, e = .returned v) ∧
      ((∃ ss : List Int, ss.Perm (keys l) ∧ J ss W') ∨ (∃ pre : List Int, (pre.Nodup ∨ True) ∧ Jx pre W')) := by
  refine callsIn_of_wp Tryz.func168 rfl h10 ?_ hro
  simp only [Tryz.ntmps168, List.size_toArray, List.length_cons, List.length_nil, Nat.reduceAdd, Nat.reduceSub, Array.replicate_succ, Array.replicate_zero, List.push_toArray, List.append_toArray, List.nil_append, List.cons_append]
  gi_wp2_with (first
    | (gi_at_range; refine wpListIn_range_at rfl _ _ rfl ke_und rfl hM ?_; intro ob hit)
    | gi_in)
  (try go_frame)
  gi_loopw [3] (fun _ wr => ∃ (rem : List (Int × Ent)) (ss : List Int), IterAt wr W.heap.size m ku entV l rem ∧ (ss ++ keys rem).Perm (keys l) ∧ J ss wr)
    (fun _ wr => wr.rangeLeft m W.heap.size)
  case atStart =>
    exact ⟨l, [], hit, by simp, hJ [] W _ none h0 (World.grownBy_alloc _ _ _) (fun r e => by cases e)⟩
  case round =>
    obtain ⟨rem, ss, hI, hP, hJs⟩ := hrel
    have HL := Lib.hid (IterAt.measure hI)
    have HP := Lib.hid hP
    clear hP
    cases rem with
    | nil =>
      gi_wp2_with (first
        | (gi_at_next; refine wpListIn_next_done rfl _ rfl rfl hI ?_)
        | gi_in)
      go_end0
      exact ⟨⟨_, rfl⟩, .inl ⟨ss, by have := HP.out; simpa [keys] using this, hJs⟩⟩
    | cons p0 rem0 =>
      have hne : p0 :: rem0 ≠ [] := by simp
      generalize p0 :: rem0 = rem at *
      gi_wp2_with (first
        | (gi_at_next; refine wpListIn_next_more rfl _ rfl rfl hI hne ?_; intro r1 x v r2 w2 hsp hk2 hz2 hI2 hen; (try dsimp only at hen ⊢); have hJ2 : J ss w2 := hJ ss wr w2 (some W.heap.size) hJs hk2.grownBy (fun r e => by cases e; exact ⟨Nat.le_refl _, hI.isWalk⟩); have hlt : ss.length < l.length := (by have := HP.out.length_eq; rw [hsp] at this; simp [keys] at this; omega); obtain ⟨fn, tmps, assign, body, hy, hR⟩ := hY ss x w2 hJ2 hlt; (try dsimp only at hy); clear hz2)
        | gi_in)
      refine hR.mono ?_
      have HP2 : Hid (((ss ++ [x]) ++ keys (r1 ++ r2)).Perm (keys l)) := by
        refine List.Perm.trans ?_ HP.out
        rw [hsp]; simp only [keys, List.map_append, List.map_cons, List.append_assoc]
        exact List.Perm.append_left ss (by rw [List.singleton_append]; exact (List.perm_middle).symm)
      rintro e W3 (⟨rfl, hJ3, hk3⟩ | ⟨rfl, hJx3⟩)
      · gi_wp2
        have hI3 := hI2.walks hk3
        have hm3 := hI3.measure
        have Hm3 := Lib.hid hm3
        clear hm3
        go_roundw
        case rel => exact ⟨_, ss ++ [x], hI3, HP2.out, hJ3⟩
        case measure => rw [Hm3.out, HL.out, hsp]; simp
      · gi_wp2
        refine bodyPost_ret (results_none rfl _ _ _) rfl ?_
        exact ⟨⟨_, rfl⟩, .inr ⟨ss ++ [x], .inr trivial, hJx3⟩⟩

theorem ke_keys_stops (F : Fence) (n : Nat) (h10 : F.fn 168) (hro : F.round = none) (hn : 1 ≤ n) (Bm m : Nat) (l : List (Int × Ent)) (w : World) (hBm : Bm < w.heap.size)
    (hm : w.cell? ⟨Bm, 0, none⟩ = some (.map (some m))) (hM : MapAt w m ku entV l) :
    SeqStopsK F n Tryz.prog 168 #[.pointer (some ⟨Bm, 0, none⟩)] (fun x => #[ku x]) KeepsWalks (fun ss => ss.Perm (keys l)) (fun pre => pre.Nodup ∨ True) l.length w := fun l0 J Jx W hW hJ _ hY h0 =>
  ke_keys1 F n h10 hro hn l0 Bm m l J Jx hY W hJ ((hW.cell (p := ⟨Bm, 0, none⟩) hBm).trans hm) (hM.of_block (hW.block _ hM.lt)) h0

set_option maxHeartbeats 400000 in
theorem ke_keys (F : Fence) (n : Nat) (h7 : F.fn 114) (hro : F.round = none) (m : Option Nat) (w : World) :
    CallsIn F n Tryz.prog 114 #[.map m] w fun e w' => e = .returned (.func (.func 168) #[] #[.pointer (some ⟨w.heap.size, 0, none⟩)]) ∧ w' = w.alloc (.cells #[.map m] 120) := by
  refine callsIn_of_wp Tryz.func114 rfl h7 ?_ hro
  simp only [Tryz.ntmps114, List.size_toArray, List.length_cons, List.length_nil, Nat.reduceAdd, Nat.reduceSub, Array.replicate_succ, Array.replicate_zero, List.push_toArray, List.append_toArray, List.nil_append, List.cons_append]
  gi_wp2
  go_ret
  exact ⟨rfl, rfl⟩
end Go.Proofs.YtdacbgdinmaemaaGreatDoor

namespace Go.Proofs.YtdacbgdinmaemaaGreatDoor
open Go Go.RowKit Vz Go.Shelf
attribute [local go_sem] Oper.semAt_some

theorem au_info : (Tryz.prog.info? 30).map (fun i => (i.zero, i.size, i.bytes)) = some (some ((fun n : Int => Value.int .u32 n) 0), 1, 4) := by kernel_rfl
theorem au_oneCell (x : Int) : ((fun n : Int => Value.int .u32 n) x).oneCell' = true := rfl

set_option maxRecDepth 100000 in
set_option maxHeartbeats 1000000 in
theorem au_append (F : Fence) (n : Nat) (hf : F.fn 169) (hro : F.round = none) (hn : 3 ≤ n) (g : Nat) (lb : Array Value) (hFg : F.fn g) (eg : ∀ args w, (callFunc g args).run Tryz.prog w = .ok (.enter g args) w)
    (S Sp : List Int → Prop) (N : Nat) (hN : N ≤ 281474976710656) (hNb : N * 4 ≤ 140737488355328) (hSN : ∀ xs, S xs → xs.length ≤ N) (w : World) (hseq : SeqStopsK F (n - 1) Tryz.prog g lb (fun x => #[(fun n : Int => Value.int .u32 n) x]) KeepsWalks S Sp N w) :
    CallsIn F n Tryz.prog 169 #[.slice none 0 0, .func (.func g) #[] lb] w fun e W' => ∃ (v : Value) (ss : List Int), e = .returned v ∧ S ss ∧ W'.ownsRow w.heap.size 30 1 v ss.length (ss.map (fun n : Int => Value.int .u32 n)) ∧ (v = .slice none 0 0 ↔ ss = []) ∧ Below w.heap.size w W' := by
  have h1 : 1 ≤ n := by omega
  obtain ⟨i0, hi, hz0, hz1, hz2⟩ := info_parts au_info
  refine callsIn_of_wp_marks Tryz.func169 rfl hf ?_ hro
  simp only [Tryz.ntmps169, List.size_toArray, List.length_cons, List.length_nil, Nat.reduceAdd, Nat.reduceSub, Array.replicate_succ, Array.replicate_zero, List.push_toArray, List.append_toArray, List.nil_append, List.cons_append]
  gi_wp2
  have bO := Boxed.new w 44 (.slice none 0 0)
  have hB0 : Below w.heap.size w (w.alloc (.cells #[.slice none 0 0] 44)) := (Below.refl _ w).alloc (Nat.le_refl _) _
  refine wpIn_rangeFunc_ownG hro h1 (gf := g) (lb := lb) rfl hFg eg hseq walksK_t walksK_b hB0 (fun _ => rfl)
    (fun pre W => (∃ v, Boxed W w.heap.size 44 v ∧ W.ownsRow w.heap.size 30 1 v pre.length (pre.map (fun n : Int => Value.int .u32 n)) ∧ (v = .slice none 0 0 ↔ pre = [])) ∧ Below w.heap.size w W)
    (fun _ _ _ => False)
    (OwnFrom.and (Own.from (holdsRow_own w.heap.size w.heap.size 44 30 1 (fun pre : List Int => pre.length) (fun pre => pre.map (fun n : Int => Value.int .u32 n)) (fun pre v => v = .slice none 0 0 ↔ pre = [])) _) (ownFrom_below (Nat.le_refl _) (by simp)))
    (fun _ _ _ _ _ hs _ _ => hs)
    ⟨⟨_, bO, World.ownsRow_nil _ _ _ _, by simp⟩, hB0⟩
    (fun x => { tmps := #[.slice none 0 0, .func (.func g) #[] lb, .pointer (some ⟨w.heap.size, 0, none⟩), undef, .slice none 0 0, (fun n : Int => Value.int .u32 n) x, .func (.func g) #[] lb, (fun n : Int => Value.int .u32 n) x, undef, undef, undef, undef, undef], defers := [] }) ?assign ?body ?done ?stop
  case assign =>
    intro l x W K hK
    gi_wp2
    exact hK
  case body =>
    rintro l pre x W ⟨⟨v, hv, hrow, hnil⟩, hB⟩ hlt
    have hc := hv.cell
    gi_wp2_with (gi_at_builtin; refine wpListIn_append_own _ rfl _ _ 44 rfl w.heap.size 30 i0 ((fun n : Int => Value.int .u32 n) 0) 1 4 Tryz.underlying44 hi hz0 hz1 hz2 rfl (by decide) _ _ _ rfl (hrow.alloc _) ⟨W.heap.size, 0, none⟩ 1 1 [(fun n : Int => Value.int .u32 n) x] rfl rfl (cell_one_new _ _ _) (by simp [Value.oneCell']) (by unfold maxLen; omega) (by omega) (by have := hB.size; simp; omega) ?_; intro v' w1 hown' hgrow _; obtain ⟨g', cap', rfl⟩ := ownsRow_succ hown'; obtain ⟨hv1, hv2, hr2, hk2, hb2⟩ := hv.appended (by decide) hrow hB.size (Nat.le_refl _) hown' hgrow; have hc1 := hv1.cell; have hf1 := hv1.frozen)
    exact ⟨hk2.from _, hk2.walks, ⟨_, hv2, by simpa using hr2, by simp⟩, hB.trans hb2⟩
  case done =>
    rintro D ys W hD hS ⟨⟨v, hv, hrow, hnil⟩, hB⟩ hK
    have hc := hv.cell
    gi_wp2
    refine ⟨by simp, .inl ⟨_, _, rfl, run_takeDeferred hK, ?_⟩⟩
    exact ⟨_, results_tmp rfl _ _ _, v, ys, rfl, hS, ownsRow_putObj hrow _ hK rfl, hnil, hB.trans (belowK_b (w := w) (Nat.le_refl _) W D _ _ (by simp at hD; omega) hK rfl rfl)⟩
  case stop =>
    rintro D c pre W _ _ h _
    exact h.elim

set_option maxHeartbeats 400000 in
theorem au_collect (F : Fence) (n : Nat) (hf : F.fn 118) (hf2 : F.fn 169) (hro : F.round = none) (hn : 4 ≤ n) (g : Nat) (lb : Array Value) (hFg : F.fn g) (eg : ∀ args w, (callFunc g args).run Tryz.prog w = .ok (.enter g args) w)
    (S Sp : List Int → Prop) (N : Nat) (hN : N ≤ 281474976710656) (hNb : N * 4 ≤ 140737488355328) (hSN : ∀ xs, S xs → xs.length ≤ N) (w : World) (hseq : SeqStopsK F (n - 1 - 1) Tryz.prog g lb (fun x => #[(fun n : Int => Value.int .u32 n) x]) KeepsWalks S Sp N w) :
    CallsIn F n Tryz.prog 118 #[.func (.func g) #[] lb] w fun e W' => ∃ (v : Value) (ss : List Int), e = .returned v ∧ S ss ∧ W'.ownsRow w.heap.size 30 1 v ss.length (ss.map (fun n : Int => Value.int .u32 n)) ∧ (v = .slice none 0 0 ↔ ss = []) ∧ Below w.heap.size w W' := by
  have h1 : 1 ≤ n := by omega
  refine callsIn_of_wp Tryz.func118 rfl hf ?_ hro
  simp only [Tryz.ntmps118, List.size_toArray, List.length_cons, List.length_nil, Nat.reduceAdd, Nat.reduceSub, Array.replicate_succ, Array.replicate_zero, List.push_toArray, List.append_toArray, List.nil_append, List.cons_append]
  gi_wp2_with (gi_at_call 169; refine (au_append F (n - 1) hf2 hro (by omega) g lb hFg eg S Sp N hN hNb hSN _ hseq).mono ?_; rintro e w' ⟨v, ss, rfl, hS, hrow, hnil, hb⟩)
  go_ret
  exact ⟨v, ss, rfl, hS, hrow, hnil, hb⟩
end Go.Proofs.YtdacbgdinmaemaaGreatDoor
