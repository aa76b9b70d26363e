/- Contracts and plain laws of this claim, part K8. -/
import Derived.Deep.RegionHeld3
import Derived.Test.YtdacbgdinmaemaaGreatDoorK7
set_option linter.all false

namespace Go.Proofs.YtdacbgdinmaemaaGreatDoor
open Go Go.RowKit Vz Go.Shelf

def ordIn (l : List (Int × Ent)) (x : Int) : Nat := ((lk l x).map Ent.order).getD 0
theorem field_ent1 (a0 a1 a2 a3 a4 a5 o : Value) (w : World) : (Instr.field 125 (.agg #[a0, a1, a2, a3, a4, a5, o]) 1).run Tryz.prog w = .ok o w := by kernel_rfl

theorem run_ent (me : Nat) (l : List (Int × Ent)) (w : World) (hM : MapAt w me ku entV l) (x : Int) :
    ∃ a0 a1 a2 a3 a4 a5, (Instr.lookup 120 (.map (some me)) (.int .u32 x) false).run Tryz.prog w = .ok (.agg #[a0, a1, a2, a3, a4, a5, .int .i64 (ordIn l x)]) w := by
  have h := run_lookup_at (P := Tryz.prog) (T := 120) kU32 und_entmap (zent w) hM x false
  unfold ordIn
  cases hl : lk l x with
  | none => rw [hl] at h; exact ⟨_, _, _, _, _, _, h⟩
  | some d => rw [hl] at h; exact ⟨_, _, _, _, _, _, h⟩

set_option maxRecDepth 100000 in
set_option maxHeartbeats 400000 in
theorem eldest_cmp (c bx me : Nat) (l : List (Int × Ent)) (w : World) (x y : Int) (hbx : w.cell? ⟨bx, 0, none⟩ = some (.pointer (some ⟨c, 0, none⟩))) (hc4 : w.cell? ⟨c, 4, none⟩ = some (.map (some me))) (hM : MapAt w me ku entV l) :
    Calls Tryz.prog 119 #[.int .u32 x, .int .u32 y, .pointer (some ⟨bx, 0, none⟩)] w fun e w' => e = .returned (.int .i64 (cmpI (ordIn l x) (ordIn l y))) ∧ w' = w.drewN 1 := by
  obtain ⟨a0, a1, a2, a3, a4, a5, hl1⟩ := run_ent me l w.drew hM x
  obtain ⟨b0, b1, b2, b3, b4, b5, hl2⟩ := run_ent me l w.drew hM y
  have hf1 := field_ent1 a0 a1 a2 a3 a4 a5 (.int .i64 (ordIn l x)) w.drew
  have hf2 := field_ent1 b0 b1 b2 b3 b4 b5 (.int .i64 (ordIn l y)) w.drew
  go_enter Tryz.func119, Tryz.ntmps119
  go_wp2_with fail
  refine wp_region_still_tail 15 (by kernel_rfl) (by kernel_rfl) ?_
  simp only [List.take_succ_cons, List.take_zero, List.drop_succ_cons, List.drop_zero, World.drew_eq]
  repeat still_step
  still_call (compareInt _ _ _)
  refine wpStill_nil ?_
  go_wp2_with fail
  go_ret
  exact ⟨rfl, rfl⟩

set_option maxRecDepth 100000 in
set_option maxHeartbeats 1000000 in
theorem min_u32 (bx blk cap : Nat) (xs : List Int) (cf : Int → Int → Int) (w : World) (hx : ∀ i (h : i < xs.length), w.cell? ⟨blk, i, none⟩ = some (.int .u32 xs[i])) (hlen : xs.length ≤ 16384) (hne : 0 < xs.length)
    (hir : ∀ x, 0 ≤ cf x x) (htr : ∀ x y z, cf x y < 0 → cf y z < 0 → cf x z < 0)
    (hcmp : ∀ W, Keep (fun _ => False) w W → ∀ x y, Calls Tryz.prog 119 #[.int .u32 x, .int .u32 y, .pointer (some ⟨bx, 0, none⟩)] W fun e W' => e = .returned (.int .i64 (cf x y)) ∧ W' = W.drewN 1) :
    Calls Tryz.prog 117 #[.slice (some ⟨blk, 0, none⟩) xs.length cap, .func (.func 119) #[] #[.pointer (some ⟨bx, 0, none⟩)]] w fun e w' =>
      ∃ m, e = .returned (.int .u32 m) ∧ m ∈ xs ∧ (∀ x ∈ xs, 0 ≤ cf x m) ∧ Keep (fun _ => False) w w' := by
  have hne1 : ¬ (xs.length : Int) < 1 := by omega
  have h0 := hx 0 hne
  have hl0 : (0 : Int) < xs.length := by omega
  have Hx := Lib.hid hx
  clear hx
  have Hc := Lib.hid hcmp
  clear hcmp
  go_enter Tryz.func117, Tryz.ntmps117
  go_wp2_with fail
  go_loopw [5, 6] (fun vm vi wr => ∃ (i : Nat) (m : Int), vm = .int .u32 m ∧ vi = .int .i64 i ∧ 1 ≤ i ∧ i ≤ xs.length ∧ m ∈ xs ∧ (∀ j (h : j < xs.length), j < i → 0 ≤ cf xs[j] m) ∧ Keep (fun _ => False) w wr) (fun _ vi _ => xs.length - (intOf vi).toNat)
  case atStart =>
    refine ⟨1, xs[0], rfl, by go_num, Nat.le_refl _, hne, by simp, fun j h hj => ?_, Keep.refl _ _⟩
    have : j = 0 := by omega
    subst this; exact hir _
  case round =>
    obtain ⟨i, m, rfl, rfl, hi1, hi2, hm, hall, hK⟩ := hrel
    have Hall := Lib.hid hall
    clear hall
    by_cases hlt : i < xs.length
    · have hli : (i : Int) < xs.length := by omega
      have hci := hK.cell (Hx.out i hlt) (fun h => h)
      go_wp2_with fail
      refine (Hc.out _ hK xs[i] m).mono ?_
      rintro e w1 ⟨rfl, rfl⟩
      by_cases hcf : cf xs[i] m < 0
      · go_wp2_with fail
        go_roundw
        case rel =>
          refine ⟨i + 1, xs[i], rfl, by go_num, by omega, by omega, by simp, fun j h hj => ?_, hK.drewN 1⟩
          by_cases e : j = i
          · subst e; exact hir _
          · refine Int.not_lt.1 (fun hx => ?_)
            have := Hall.out j h (by omega)
            have := htr _ _ _ hx hcf
            omega
        case measure => simp [intOf]; omega
      · go_wp2_with fail
        go_roundw
        case rel =>
          refine ⟨i + 1, m, rfl, by go_num, by omega, by omega, hm, fun j h hj => ?_, hK.drewN 1⟩
          by_cases e : j = i
          · subst e; omega
          · exact Hall.out j h (by omega)
        case measure => simp [intOf]; omega
    · obtain rfl : i = xs.length := by omega
      go_wp2_with fail
      go_ret
      refine ⟨m, rfl, hm, fun x hx => ?_, hK⟩
      obtain ⟨j, hj, rfl⟩ := List.getElem_of_mem hx
      exact Hall.out j hj hj

theorem eldest_min (c bx me blk cap : Nat) (xs : List Int) (l : List (Int × Ent)) (w : World) (hbx : w.cell? ⟨bx, 0, none⟩ = some (.pointer (some ⟨c, 0, none⟩))) (hc4 : w.cell? ⟨c, 4, none⟩ = some (.map (some me))) (hM : MapAt w me ku entV l)
    (hx : ∀ i (h : i < xs.length), w.cell? ⟨blk, i, none⟩ = some (.int .u32 xs[i])) (hlen : xs.length ≤ 16384) (hne : 0 < xs.length) :
    Calls Tryz.prog 117 #[.slice (some ⟨blk, 0, none⟩) xs.length cap, .func (.func 119) #[] #[.pointer (some ⟨bx, 0, none⟩)]] w fun e w' =>
      ∃ m, e = .returned (.int .u32 m) ∧ m ∈ xs ∧ (∀ x ∈ xs, ordIn l m ≤ ordIn l x) ∧ Keep (fun _ => False) w w' := by
  have h1 : ∀ x : Int, 0 ≤ (fun x y : Int => cmpI (ordIn l x) (ordIn l y)) x x := fun x => by
    have : ¬ cmpI (ordIn l x) (ordIn l x) < 0 := by rw [cmpI_lt]; omega
    show 0 ≤ cmpI (ordIn l x) (ordIn l x)
    omega
  have h2 : ∀ x y z : Int, (fun x y : Int => cmpI (ordIn l x) (ordIn l y)) x y < 0 → (fun x y : Int => cmpI (ordIn l x) (ordIn l y)) y z < 0 → (fun x y : Int => cmpI (ordIn l x) (ordIn l y)) x z < 0 := fun x y z a b => by
    have a : cmpI (ordIn l x) (ordIn l y) < 0 := a
    have b : cmpI (ordIn l y) (ordIn l z) < 0 := b
    show cmpI (ordIn l x) (ordIn l z) < 0
    rw [cmpI_lt] at *; omega
  refine (min_u32 bx blk cap xs _ w hx hlen hne h1 h2 (fun W hW x y => eldest_cmp c bx me l W x y (hW.cell hbx (fun h => h)) (hW.cell hc4 (fun h => h)) (hM.keep hW (fun h => h)))).mono ?_
  rintro e w' ⟨m, he, hm, hall, hk⟩
  refine ⟨m, he, hm, fun x hx => ?_, hk⟩
  have h3 := hall x hx
  have h3 : 0 ≤ cmpI (ordIn l x) (ordIn l m) := h3
  have h4 : ¬ cmpI (ordIn l x) (ordIn l m) < 0 := by omega
  rw [cmpI_lt] at h4; omega

set_option maxRecDepth 100000 in
set_option maxHeartbeats 1000000 in
/-- the entry that was learned longest ago -/
theorem eldest_any (c : Nat) (M : CM) (B : CB) (w : World) (h : CacheAt w c M B) (hlen : M.ent.length ≤ 16384) (hne : M.ent ≠ []) :
    Calls Tryz.prog 52 #[.pointer (some ⟨c, 0, none⟩)] w fun e w' => ∃ m, e = .returned (.int .u32 m) ∧ m ∈ keys M.ent ∧ (∀ p ∈ M.ent, ordIn M.ent m ≤ p.2.order) ∧ Keep (fun _ => False) w w' := by
  have hnd := h.nodup
  obtain ⟨tl, tw, hr, hpl, hpw⟩ := h
  have hc4 : w.cell? ⟨c, 4, none⟩ = some (.map (some B.me)) := hr.cells.cell (o := 4) (by omega)
  have hcl := hr.cells.lt
  go_enter Tryz.func52, Tryz.ntmps52
  go_wp2_with fail
  refine (callsIn_wide.1 (ke_keys Fence.wide 1 trivial rfl (some B.me) _)).mono ?_
  rintro e w2 ⟨rfl, hw2⟩
  have k2 : Keep (fun _ => False) w w2 := by rw [hw2]; exact ((Keep.refl _ w).alloc _).alloc _
  have hbx : w2.cell? ⟨w.heap.size, 0, none⟩ = some (.pointer (some ⟨c, 0, none⟩)) := by
    rw [hw2]; exact ((Keep.refl (fun _ => False) _).alloc _).cell (cell_one_new w _ _ 0 _ rfl) (fun h => h)
  have hbm : w2.cell? ⟨w.heap.size + 1, 0, none⟩ = some (.map (some B.me)) := by
    have e : w.heap.size + 1 = (w.alloc (.cells #[.pointer (some ⟨c, 0, none⟩)] 25)).heap.size := by simp
    rw [hw2, e]; exact cell_one_new _ _ _ 0 _ rfl
  clear hw2
  have HM : ∀ w3, Keep (fun _ => False) w2 w3 → ∀ blk cap (ss : List Int), (∀ i (h : i < ss.length), w3.cell? ⟨blk, i, none⟩ = some (.int .u32 ss[i])) → ss.length ≤ 16384 → 0 < ss.length →
      Calls Tryz.prog 117 #[.slice (some ⟨blk, 0, none⟩) ss.length cap, .func (.func 119) #[] #[.pointer (some ⟨w.heap.size, 0, none⟩)]] w3 fun e w' =>
      ∃ m, e = .returned (.int .u32 m) ∧ m ∈ ss ∧ (∀ x ∈ ss, ordIn M.ent m ≤ ordIn M.ent x) ∧ Keep (fun _ => False) w3 w' := fun w3 k3 blk cap ss hc hl hn =>
    eldest_min c w.heap.size B.me blk cap ss M.ent w3 (k3.cell hbx (fun h => h)) (k3.cell (k2.cell hc4 (fun h => h)) (fun h => h)) ((hr.ent.keep k2 (fun h => h)).keep k3 (fun h => h)) hc hl hn
  have hM2 := hr.ent.keep k2 (fun h => h)
  have hc42 := k2.cell hc4 (fun h => h)
  have hseq := ke_keys_stops Fence.wide 2 trivial rfl (by omega) _ B.me M.ent w2 (World.block_lt_of_cell? _ _ hbm) hbm hM2
  go_wp2_with fail
  refine (callsIn_wide.1 (au_collect Fence.wide 4 trivial trivial rfl (Nat.le_refl _) _ _ trivial (enters_of Tryz.func168 (by kernel_rfl) rfl) _ _ _ (by omega) (by omega) (fun xs hx => by have := hx.length_eq; unfold keys at this; simp at this ⊢; omega) w2 hseq)).mono ?_
  rintro e w3 ⟨v, ss, rfl, hS, hrow, hnil, hb⟩
  have k3 : Keep (fun _ => False) w2 w3 := Below.keep0 hb
  have hsl : ss.length = M.ent.length := by have := hS.length_eq; unfold keys at this; simpa using this
  have hsp : 0 < ss.length := by rw [hsl]; exact List.length_pos_iff.2 hne
  obtain ⟨blk, cap, rfl, hcells⟩ : ∃ blk cap, v = .slice (some ⟨blk, 0, none⟩) ss.length cap ∧ ∀ i (h : i < ss.length), w3.cell? ⟨blk, i, none⟩ = some (.int .u32 ss[i]) := by
    rcases hrow.2 with ⟨_, h2⟩ | ⟨g, cap, cur, rfl, _⟩
    · omega
    · exact ⟨g, cap, rfl, fun i hi => by rw [hrow.cellAt i (by omega)]; simp [hi]⟩
  have hsm : ss.length ≤ 16384 := by omega
  clear hrow hnil hb hsl
  go_wp2_with fail
  refine (HM w3 k3 blk cap ss hcells hsm hsp).mono ?_
  rintro e w4 ⟨m, rfl, hm, hall, hk4⟩
  go_wp2_with fail
  go_ret
  refine ⟨m, rfl, hS.subset hm, fun p hp => ?_, (k2.trans k3 (fun _ h => h) (fun _ _ h => h)).trans hk4 (fun _ h => h) (fun _ _ h => h)⟩
  have h1 := hall p.1 (hS.symm.subset (List.mem_map_of_mem hp))
  have h2 : ordIn M.ent p.1 = p.2.order := by unfold ordIn; rw [lk_of_mem hnd.1 (k := p.1) (v := p.2) hp]; rfl
  rw [h2] at h1; exact h1
end Go.Proofs.YtdacbgdinmaemaaGreatDoor

namespace Go.Proofs.YtdacbgdinmaemaaGreatDoor
open Go Go.RowKit Vz Go.Shelf

def setEntM (M : CM) (ip : Int) (mac : Mac6) (now : Nat) : CM := { M with count := M.count + 1, ent := put M.ent ip ⟨mac, M.count + 1, tm61 now + M.life⟩ }

def LearnS (c me mb : Nat) (mac : Mac6) (w : World) : Prop := w.cell? ⟨c, 4, none⟩ = some (.map (some me)) ∧ w.cell? ⟨mb, 0, none⟩ = some (.int .u8 mac.a0) ∧ w.cell? ⟨mb, 1, none⟩ = some (.int .u8 mac.a1) ∧ w.cell? ⟨mb, 2, none⟩ = some (.int .u8 mac.a2) ∧
  w.cell? ⟨mb, 3, none⟩ = some (.int .u8 mac.a3) ∧ w.cell? ⟨mb, 4, none⟩ = some (.int .u8 mac.a4) ∧ w.cell? ⟨mb, 5, none⟩ = some (.int .u8 mac.a5)
def macObj (mac : Mac6) : Obj := .cells #[.int .u8 mac.a0, .int .u8 mac.a1, .int .u8 mac.a2, .int .u8 mac.a3, .int .u8 mac.a4, .int .u8 mac.a5] 32 (0, 0)
theorem learnS {c mb : Nat} {mac : Mac6} {M : CM} {B : CB} {tl tw : List (Int × Nat)} {w : World} (h : CacheRaw w c M B tl tw) (hm : w.heap[mb]? = some (macObj mac)) : LearnS c B.me mb mac w := by
  unfold macObj at hm
  refine ⟨h.cells.cell (o := 4) (by omega), ?_, ?_, ?_, ?_, ?_, ?_⟩ <;> simp [World.cell?, hm]

theorem put_perm {ν : Type} (l : List (Int × ν)) (k : Int) (v : ν) : (put l k v).Perm (del l k ++ [(k, v)]) := by
  induction l with
  | nil => exact List.Perm.refl _
  | cons p l ih =>
    unfold put del
    by_cases e : p.1 = k
    · rw [if_pos e, if_pos e]; exact (List.perm_append_singleton (k, v) l).symm
    · rw [if_neg e, if_neg e]; exact List.Perm.cons p ih
theorem set_perm {tl : List (Int × Nat)} {M : CM} (hn : (keys tl).Nodup) (hp : tl.Perm (liveT M)) (ip : Int) (e : Ent) : (setT tl ip e.due).Perm ((put M.ent ip e).map fun p => (p.1, p.2.due)) := by
  rw [← put_map (fun e : Ent => e.due) M.ent ip e]
  unfold setT
  have hk : ip ∉ keys (del tl ip) := by rw [← lk_eq_none, lk_del tl hn, if_pos rfl]
  rw [put_new hk]
  exact ((del_perm hn hp ip).append_right _).trans (put_perm (liveT M) ip e.due).symm
theorem setW_perm {tw : List (Int × Nat)} {M : CM} (hn : (keys tw).Nodup) (hp : tw.Perm (waitT M)) (ip : Int) (e : RowM) : (setT tw ip e.due).Perm ((put M.rows ip e).map fun p => (p.1, p.2.due)) := by
  rw [← put_map (fun e : RowM => e.due) M.rows ip e]
  unfold setT
  have hk : ip ∉ keys (del tw ip) := by rw [← lk_eq_none, lk_del tw hn, if_pos rfl]
  rw [put_new hk]
  exact ((del_perm hn hp ip).append_right _).trans (put_perm (waitT M) ip e.due).symm

set_option maxRecDepth 100000 in
set_option maxHeartbeats 1000000 in
theorem learn_there (c : Nat) (ip : Int) (mac : Mac6) (now : Nat) (M : CM) (B : CB) (w : World) (h : CacheAt w c M B) (h0 : 0 ≤ ip) (h1 : ip < 4294967296) (hn : M.count < 4611686018427387904) (hlife : M.life ≤ 4294967296) (hroom : M.ent.length ≤ 16383) (e0 : Ent) (hth : lk M.ent ip = some e0) :
    Calls Tryz.prog 12 #[.pointer (some ⟨c, 0, none⟩), .int .u32 ip, macV mac, .int .u64 now] w fun e w' =>
      e = .returned (((lk M.rows ip).map RowM.v).getD (.slice none 0 0)) ∧ CachePost c { setEntM M ip mac now with rows := del M.rows ip } B w w' := by
  obtain ⟨tl, tw, hr, hpl, hpw⟩ := h
  have hc4 : w.cell? ⟨c, 4, none⟩ = some (.map (some B.me)) := hr.cells.cell (o := 4) (by omega)
  have hcl := hr.cells.lt
  have hcl1 : c < w.heap.size + 1 := by omega
  have hcl2 : c < w.heap.size + 1 + 1 := by omega
  have HE := Lib.hid (fun o => hr.ent.of_block (w' := w.alloc o) (Below.heap_alloc _ _ _ hr.ent.lt))
  have Hth := Lib.hid hth
  clear hth
  unfold macV
  go_enter Tryz.func12, Tryz.ntmps12
  go_wp2_with (at_lookup; refine wpList_lookup_ok_at rfl _ _ _ rfl kU32 und_entmap (zent _) rfl (HE.out _) ip rfl ?_; rw [Hth.out]; simp only [Option.map_some, Option.getD_some, Option.isSome_some, entV])
  go_quiet (fail)
  go_wp2_with fail
  generalize hw2 : World.drewN ((w.alloc _).alloc _) _ = w2
  have hr2 : CacheRaw w2 c M B tl tw := by rw [← hw2]; exact ((hr.alloc _).alloc _).drewN _
  have hmb : w2.heap[w.heap.size]? = some (macObj mac) := by
    rw [← hw2]; exact (Below.heap_alloc _ _ _ (by simp)).trans (World.alloc_heap_new _ _)
  have hk2 : Keep (fun _ => False) w w2 := by rw [← hw2]; exact (((Keep.refl _ w).alloc _).alloc _).drewN _
  clear hw2
  have hmn : ¬ B.fp c w.heap.size := fun x => absurd (hr.lt x) (by omega)
  have hst : Step c B w B w2 := ⟨hk2.mono (fun _ _ h => h.elim), fun _ h => .inl h⟩
  have hr2d : CacheRaw w2.drew c M B tl tw := hr2.drewN 1
  have hS2 : LearnS c (B).me w.heap.size mac w2.drew := learnS hr2d hmb
  go_region_held3 (fun w' => w'.cell? ⟨c, 4, none⟩ = some (.map (some (B).me)) ∧ w'.cell? ⟨w.heap.size, 0, none⟩ = some (.int .u8 mac.a0) ∧ w'.cell? ⟨w.heap.size, 1, none⟩ = some (.int .u8 mac.a1) ∧ w'.cell? ⟨w.heap.size, 2, none⟩ = some (.int .u8 mac.a2) ∧ w'.cell? ⟨w.heap.size, 3, none⟩ = some (.int .u8 mac.a3) ∧ w'.cell? ⟨w.heap.size, 4, none⟩ = some (.int .u8 mac.a4) ∧ w'.cell? ⟨w.heap.size, 5, none⟩ = some (.int .u8 mac.a5)) (first | exact hS2 | exact hS3 | exact hS4)
    (first | (go_at_call 53; refine (next_any c (M) (B) tl tw w2.drew hr2d hn).mono ?_; rintro e w3 ⟨rfl, hr3, hs3⟩; have hm3 := hs3.keep.heap (b := w.heap.size) (w := w2.drew) hmb hmn; have hS3 : LearnS c (B).me w.heap.size mac w3 := learnS hr3 hm3; obtain ⟨o4, hu4, hat4⟩ := run_update_at (P := Tryz.prog) (T := 120) kU32 und_entmap hr3.ent ip (⟨mac, (M).count + 1, tm61 now + (M).life⟩ : Ent); simp only [entV, Int.natCast_add, Int.natCast_one, Int.cast_ofNat_Int] at hu4; have hk4 : Keep (fun i => i = (B).me) w3 (w3.putObj (B).me o4) := (Keep.refl (fun i => i = (B).me) w3).putObj (fun _ => rfl) o4; have hr4 := hr3.setEnt hk4 hat4; have hm4 := hr4.2.keep.heap hm3 hmn; have hS4 : LearnS c (B).me w.heap.size mac (w3.putObj (B).me o4) := learnS hr4.1 hm4))
  generalize hw4 : w3.putObj (B).me o4 = w4 at *
  have hr4r := hr4.1
  have hc6 : w4.cell? ⟨c, 6, none⟩ = some (.pointer (some ⟨(B).bl, 0, none⟩)) := hr4r.cells.cell (o := 6) (by omega)
  have hc2 : w4.cell? ⟨c, 2, none⟩ = some (.int .u64 M.life) := hr4r.cells.cell (o := 2) (by omega)
  obtain ⟨d, hd⟩ : ∃ d : Nat, d = tm61 now + M.life := ⟨_, rfl⟩
  have hdw : IntKind.u64.wrap (min (now : Int) 2305843009213693952 + (M.life : Int)) = (d : Int) := by rw [IntKind.wrap_u64]; unfold tm61 at hd; omega
  have hcv : IntKind.i64.wrap ip = ip := by rw [IntKind.wrap_i64]; omega
  have hcl4 : c < w4.heap.size := hr4r.cells.lt
  have hdb : d ≤ 4611686018427387904 := by unfold tm61 at hd; omega
  have Hd := Lib.hid hd
  clear hd hS2 hS3 hS4 hu4 hw4
  go_wp2_with fail
  refine wp_region_still_tail 14 (by kernel_rfl) (by kernel_rfl) ?_
  simp only [List.take_succ_cons, List.take_zero, List.drop_succ_cons, List.drop_zero, World.drew_eq]
  repeat still_step
  refine wpStill_nil ?_
  go_wp2_with fail
  refine (set_ok (B).bl 0 d ip tl (B).WL w4.drew (hr4r.drewN 1).lives hdb (.inr (by have := hpl.length_eq; unfold liveT at this; simp at this; omega))).mono ?_
  rintro e w5 ⟨rfl, hp5⟩
  obtain ⟨W, hr5, hs5⟩ := (hr4r.drewN 1).setLives hp5
  go_wp2_with fail
  refine (release_any c ip (setEntM (M) ip mac now) { (B) with WL := W } w5 ⟨_, tw, hr5, by rw [Hd.out]; exact set_perm hr2.lives.nodup hpl ip (⟨mac, (M).count + 1, tm61 now + M.life⟩ : Ent), hpw⟩ h0 h1).mono ?_
  rintro e w6 ⟨rfl, B6, hA6, hs6⟩
  go_wp2_with fail
  go_ret
  refine ⟨rfl, B6, hA6, ?_⟩
  have s1 : Step c B w (B) w2.drew := ⟨hst.keep.drewN 1, hst.fp⟩
  have s4 : Step c (B) w4 (B) w4.drew := ⟨(Keep.refl _ w4).drewN 1, fun _ h => .inl h⟩
  exact ((((s1.trans hs3).trans hr4.2).trans s4).trans hs5).trans hs6

set_option maxRecDepth 100000 in
set_option maxHeartbeats 1000000 in
theorem learn_new (c : Nat) (ip : Int) (mac : Mac6) (now : Nat) (M : CM) (B : CB) (w : World) (h : CacheAt w c M B) (h0 : 0 ≤ ip) (h1 : ip < 4294967296) (hn : M.count < 4611686018427387904) (hlife : M.life ≤ 4294967296) (hroom : M.ent.length ≤ 16383) (hth : lk M.ent ip = none) (hfree : M.ent.length < M.room) :
    Calls Tryz.prog 12 #[.pointer (some ⟨c, 0, none⟩), .int .u32 ip, macV mac, .int .u64 now] w fun e w' =>
      e = .returned (((lk M.rows ip).map RowM.v).getD (.slice none 0 0)) ∧ CachePost c { setEntM M ip mac now with rows := del M.rows ip } B w w' := by
  obtain ⟨tl, tw, hr, hpl, hpw⟩ := h
  have hc4 : w.cell? ⟨c, 4, none⟩ = some (.map (some B.me)) := hr.cells.cell (o := 4) (by omega)
  have hcl := hr.cells.lt
  have hcl1 : c < w.heap.size + 1 := by omega
  have hcl2 : c < w.heap.size + 1 + 1 := by omega
  have HE := Lib.hid (fun o => hr.ent.of_block (w' := w.alloc o) (Below.heap_alloc _ _ _ hr.ent.lt))
  have Hth := Lib.hid hth
  clear hth
  unfold macV
  go_enter Tryz.func12, Tryz.ntmps12
  go_wp2_with (at_lookup; refine wpList_lookup_ok_at rfl _ _ _ rfl kU32 und_entmap (zent _) rfl (HE.out _) ip rfl ?_; rw [Hth.out]; simp only [Option.map_none, Option.getD_none, Option.isSome_none, entV, Mac6.zero])
  generalize hw1 : (World.alloc (World.alloc w _) _) = w1
  have hr1 : CacheRaw w1 c M B tl tw := by rw [← hw1]; exact (hr.alloc _).alloc _
  have hk1 : Keep (fun _ => False) w w1 := by rw [← hw1]; exact ((Keep.refl _ w).alloc _).alloc _
  have hmb : w1.heap[w.heap.size]? = some (macObj mac) := by
    rw [← hw1]; exact (Below.heap_alloc _ _ _ (by simp)).trans (World.alloc_heap_new _ _)
  clear hw1
  have hcl3 : c < w1.heap.size := hr1.cells.lt
  have hc41 : w1.cell? ⟨c, 4, none⟩ = some (.map (some B.me)) := hr1.cells.cell (o := 4) (by omega)
  have hc01 : w1.cell? ⟨c, 0, none⟩ = some (.int .i64 M.room) := hr1.cells.cell (o := 0) (by omega)
  have hln : ∀ ty n, (Builtin.len_ #[120] ty #[.map (some B.me)]).run Tryz.prog (w1.drewN n) = .ok (.int .i64 M.ent.length) (w1.drewN n) := fun ty n => run_len_at und_entmap (hr1.drewN n).ent ty
  have hfi : (M.ent.length : Int) < M.room := by omega
  go_quiet (fail)
  go_wp2_with fail
  generalize hw2 : World.drewN w1 _ = w2
  have hr2 : CacheRaw w2 c M B tl tw := by rw [← hw2]; exact hr1.drewN _
  have hmb : w2.heap[w.heap.size]? = some (macObj mac) := by rw [← hw2]; exact hmb
  have hk2 : Keep (fun _ => False) w w2 := by rw [← hw2]; exact hk1.drewN _
  clear hw2 hln hfi hcl3 hc41 hc01
  have hmn : ¬ B.fp c w.heap.size := fun x => absurd (hr.lt x) (by omega)
  have hst : Step c B w B w2 := ⟨hk2.mono (fun _ _ h => h.elim), fun _ h => .inl h⟩
  have hr2d : CacheRaw w2.drew c M B tl tw := hr2.drewN 1
  have hS2 : LearnS c (B).me w.heap.size mac w2.drew := learnS hr2d hmb
  go_region_held3 (fun w' => w'.cell? ⟨c, 4, none⟩ = some (.map (some (B).me)) ∧ w'.cell? ⟨w.heap.size, 0, none⟩ = some (.int .u8 mac.a0) ∧ w'.cell? ⟨w.heap.size, 1, none⟩ = some (.int .u8 mac.a1) ∧ w'.cell? ⟨w.heap.size, 2, none⟩ = some (.int .u8 mac.a2) ∧ w'.cell? ⟨w.heap.size, 3, none⟩ = some (.int .u8 mac.a3) ∧ w'.cell? ⟨w.heap.size, 4, none⟩ = some (.int .u8 mac.a4) ∧ w'.cell? ⟨w.heap.size, 5, none⟩ = some (.int .u8 mac.a5)) (first | exact hS2 | exact hS3 | exact hS4)
    (first | (go_at_call 53; refine (next_any c (M) (B) tl tw w2.drew hr2d hn).mono ?_; rintro e w3 ⟨rfl, hr3, hs3⟩; have hm3 := hs3.keep.heap (b := w.heap.size) (w := w2.drew) hmb hmn; have hS3 : LearnS c (B).me w.heap.size mac w3 := learnS hr3 hm3; obtain ⟨o4, hu4, hat4⟩ := run_update_at (P := Tryz.prog) (T := 120) kU32 und_entmap hr3.ent ip (⟨mac, (M).count + 1, tm61 now + (M).life⟩ : Ent); simp only [entV, Int.natCast_add, Int.natCast_one, Int.cast_ofNat_Int] at hu4; have hk4 : Keep (fun i => i = (B).me) w3 (w3.putObj (B).me o4) := (Keep.refl (fun i => i = (B).me) w3).putObj (fun _ => rfl) o4; have hr4 := hr3.setEnt hk4 hat4; have hm4 := hr4.2.keep.heap hm3 hmn; have hS4 : LearnS c (B).me w.heap.size mac (w3.putObj (B).me o4) := learnS hr4.1 hm4))
  generalize hw4 : w3.putObj (B).me o4 = w4 at *
  have hr4r := hr4.1
  have hc6 : w4.cell? ⟨c, 6, none⟩ = some (.pointer (some ⟨(B).bl, 0, none⟩)) := hr4r.cells.cell (o := 6) (by omega)
  have hc2 : w4.cell? ⟨c, 2, none⟩ = some (.int .u64 M.life) := hr4r.cells.cell (o := 2) (by omega)
  obtain ⟨d, hd⟩ : ∃ d : Nat, d = tm61 now + M.life := ⟨_, rfl⟩
  have hdw : IntKind.u64.wrap (min (now : Int) 2305843009213693952 + (M.life : Int)) = (d : Int) := by rw [IntKind.wrap_u64]; unfold tm61 at hd; omega
  have hcv : IntKind.i64.wrap ip = ip := by rw [IntKind.wrap_i64]; omega
  have hcl4 : c < w4.heap.size := hr4r.cells.lt
  have hdb : d ≤ 4611686018427387904 := by unfold tm61 at hd; omega
  have Hd := Lib.hid hd
  clear hd hS2 hS3 hS4 hu4 hw4
  go_wp2_with fail
  refine wp_region_still_tail 14 (by kernel_rfl) (by kernel_rfl) ?_
  simp only [List.take_succ_cons, List.take_zero, List.drop_succ_cons, List.drop_zero, World.drew_eq]
  repeat still_step
  refine wpStill_nil ?_
  go_wp2_with fail
  refine (set_ok (B).bl 0 d ip tl (B).WL w4.drew (hr4r.drewN 1).lives hdb (.inr (by have := hpl.length_eq; unfold liveT at this; simp at this; omega))).mono ?_
  rintro e w5 ⟨rfl, hp5⟩
  obtain ⟨W, hr5, hs5⟩ := (hr4r.drewN 1).setLives hp5
  go_wp2_with fail
  refine (release_any c ip (setEntM (M) ip mac now) { (B) with WL := W } w5 ⟨_, tw, hr5, by rw [Hd.out]; exact set_perm hr2.lives.nodup hpl ip (⟨mac, (M).count + 1, tm61 now + M.life⟩ : Ent), hpw⟩ h0 h1).mono ?_
  rintro e w6 ⟨rfl, B6, hA6, hs6⟩
  go_wp2_with fail
  go_ret
  refine ⟨rfl, B6, hA6, ?_⟩
  have s1 : Step c B w (B) w2.drew := ⟨hst.keep.drewN 1, hst.fp⟩
  have s4 : Step c (B) w4 (B) w4.drew := ⟨(Keep.refl _ w4).drewN 1, fun _ h => .inl h⟩
  exact ((((s1.trans hs3).trans hr4.2).trans s4).trans hs5).trans hs6

set_option maxRecDepth 100000 in
set_option maxHeartbeats 1000000 in
theorem learn_full (c : Nat) (ip : Int) (mac : Mac6) (now : Nat) (M : CM) (B : CB) (w : World) (h : CacheAt w c M B) (h0 : 0 ≤ ip) (h1 : ip < 4294967296) (hn : M.count < 4611686018427387904) (hlife : M.life ≤ 4294967296) (hroom : M.ent.length ≤ 16383) (hth : lk M.ent ip = none) (hfull : M.room ≤ M.ent.length) (hne : M.ent ≠ []) (hkeys : ∀ k ∈ keys M.ent, 0 ≤ k ∧ k < 4294967296) :
    Calls Tryz.prog 12 #[.pointer (some ⟨c, 0, none⟩), .int .u32 ip, macV mac, .int .u64 now] w fun e w' =>
      ∃ m, m ∈ keys M.ent ∧ (∀ p ∈ M.ent, ordIn M.ent m ≤ p.2.order) ∧ e = .returned (((lk M.rows ip).map RowM.v).getD (.slice none 0 0)) ∧ CachePost c { setEntM { M with ent := del M.ent m } ip mac now with rows := del M.rows ip } B w w' := by
  obtain ⟨tl, tw, hr, hpl, hpw⟩ := h
  have hc4 : w.cell? ⟨c, 4, none⟩ = some (.map (some B.me)) := hr.cells.cell (o := 4) (by omega)
  have hcl := hr.cells.lt
  have hcl1 : c < w.heap.size + 1 := by omega
  have hcl2 : c < w.heap.size + 1 + 1 := by omega
  have HE := Lib.hid (fun o => hr.ent.of_block (w' := w.alloc o) (Below.heap_alloc _ _ _ hr.ent.lt))
  have Hth := Lib.hid hth
  clear hth
  unfold macV
  go_enter Tryz.func12, Tryz.ntmps12
  go_wp2_with (at_lookup; refine wpList_lookup_ok_at rfl _ _ _ rfl kU32 und_entmap (zent _) rfl (HE.out _) ip rfl ?_; rw [Hth.out]; simp only [Option.map_none, Option.getD_none, Option.isSome_none, entV, Mac6.zero])
  generalize hw1 : (World.alloc (World.alloc w _) _) = w1
  have hr1 : CacheRaw w1 c M B tl tw := by rw [← hw1]; exact (hr.alloc _).alloc _
  have hk1 : Keep (fun _ => False) w w1 := by rw [← hw1]; exact ((Keep.refl _ w).alloc _).alloc _
  have hmb : w1.heap[w.heap.size]? = some (macObj mac) := by
    rw [← hw1]; exact (Below.heap_alloc _ _ _ (by simp)).trans (World.alloc_heap_new _ _)
  clear hw1
  have hcl3 : c < w1.heap.size := hr1.cells.lt
  have hc41 : w1.cell? ⟨c, 4, none⟩ = some (.map (some B.me)) := hr1.cells.cell (o := 4) (by omega)
  have hc01 : w1.cell? ⟨c, 0, none⟩ = some (.int .i64 M.room) := hr1.cells.cell (o := 0) (by omega)
  have hln : ∀ ty n, (Builtin.len_ #[120] ty #[.map (some B.me)]).run Tryz.prog (w1.drewN n) = .ok (.int .i64 M.ent.length) (w1.drewN n) := fun ty n => run_len_at und_entmap (hr1.drewN n).ent ty
  have hfi : (M.room : Int) ≤ M.ent.length := by omega
  go_quiet (fail)
  go_wp2_with fail
  generalize hw2 : World.drewN w1 _ = wA
  have hrA : CacheRaw wA c M B tl tw := by rw [← hw2]; exact hr1.drewN _
  have hmA : wA.heap[w.heap.size]? = some (macObj mac) := by rw [← hw2]; exact hmb
  have hkA : Keep (fun _ => False) w wA := by rw [← hw2]; exact hk1.drewN _
  clear hw2 hln hfi hcl3 hc41 hc01 hmb
  refine (eldest_any c M B wA ⟨tl, tw, hrA, hpl, hpw⟩ (by omega) hne).mono ?_
  rintro e wB ⟨m, rfl, hm, hmin, hkB⟩
  obtain ⟨hm0, hm1⟩ := hkeys m hm
  have hmlen : (del M.ent m).length ≤ 16383 := Nat.le_trans (keys_del_sub M.ent m).length_le hroom
  clear hroom
  have hroom := hmlen
  go_wp2_with fail
  refine (drop_any c m M B wB ⟨tl, tw, hrA.keep hkB (fun _ _ h => h), hpl, hpw⟩ hm0 hm1).mono ?_
  rintro e w2 ⟨rfl, BB, ⟨tl, tw, hr2, hpl, hpw⟩, hsB⟩
  go_wp2_with fail
  have hmB := hkB.heap hmA (fun h => h)
  have hmn : ¬ BB.fp c w.heap.size := fun x => by
    rcases hsB.fp _ x with x | x
    · exact absurd (hr.lt x) (by omega)
    · have := lt_of_heap hmB; omega
  have hmb : w2.heap[w.heap.size]? = some (macObj mac) := hsB.keep.heap hmB (fun x => absurd (hr.lt x) (by omega))
  have hst : Step c B w BB w2 := (Step.trans (B' := B) ⟨(hkA.trans hkB (fun _ h => h) (fun _ _ h => h)).mono (fun _ _ h => h.elim), fun _ h => .inl h⟩ hsB)
  have hr2d : CacheRaw w2.drew c { M with ent := del M.ent m } BB tl tw := hr2.drewN 1
  have hS2 : LearnS c (BB).me w.heap.size mac w2.drew := learnS hr2d hmb
  go_region_held3 (fun w' => w'.cell? ⟨c, 4, none⟩ = some (.map (some (BB).me)) ∧ w'.cell? ⟨w.heap.size, 0, none⟩ = some (.int .u8 mac.a0) ∧ w'.cell? ⟨w.heap.size, 1, none⟩ = some (.int .u8 mac.a1) ∧ w'.cell? ⟨w.heap.size, 2, none⟩ = some (.int .u8 mac.a2) ∧ w'.cell? ⟨w.heap.size, 3, none⟩ = some (.int .u8 mac.a3) ∧ w'.cell? ⟨w.heap.size, 4, none⟩ = some (.int .u8 mac.a4) ∧ w'.cell? ⟨w.heap.size, 5, none⟩ = some (.int .u8 mac.a5)) (first | exact hS2 | exact hS3 | exact hS4)
    (first | (go_at_call 53; refine (next_any c ({ M with ent := del M.ent m }) (BB) tl tw w2.drew hr2d hn).mono ?_; rintro e w3 ⟨rfl, hr3, hs3⟩; have hm3 := hs3.keep.heap (b := w.heap.size) (w := w2.drew) hmb hmn; have hS3 : LearnS c (BB).me w.heap.size mac w3 := learnS hr3 hm3; obtain ⟨o4, hu4, hat4⟩ := run_update_at (P := Tryz.prog) (T := 120) kU32 und_entmap hr3.ent ip (⟨mac, ({ M with ent := del M.ent m }).count + 1, tm61 now + ({ M with ent := del M.ent m }).life⟩ : Ent); simp only [entV, Int.natCast_add, Int.natCast_one, Int.cast_ofNat_Int] at hu4; have hk4 : Keep (fun i => i = (BB).me) w3 (w3.putObj (BB).me o4) := (Keep.refl (fun i => i = (BB).me) w3).putObj (fun _ => rfl) o4; have hr4 := hr3.setEnt hk4 hat4; have hm4 := hr4.2.keep.heap hm3 hmn; have hS4 : LearnS c (BB).me w.heap.size mac (w3.putObj (BB).me o4) := learnS hr4.1 hm4))
  generalize hw4 : w3.putObj (BB).me o4 = w4 at *
  have hr4r := hr4.1
  have hc6 : w4.cell? ⟨c, 6, none⟩ = some (.pointer (some ⟨(BB).bl, 0, none⟩)) := hr4r.cells.cell (o := 6) (by omega)
  have hc2 : w4.cell? ⟨c, 2, none⟩ = some (.int .u64 M.life) := hr4r.cells.cell (o := 2) (by omega)
  obtain ⟨d, hd⟩ : ∃ d : Nat, d = tm61 now + M.life := ⟨_, rfl⟩
  have hdw : IntKind.u64.wrap (min (now : Int) 2305843009213693952 + (M.life : Int)) = (d : Int) := by rw [IntKind.wrap_u64]; unfold tm61 at hd; omega
  have hcv : IntKind.i64.wrap ip = ip := by rw [IntKind.wrap_i64]; omega
  have hcl4 : c < w4.heap.size := hr4r.cells.lt
  have hdb : d ≤ 4611686018427387904 := by unfold tm61 at hd; omega
  have Hd := Lib.hid hd
  clear hd hS2 hS3 hS4 hu4 hw4
  go_wp2_with fail
  refine wp_region_still_tail 14 (by kernel_rfl) (by kernel_rfl) ?_
  simp only [List.take_succ_cons, List.take_zero, List.drop_succ_cons, List.drop_zero, World.drew_eq]
  repeat still_step
  refine wpStill_nil ?_
  go_wp2_with fail
  refine (set_ok (BB).bl 0 d ip tl (BB).WL w4.drew (hr4r.drewN 1).lives hdb (.inr (by have := hpl.length_eq; unfold liveT at this; simp at this; omega))).mono ?_
  rintro e w5 ⟨rfl, hp5⟩
  obtain ⟨W, hr5, hs5⟩ := (hr4r.drewN 1).setLives hp5
  go_wp2_with fail
  refine (release_any c ip (setEntM ({ M with ent := del M.ent m }) ip mac now) { (BB) with WL := W } w5 ⟨_, tw, hr5, by rw [Hd.out]; exact set_perm hr2.lives.nodup hpl ip (⟨mac, ({ M with ent := del M.ent m }).count + 1, tm61 now + M.life⟩ : Ent), hpw⟩ h0 h1).mono ?_
  rintro e w6 ⟨rfl, B6, hA6, hs6⟩
  go_wp2_with fail
  go_ret
  refine ⟨m, hm, hmin,⟨rfl, B6, hA6, ?_⟩⟩
  have s1 : Step c B w (BB) w2.drew := ⟨hst.keep.drewN 1, hst.fp⟩
  have s4 : Step c (BB) w4 (BB) w4.drew := ⟨(Keep.refl _ w4).drewN 1, fun _ h => .inl h⟩
  exact ((((s1.trans hs3).trans hr4.2).trans s4).trans hs5).trans hs6
end Go.Proofs.YtdacbgdinmaemaaGreatDoor

namespace Go.Proofs.YtdacbgdinmaemaaGreatDoor
open Go Go.RowKit Vz Go.Shelf

theorem int_info : (Tryz.prog.info? 3).map (fun i => (i.zero, i.size, i.bytes)) = some (some (.int .i64 0), 1, 8) := by kernel_rfl

theorem clone_toks (v : Value) (xs : List Int) (w : World) (h : w.ownsRow 0 3 1 v xs.length (xs.map ki)) (hb : xs.length ≤ 16384) :
    Calls Tryz.prog 56 #[v] w fun e w' => ∃ v', e = .returned v' ∧ w'.ownsRow w.heap.size 3 1 v' xs.length (xs.map ki) ∧ Below w.heap.size w w' := by
  rcases h.2 with ⟨rfl, h0⟩ | ⟨g, cap, cur, rfl, hg, hblk, hl, hc, hsz, htk⟩
  · refine (Tryz.slices_Clone_int_nil 0 0 w).mono ?_
    rintro e w' ⟨rfl, rfl⟩
    have : xs = [] := List.length_eq_zero_iff.1 h0
    subst this
    exact ⟨_, rfl, World.ownsRow_nil _ _ _ _, Below.refl _ _⟩
  · refine (Tryz.slices_Clone_int g 0 xs.length cap xs w (Nat.le_refl _) (by omega) (fun j hj => ?_)).mono ?_
    · rw [Nat.zero_add, h.cellAt j (by omega)]; simp [hj, List.getD, List.getElem?_eq_getElem hj]
    · rintro e w' ⟨v', rfl, h1, _, h2⟩
      rw [List.take_length] at h1
      exact ⟨v', rfl, h1, h2⟩

theorem ownsRow_mono0 {w : World} {base : Nat} {e : TypeId} {size : Nat} {v : Value} {n : Nat} {xs : List Value} (h : w.ownsRow base e size v n xs) : w.ownsRow 0 e size v n xs := by
  obtain ⟨h1, h2 | ⟨g, cap, cur, hv, hg, h3⟩⟩ := h
  · exact ⟨h1, .inl h2⟩
  · exact ⟨h1, .inr ⟨g, cap, cur, hv, Nat.zero_le _, h3⟩⟩
theorem put_same {ν : Type} {l : List (Int × ν)} {k : Int} {v : ν} (h : lk l k = some v) : put l k v = l := by
  induction l with
  | nil => cases h
  | cons p l ih =>
    rw [lk_cons] at h
    unfold put
    by_cases e : p.1 = k
    · rw [if_pos e] at h ⊢; cases h; subst e; rfl
    · rw [if_neg e] at h ⊢; rw [ih h]
theorem mem_put {ν : Type} {l : List (Int × ν)} {k : Int} {v : ν} {p : Int × ν} (h : p ∈ put l k v) : p = (k, v) ∨ p ∈ l := by
  induction l with
  | nil => simp [put] at h; exact .inl h
  | cons q l ih =>
    unfold put at h
    split at h
    · rcases List.mem_cons.1 h with h | h
      · exact .inl h
      · exact .inr (List.mem_cons_of_mem _ h)
    · rcases List.mem_cons.1 h with h | h
      · exact .inr (h ▸ List.mem_cons_self ..)
      · exact (ih h).imp id (fun x => List.mem_cons_of_mem _ x)

theorem frozen_of {w : World} {b T : Nat} {arr : Array Value} (h : w.heap[b]? = some (.cells arr T (0, 0))) (o : Nat) : w.frozen? ⟨b, o, none⟩ = false := by simp [World.frozen?, h]

theorem app_keep {w3 w4 : World} {o : Obj} {v : Value} {b n : Nat} {e : TypeId} {xs : List Value} (hrow : w3.ownsRow b e 1 v n xs) (hg : (w3.alloc o).grownBy w4 v.ownBlock) : Keep (fun i => b ≤ i) w3 w4 := by
  refine ⟨hg.os, hg.tape, hg.output, by have := hg.size; simp at this; omega, fun k hk hn => (hg.block k (by simp; omega) (fun e => hn ?_)).trans (Below.heap_alloc _ _ _ hk)⟩
  rcases hrow.2 with ⟨rfl, _⟩ | ⟨g, cap, cur, rfl, h1, _⟩
  · simp [Value.ownBlock] at e
  · simp [Value.ownBlock] at e; subst e; exact h1

set_option maxRecDepth 100000 in
set_option maxHeartbeats 1000000 in
theorem wait_there (c : Nat) (ip token : Int) (now : Nat) (M : CM) (B : CB) (w : World) (h : CacheAt w c M B) (h0 : 0 ≤ ip) (h1 : ip < 4294967296) (r : RowM) (hth : lk M.rows ip = some r) (hlt : r.toks.length < M.wait) (hw64 : M.wait ≤ 64) :
    Calls Tryz.prog 13 #[.pointer (some ⟨c, 0, none⟩), .int .u32 ip, .int .i64 token, .int .u64 now] w fun e w' =>
      e = .returned (.tuple #[.bool false, .int .i64 0]) ∧ ∃ v', (∀ g, v'.ownBlock = some g → w.heap.size ≤ g) ∧ CachePost c { M with rows := put M.rows ip ⟨v', r.toks ++ [token], r.order, r.due⟩ } B w w' := by
  obtain ⟨i0, hi, hz0, hz1, hz2⟩ := info_parts int_info
  obtain ⟨tl, tw, hr, hpl, hpw⟩ := h
  have hc5 : w.cell? ⟨c, 5, none⟩ = some (.map (some B.mr)) := hr.cells.cell (o := 5) (by omega)
  have hcl := hr.cells.lt
  have hcl1 : c < w.heap.size + 1 := by omega
  have Hth := Lib.hid hth
  have htok := hr.toks _ (mem_keys_of_lk hth)
  simp only at htok
  clear hth
  obtain ⟨rv, rt, ro, rd⟩ := r
  simp only at htok hlt
  obtain ⟨p, cap, rfl⟩ := slice_form htok.1
  go_enter Tryz.func13, Tryz.ntmps13
  go_wp2_with (at_lookup; refine wpList_lookup_ok_at rfl _ _ _ rfl kU32 und_rowmap (zrow _) rfl hr.rows ip rfl ?_; rw [Hth.out]; simp only [Option.map_some, Option.getD_some, Option.isSome_some, rowV])
  generalize hw1 : World.alloc w _ = w1
  have hr1 : CacheRaw w1 c M B tl tw := by rw [← hw1]; exact hr.alloc _
  have hk1 : Keep (fun _ => False) w w1 := by rw [← hw1]; exact (Keep.refl _ w).alloc _
  have hrb : w1.heap[w.heap.size]? = some (.cells #[.slice p rt.length cap, .int .i64 ro] 132 (0, 0)) := by
    rw [← hw1]; exact World.alloc_heap_new _ _
  clear hw1
  have hq0 : w1.cell? ⟨w.heap.size, 0, none⟩ = some (.slice p rt.length cap) := by simp [World.cell?, hrb]
  have hc1 : w1.cell? ⟨c, 1, none⟩ = some (.int .i64 M.wait) := hr1.cells.cell (o := 1) (by omega)
  have hlti : (rt.length : Int) < M.wait := by omega
  have hltf : decide (M.wait ≤ rt.length) = false := decide_eq_false (by omega)
  have hltg : decide ((M.wait : Int) ≤ (rt.length : Int)) = false := decide_eq_false (by omega)
  have hcl3 := hr1.cells.lt
  have hrl : w.heap.size < w1.heap.size := lt_of_heap hrb
  go_quiet (fail)
  generalize hw2 : World.drewN w1 _ = w2
  have hr2 : CacheRaw w2 c M B tl tw := by rw [← hw2]; exact hr1.drewN _
  have hk2 : Keep (fun _ => False) w w2 := by rw [← hw2]; exact hk1.drewN _
  have hrb2 : w2.heap[w.heap.size]? = some (.cells #[.slice p rt.length cap, .int .i64 ro] 132 (0, 0)) := by rw [← hw2]; exact hrb
  clear hw2 hq0 hc1 hltf hltg
  have hq0 : w2.cell? ⟨w.heap.size, 0, none⟩ = some (.slice p rt.length cap) := by simp [World.cell?, hrb2]
  have htok2 := ownsRow_keep2 htok.1 hk2 (fun _ _ h => h)
  go_wp2_with fail
  refine (clone_toks _ rt w2 htok2 (by omega)).mono ?_
  rintro e w3 ⟨v3, rfl, hrow3, hb3⟩
  have hk3 := Below.keep0 hb3
  have hrb3 := hk3.heap hrb2 (fun h => h)
  have hz3 := hb3.size
  go_wp2_with (at_builtin; refine wpList_append_own _ rfl _ _ 35 rfl w2.heap.size 3 i0 (ki 0) 1 8 Tryz.underlying35 hi hz0 hz1 hz2 rfl (by decide) _ _ _ rfl (hrow3.alloc _) ⟨w3.heap.size, 0, none⟩ 1 1 [ki token] rfl rfl (cell_one_new _ _ _) (by simp [Value.oneCell']) (by unfold maxLen; omega) (by omega) (by simp; omega) ?_; intro v4 w4 hown4 hgrow4 _; obtain ⟨g4, cap4, rfl⟩ := ownsRow_succ hown4; have hk4 := app_keep hrow3 hgrow4; have hrb4 := hk4.heap hrb3 (Nat.not_le.2 (lt_of_heap hrb2)); have hf4 : w4.frozen? ⟨w.heap.size, 0, none⟩ = false := frozen_of hrb4 0; have hk24 : Keep (fun _ => False) w2 w4 := hk3.trans hk4 (fun _ h => h) (fun i hi e => absurd hi (Nat.not_lt.2 e)); clear hrb3 hrb2 hb3 hk3 hgrow4; have hq4 : w4.cell? ⟨w.heap.size, 0, none⟩ = some (.slice p rt.length cap) := by simp [World.cell?, hrb4])
  generalize hw5 : World.setCell w4 _ _ = w5
  have hrl4 : w.heap.size < w2.heap.size := by have := hk2.size; have := World.block_lt_of_cell? _ _ hq0; omega
  have hr4 : CacheRaw w4 c M B tl tw := hr2.keep hk24 (fun _ _ h => h)
  have hk45 : Keep (fun i => i = w.heap.size) w4 w5 := by rw [← hw5]; exact (Keep.refl (fun i => i = w.heap.size) w4).setCell (p := ⟨w.heap.size, 0, none⟩) (fun _ => rfl) _
  have hk05 : Keep (fun _ => False) w w5 := (hk2.trans hk24 (fun _ h => h) (fun _ _ h => h)).trans hk45 (fun _ h => h) (fun i hi e => absurd hi (by omega))
  have hr5 : CacheRaw w5 c M B tl tw := hr.keep hk05 (fun _ _ h => h)
  have g50 : w5.cell? ⟨w.heap.size, 0, none⟩ = some (.slice (some ⟨g4, 0, none⟩) (rt.length + 1) cap4) := by rw [← hw5]; exact World.cell?_setCell_same _ _ _ hq4
  have g51 : w5.cell? ⟨w.heap.size, 1, none⟩ = some (.int .i64 ro) := by
    rw [← hw5, World.cell?_setCell_other _ _ _ _ (by simp)]; simp [World.cell?, hrb4]
  have hg4 : w2.heap.size ≤ g4 := by
    rcases hown4.2 with ⟨hx, _⟩ | ⟨_, _, _, hx, hy, _⟩
    · cases hx
    · cases hx; exact hy
  have htk : TokAt w5 (B.fp c) (.slice (some ⟨g4, 0, none⟩) (rt.length + 1) cap4) (rt ++ [token]) := by
    refine ⟨?_, fun g hg hf => ?_⟩
    · have h5 := ownsRow_mono0 hown4
      have h6 := ownsRow_keep2 h5 hk45 (fun g hg e => by simp [Value.ownBlock] at hg; omega)
      simpa using h6
    · simp [Value.ownBlock] at hg; subst hg
      have := hr2.lt hf; omega
  have hc55 : w5.cell? ⟨c, 5, none⟩ = some (.map (some B.mr)) := hr5.cells.cell (o := 5) (by omega)
  have hcl5 := hr5.cells.lt
  clear hw5 hq4 hf4 hrb4 hk45 hq0
  refine wp_region_still_tail 6 (by kernel_rfl) (by kernel_rfl) ?_
  simp only [List.take_succ_cons, List.take_zero, List.drop_succ_cons, List.drop_zero, World.drew_eq]
  repeat still_step
  refine wpStill_nil ?_
  refine wpList_update_at rfl _ _ _ _ rfl kU32 und_rowmap rfl ((hr5.drewN 1).rows) ip rfl (⟨.slice (some ⟨g4, 0, none⟩) (rt.length + 1) cap4, rt ++ [token], ro, rd⟩ : RowM) rfl ?_
  intro w6 hat6 hk6 hz6
  go_wp2_with fail
  refine bodyPost_ret (v := .tuple #[.bool false, .int .i64 0]) (by simp [results, Tryz.results13, go_sem]) rfl ⟨rfl, _, (fun g hg => by simp [Value.ownBlock] at hg; omega), B, ⟨tl, tw, ((hr5.drewN 1).setRows hk6 hat6 (fun p hp => ?_)).1, hpl, ?_⟩, ?_⟩
  · rcases mem_put hp with rfl | hp
    · exact htk
    · exact hr5.toks p hp
  · refine hpw.trans ?_
    unfold waitT
    rw [← put_map (fun e : RowM => e.due) M.rows ip _]
    rw [put_same (by rw [lk_map (fun e : RowM => e.due), Hth.out]; rfl)]
  · exact ⟨((hk05.drewN 1).trans hk6 (fun _ h => h.elim) (fun i _ e => (.inr (.inr (.inl e)) : B.fp c i))), fun i hi => .inl hi⟩
end Go.Proofs.YtdacbgdinmaemaaGreatDoor
