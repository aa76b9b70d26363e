/- Contracts and plain laws of this claim, part K6. -/

import Derived.Test.YtdacbgdinmaemaaGreatDoorK5
set_option linter.all false

namespace Go.Proofs.YtdacbgdinmaemaaGreatDoor
open Go Go.RowKit Vz Go.Sort Go.Shelf

theorem Tab.keep {S : Nat → Prop} {w w' : World} (h : Tab w) (hk : Keep S w w') (hn : ¬ S 1) : Tab w' := fun j hj => hk.cell (h j hj) hn

def GoRel (w : World) (b now target : Nat) (tm : List (Int × Nat)) (B : WB) (wr : World) (now' : Nat) : Prop :=
  ∃ B', now ≤ now' ∧ now' ≤ target ∧ WheelAt wr b now' tm B' ∧ Keep (B.fp b) w wr ∧ (∀ i, B'.fp b i → B.fp b i ∨ w.heap.size ≤ i)

def nowIn (wr : World) (b : Nat) : Nat := match wr.cell? ⟨b, 0, none⟩ with | some (.int _ n) => n.toNat | _ => 0
theorem nowIn_of {wr : World} {b now : Nat} {tm : List (Int × Nat)} {B : WB} (h : WheelAt wr b now tm B) : nowIn wr b = now := by
  unfold nowIn; rw [h.raw.cells.cell (o := 0) (by omega)]; simp [wcells]

theorem slice_form {w : World} {base : Nat} {e : TypeId} {size : Nat} {v : Value} {n : Nat} {xs : List Value} (h : w.ownsRow base e size v n xs) : ∃ p cap, v = .slice p n cap := by
  rcases h.2 with ⟨rfl, rfl⟩ | ⟨g, cap, cur, rfl, _⟩
  · exact ⟨_, _, rfl⟩
  · exact ⟨_, _, rfl⟩

theorem ownsRow_keep {S : Nat → Prop} {w w' : World} {base : Nat} {e : TypeId} {size : Nat} {v : Value} {n : Nat} {xs : List Value} (h : w.ownsRow base e size v n xs) (hk : Keep S w w') (hn : ∀ g, base ≤ g → ¬ S g) : w'.ownsRow base e size v n xs := by
  obtain ⟨h1, h2 | ⟨g, cap, cur, hv, hg, hb, h3⟩⟩ := h
  · exact ⟨h1, .inl h2⟩
  · exact ⟨h1, .inr ⟨g, cap, cur, hv, hg, hk.heap hb (hn g hg), h3⟩⟩

set_option maxHeartbeats 1000000 in
theorem over_sorted (b bx bm now mt mo : Nat) (tm : List (Int × Nat)) (W : World) (ks : List Int) (hbx : W.cell? ⟨bx, 0, none⟩ = some (.pointer (some ⟨b, 0, none⟩))) (hc1 : W.cell? ⟨b, 1, none⟩ = some (.map (some mt)))
    (hM : MapAt W mt ki spotV (tvOf now tm)) (hbm : W.cell? ⟨bm, 0, none⟩ = some (.map (some mo))) (hO : MapAt W mo ki Value.bool (tru ks)) (hkl : (tru ks).length ≤ 16384) (hkn : ks.Nodup) :
    Calls Tryz.prog 173 #[.func (.func 207) #[] #[.pointer (some ⟨bm, 0, none⟩)], .func (.func 175) #[] #[.pointer (some ⟨bx, 0, none⟩)]] W fun e w' =>
      ∃ p cap xs, e = .returned (.slice p (xs : List Int).length cap) ∧ xs.Perm ks ∧ xs.Pairwise (fun x y => cmpDue tm x y < 0) ∧ w'.ownsRow W.heap.size 3 1 (.slice p xs.length cap) xs.length (xs.map fun n => Value.int .i64 n) ∧
        (Value.slice p xs.length cap = .slice none 0 0 ↔ xs = []) ∧ RowKit.Below W.heap.size W w' := by
  have hkt : keys (tru ks) = ks := by simp [keys, tru, Function.comp_def]
  have hseq := kb_keys_stops Fence.wide 2 trivial rfl (by omega) bm mo (tru ks) W (World.block_lt_of_cell? _ _ hbm) hbm hO
  refine (ai_sorted _ _ (enters_of Tryz.func207 (by kernel_rfl) rfl) _ _ _ (by omega) (by omega) (fun xs hx => by have := hx.length_eq; unfold keys at this; simp at this ⊢; omega) W hseq
    175 #[.pointer (some ⟨bx, 0, none⟩)] (enters_of Tryz.func175 (by kernel_rfl) rfl) (cmpDue tm) (cmpDue_swo tm) (cmpDue_total tm) (fun W' hW' x y => ?_)).mono ?_
  · have k := Keep.of_below (S := fun _ => False) hW' (fun i h1 h2 => absurd h1 (by omega))
    exact go_cmp b bx now mt tm W' x y (k.cell hbx (fun h => h)) (k.cell hc1 (fun h => h)) (hM.keep k (fun h => h))
  · rintro e w' ⟨v, ss, rfl, hp, hrow, hnil, hb⟩
    rw [hkt] at hp
    obtain ⟨h1, h2⟩ := mergeSort_asc (cmpDue_swo tm) (cmpDue_total tm) ss (hp.nodup_iff.2 hkn)
    obtain ⟨p, cap, rfl⟩ := slice_form hrow
    have hl := h1.length_eq
    refine ⟨p, cap, _, by rw [hl], h1.trans hp, h2, by rw [hl]; exact hrow, ?_, hb⟩
    rw [hl, hnil]
    constructor
    · rintro rfl; simp
    · intro e; rw [e] at h1; exact (List.Perm.nil_eq h1).symm

set_option maxRecDepth 100000 in
set_option maxHeartbeats 1000000 in
theorem go_any (b now target : Nat) (tm : List (Int × Nat)) (B : WB) (w : World) (h : WheelAt w b now tm B) (hT : Tab w) (hTB : ¬ B.fp b 1) (htn : now ≤ target) (htm : target ≤ 4611686018427387904) (hlen : tm.length ≤ 16384) :
    Calls Tryz.prog 121 #[.pointer (some ⟨b, 0, none⟩), .int .u64 target] w fun e w' => ∃ (v : Value) (xs : List Int) (B' : WB) (hs : Nat), e = .returned (.tuple #[v, .int .i64 0]) ∧
      w'.ownsRow hs 3 1 v xs.length (xs.map fun n => Value.int .i64 n) ∧ (v = .slice none 0 0 ↔ xs = []) ∧ xs.Perm (keys (tm.filter (fun p => p.2 ≤ target))) ∧ xs.Pairwise (fun x y => cmpDue tm x y < 0) ∧
      WheelAt w' b target (tm.filter (fun p => target < p.2)) B' ∧ Keep (B.fp b) w w' ∧ w.heap.size ≤ hs ∧ ∀ i, B'.fp b i → i < hs ∧ (B.fp b i ∨ w.heap.size ≤ i) := by
  have hb := h.raw.cells.lt
  have hTz : 1 < w.heap.size := World.block_lt_of_cell? _ _ (hT 0 (by decide))
  have hti : (target : Int) ≤ 4611686018427387904 := by omega
  have hc0 : w.cell? ⟨b, 0, none⟩ = some (.int .u64 now) := h.raw.cells.cell (o := 0) (by omega)
  have hni : ¬ (target : Int) < now := by omega
  have HT := Lib.hid (hT.keep ((Keep.refl (fun _ => False) w).alloc (.cells #[.pointer (some ⟨b, 0, none⟩)] 117)) (fun h => h))
  have hfpb : ∀ i, B.fp b i → i < w.heap.size := fun i hi => h.raw.lt hi
  clear hT
  go_enter Tryz.func121, Tryz.ntmps121
  go_wp2_with fail
  go_loopw [6, 7, 8, 9] (fun _ _ _ _ wr => ∃ now', GoRel (w.alloc (.cells #[.pointer (some ⟨b, 0, none⟩)] 117)) b now target tm B wr now') (fun _ _ _ _ wr => target - nowIn wr b)
  case atStart =>
    exact ⟨now, B, Nat.le_refl _, htn, ⟨h.raw.of_blocks fun i hi => Below.heap_alloc _ _ _ (hfpb i hi), h.nodup, h.due, h.now⟩, Keep.refl _ _, fun i hi => .inl hi⟩
  case round =>
    obtain ⟨now', B', hn1, hn2, hW, hK, hfp⟩ := hrel
    have Hm := Lib.hid (nowIn_of hW)
    have hbox : wr.cell? ⟨w.heap.size, 0, none⟩ = some (.pointer (some ⟨b, 0, none⟩)) := hK.cell (by simp) (fun hx => absurd (hfpb _ hx) (by simp))
    have hbx : w.heap.size < wr.heap.size := World.block_lt_of_cell? _ _ hbox
    have hnbx : ¬ B'.fp b w.heap.size := fun x => (hfp _ x).elim (fun y => absurd (hfpb _ y) (by omega)) (fun y => by simp at y; omega)
    have HTr := Lib.hid (HT.out.keep hK hTB)
    have hcn : wr.cell? ⟨b, 0, none⟩ = some (.int .u64 now') := hW.raw.cells.cell (o := 0) (by omega)
    have hfz : wr.frozen? ⟨b, 0, none⟩ = false := hW.raw.cells.frozen 0
    have hc7 : wr.cell? ⟨b, 717, none⟩ = some (.map (some B'.mo)) := hW.raw.cells.cell (o := 717) (by omega)
    clear hc0 hni
    go_wp2_with fail
    refine (first_any b now' tm B' wr hW HTr.out).mono ?_
    rintro e w1 ⟨⟨n, rfl⟩, (⟨rfl, hall⟩ | ⟨k, j, d0, r, rfl, hk, hj, hd0, hs0, hr, hmin⟩)⟩
    · have hspt : ∀ p ∈ tm, spotOf target p.2 = spotOf now' p.2 := fun p hp => by
        have := hall p hp
        unfold spotOf; rw [if_pos (by omega), if_pos (by omega)]
      have hWd : WheelAt (wr.drewN n) b now' tm B' := hW.keep ((Keep.refl (fun _ => False) wr).drewN n) (fun _ _ h => h)
      have hWt := hWd.advance htm hspt
      have hbt : b < wr.heap.size := hW.raw.cells.lt
      obtain ⟨ks, hks, hnd, hmem⟩ := hWt.raw.over
      have hkp := over_perm hWt.nodup hnd hmem
      have hkl : (tru ks).length ≤ 16384 := by
        have h1 := hkp.length_eq
        have h2 := List.length_filter_le (fun p : Int × Nat => decide (p.2 ≤ target)) tm
        unfold keys at h1; simp [tru] at h1 ⊢; omega
      have hkt : keys (tru ks) = ks := by simp [keys, tru, Function.comp_def]
      go_wp2_with fail
      refine (callsIn_wide.1 (kb_keys Fence.wide 1 trivial rfl (some B'.mo) _)).mono ?_
      rintro e w2 ⟨rfl, rfl⟩
      go_wp2_with fail
      obtain ⟨w2, hw2⟩ : ∃ w2, w2 = ((wr.drewN n).setCell ⟨b, 0, none⟩ (.int .u64 (target : Int))).alloc (.cells #[.map (some B'.mo)] 230) := ⟨_, rfl⟩
      rw [← hw2]
      have hW2 : WheelAt w2 b target tm B' := by rw [hw2]; exact hWt.keep ((Keep.refl (fun _ => False) _).alloc _) (fun _ _ h => h)
      have hO2 : MapAt w2 B'.mo ki Value.bool (tru ks) := by rw [hw2]; exact hks.keep ((Keep.refl (fun _ => False) _).alloc _) (fun h => h)
      have K2 : Keep (fun i => i = b) wr w2 := by rw [hw2]; exact (((Keep.refl (fun i => i = b) wr).drewN n).setCell (p := ⟨b, 0, none⟩) (fun _ => rfl) _).alloc _
      have hbm : w2.cell? ⟨wr.heap.size, 0, none⟩ = some (.map (some B'.mo)) := by
        have e : wr.heap.size = ((wr.drewN n).setCell ⟨b, 0, none⟩ (.int .u64 (target : Int))).heap.size := by simp
        rw [hw2, e]; exact cell_one_new _ _ _ 0 _ rfl
      clear hw2 hWt hks hWd
      have hbx2 := K2.cell hbox (by simp; omega)
      refine (over_sorted b w.heap.size wr.heap.size target B'.mt B'.mo tm w2 ks hbx2 (hW2.raw.cells.cell (o := 1) (by omega)) hW2.raw.timers hbm hO2 hkl hnd).mono ?_
      rintro e w3 ⟨p, cap, xs, rfl, hxp, hxa, hrow, hnil, hB⟩
      have K3 : Keep (fun _ => False) w2 w3 := Keep.of_below hB (fun i h1 h2 => absurd h1 (by omega))
      have hW3 : WheelAt w3 b target tm B' := hW2.keep K3 (fun _ _ h => h)
      have hmx : B'.mt < w2.heap.size := hW2.raw.timers.lt
      have hbox3 := K3.cell hbx2 (fun h => h)
      have hO3 := hO2.keep K3 (fun h => h)
      have ha1 := hW.raw.apart1
      have hxl : (xs.length : Int) < 140737488355328 := by
        have h1 := hxp.length_eq; simp [tru] at hkl; omega
      go_wp2_with fail
      go_loopw [55] (fun vi wr => ∃ i : Nat, vi = .int .i64 i ∧ i ≤ xs.length ∧ MapAt wr B'.mt ki spotV ((xs.take i).foldl del (tvOf target tm)) ∧ Keep (fun i => i = B'.mt) w3 wr) (fun vi _ => xs.length - (intOf vi).toNat)
      case atStart => exact ⟨0, by go_num, by omega, by simpa using hW3.raw.timers, Keep.refl _ _⟩
      case round =>
        obtain ⟨i, rfl, hix, hMq, hKq⟩ := hrel
        have hboxq := hKq.cell hbox3 (fun e => hnbx (.inr (.inl e)))
        have hc1q := (hW3.raw.cells.of_block (hKq.block b hW3.raw.cells.lt ha1.1)).cell (o := 1) (by omega)
        have hc7q := (hW3.raw.cells.of_block (hKq.block b hW3.raw.cells.lt ha1.1)).cell (o := 717) (by omega)
        by_cases hlt : i < xs.length
        · have hi1 : (i : Int) < xs.length := by omega
          obtain ⟨g, rfl, hg⟩ : ∃ g, p = some ⟨g, 0, none⟩ ∧ w2.heap.size ≤ g := by
            rcases hrow.2 with ⟨_, h2⟩ | ⟨g, cap', cur, h1, h2, _⟩
            · omega
            · cases h1; exact ⟨g, rfl, h2⟩
          have hcell : wr.cell? ⟨g, i, none⟩ = some (.int .i64 xs[i]) := hKq.cell (by rw [hrow.cellAt i (by omega)]; simp [hlt]) (by simp; omega)
          have Hrow := Lib.hid hrow
          clear hrow hnil
          go_wp2_with (at_delete; refine wpList_delete_at rfl _ _ _ _ rfl kInt und_spotmap rfl hMq (xs[i]) rfl ?_; intro w4 hat4 hk4 hz4)
          go_roundw
          case rel =>
            refine ⟨i + 1, by go_num, by omega, ?_, hKq.trans hk4 (fun _ h => h) (fun _ _ h => h)⟩
            rw [List.take_succ_eq_append_getElem hlt, List.foldl_append]; exact hat4
          case measure => simp [intOf]; omega
        · obtain rfl : i = xs.length := by omega
          rw [List.take_length] at hMq
          have hOq : MapAt wr B'.mo ki Value.bool (tru ks) := hO3.keep hKq (fun e => ha1.2.2 e.symm)
          have Hrow := Lib.hid hrow
          have Hnil := Lib.hid hnil
          clear hrow hnil
          go_wp2_with (refine wpList_clear_at rfl _ _ rfl und_boolmap rfl hOq ?_; intro w5 hat5 hk5 hz5)
          refine bodyPost_ret (v := .tuple #[.slice p xs.length cap, .int .i64 0]) (by simp [results, Tryz.results121, go_sem]) rfl ?_
          have hKm : Keep (fun i => i = B'.mt ∨ i = B'.mo) w3 w5 := hKq.trans hk5 (fun _ e => .inl e) (fun _ _ e => .inr e)
          have hfpw : ∀ i, B'.fp b i → i < w2.heap.size := fun i hi => hW2.raw.lt hi
          have hfo : ∀ i, i < w.heap.size → B'.fp b i → B.fp b i := fun i h1 h2 => (hfp i h2).elim (fun x => x) (fun x => by simp at x; omega)
          have Kall : Keep (B.fp b) w w5 := by
            have k1 := ((Keep.refl (fun _ => False) w).alloc (.cells #[.pointer (some ⟨b, 0, none⟩)] 117)).trans hK (fun _ h => h.elim) (fun _ _ h => h)
            have k2 := k1.trans K2 (fun _ h => h) (fun i hi e => (.inl e : B.fp b i))
            have k3 := k2.trans K3 (fun _ h => h) (fun i hi e => e.elim)
            exact k3.trans hKm (fun _ h => h) (fun i hi e => hfo i hi (e.elim (fun e => .inr (.inl e)) (fun e => .inr (.inr (.inl e)))))
          refine ⟨_, xs, B', w2.heap.size, rfl, ownsRow_keep Hrow.out hKm (fun g hg e => ?_), Hnil.out, hxp.trans hkp, hxa, go_end hW3 (hxp.trans hkp) (hMq.keep hk5 ha1.2.2) hat5 hKm, Kall, ?_, fun i hi => ⟨hfpw i hi, (hfp i hi).imp (fun x => x) (fun x => by simp at x; omega)⟩⟩
          · have e1 := hfpw B'.mt (.inr (.inl rfl)); have e2 := hfpw B'.mo (.inr (.inr (.inl rfl)))
            omega
          · have := K2.size; omega
    · by_cases hft : fromOf k d0 ≤ target
      · have hfi : ¬ (target : Int) < (fromOf k d0 : Nat) := by omega
        have hWd : WheelAt (wr.drewN n) b now' tm B' := hW.keep ((Keep.refl (fun _ => False) wr).drewN n) (fun _ _ h => h)
        have hlt := now_lt_from (by have := hWd.now; omega) (by omega) hs0
        go_wp2_with fail
        refine (spill_any b now' k j r d0 tm B' (wr.drewN n) hWd hk hj hr hs0 hd0 hmin).mono ?_
        rintro e w2 ⟨rfl, B2, h1, h2, h3⟩
        have hM2 := Lib.hid (nowIn_of h1)
        go_wp2_with fail
        go_roundw
        case rel =>
          refine ⟨fromOf k d0, B2, by omega, hft, h1, (hK.drewN n).trans h2 (fun _ h => h) (fun i hi e => (hfp i e).elim (fun x => x) (fun x => absurd hi (by omega))), fun i hi => (h3 i hi).elim (hfp i) (fun x => .inr ?_)⟩
          have := hK.size; simp at x this ⊢; omega
        case measure => rw [hM2.out, Hm.out]; omega
      · have hfi : (target : Int) < (fromOf k d0 : Nat) := by omega
        have hspt : ∀ p ∈ tm, spotOf target p.2 = spotOf now' p.2 := fun p hp => by
          have hd1 := h.due p hp
          refine spot_go hn2 (by omega) (by omega) (fun k' j' hs => ?_)
          have hl := lk_of_mem h.nodup (k := p.1) (v := p.2) hp
          have hm := hmin p.1 k' j' (by unfold hungOf; rw [hl]; simp [hs])
          have := from_mono (by have := hW.now; omega) (by omega) (by omega) hs0 hs hm
          omega
        have hWd : WheelAt (wr.drewN n) b now' tm B' := hW.keep ((Keep.refl (fun _ => False) wr).drewN n) (fun _ _ h => h)
        have hWt := hWd.advance htm hspt
        have hbt : b < wr.heap.size := hW.raw.cells.lt
        obtain ⟨ks, hks, hnd, hmem⟩ := hWt.raw.over
        have hkp := over_perm hWt.nodup hnd hmem
        have hkl : (tru ks).length ≤ 16384 := by
          have h1 := hkp.length_eq
          have h2 := List.length_filter_le (fun p : Int × Nat => decide (p.2 ≤ target)) tm
          unfold keys at h1; simp [tru] at h1 ⊢; omega
        have hkt : keys (tru ks) = ks := by simp [keys, tru, Function.comp_def]
        go_wp2_with fail
        refine (callsIn_wide.1 (kb_keys Fence.wide 1 trivial rfl (some B'.mo) _)).mono ?_
        rintro e w2 ⟨rfl, rfl⟩
        go_wp2_with fail
        obtain ⟨w2, hw2⟩ : ∃ w2, w2 = ((wr.drewN n).setCell ⟨b, 0, none⟩ (.int .u64 (target : Int))).alloc (.cells #[.map (some B'.mo)] 230) := ⟨_, rfl⟩
        rw [← hw2]
        have hW2 : WheelAt w2 b target tm B' := by rw [hw2]; exact hWt.keep ((Keep.refl (fun _ => False) _).alloc _) (fun _ _ h => h)
        have hO2 : MapAt w2 B'.mo ki Value.bool (tru ks) := by rw [hw2]; exact hks.keep ((Keep.refl (fun _ => False) _).alloc _) (fun h => h)
        have K2 : Keep (fun i => i = b) wr w2 := by rw [hw2]; exact (((Keep.refl (fun i => i = b) wr).drewN n).setCell (p := ⟨b, 0, none⟩) (fun _ => rfl) _).alloc _
        have hbm : w2.cell? ⟨wr.heap.size, 0, none⟩ = some (.map (some B'.mo)) := by
          have e : wr.heap.size = ((wr.drewN n).setCell ⟨b, 0, none⟩ (.int .u64 (target : Int))).heap.size := by simp
          rw [hw2, e]; exact cell_one_new _ _ _ 0 _ rfl
        clear hw2 hWt hks hWd
        have hbx2 := K2.cell hbox (by simp; omega)
        refine (over_sorted b w.heap.size wr.heap.size target B'.mt B'.mo tm w2 ks hbx2 (hW2.raw.cells.cell (o := 1) (by omega)) hW2.raw.timers hbm hO2 hkl hnd).mono ?_
        rintro e w3 ⟨p, cap, xs, rfl, hxp, hxa, hrow, hnil, hB⟩
        have K3 : Keep (fun _ => False) w2 w3 := Keep.of_below hB (fun i h1 h2 => absurd h1 (by omega))
        have hW3 : WheelAt w3 b target tm B' := hW2.keep K3 (fun _ _ h => h)
        have hmx : B'.mt < w2.heap.size := hW2.raw.timers.lt
        have hbox3 := K3.cell hbx2 (fun h => h)
        have hO3 := hO2.keep K3 (fun h => h)
        have ha1 := hW.raw.apart1
        have hxl : (xs.length : Int) < 140737488355328 := by
          have h1 := hxp.length_eq; simp [tru] at hkl; omega
        go_wp2_with fail
        go_loopw [55] (fun vi wr => ∃ i : Nat, vi = .int .i64 i ∧ i ≤ xs.length ∧ MapAt wr B'.mt ki spotV ((xs.take i).foldl del (tvOf target tm)) ∧ Keep (fun i => i = B'.mt) w3 wr) (fun vi _ => xs.length - (intOf vi).toNat)
        case atStart => exact ⟨0, by go_num, by omega, by simpa using hW3.raw.timers, Keep.refl _ _⟩
        case round =>
          obtain ⟨i, rfl, hix, hMq, hKq⟩ := hrel
          have hboxq := hKq.cell hbox3 (fun e => hnbx (.inr (.inl e)))
          have hc1q := (hW3.raw.cells.of_block (hKq.block b hW3.raw.cells.lt ha1.1)).cell (o := 1) (by omega)
          have hc7q := (hW3.raw.cells.of_block (hKq.block b hW3.raw.cells.lt ha1.1)).cell (o := 717) (by omega)
          by_cases hlt : i < xs.length
          · have hi1 : (i : Int) < xs.length := by omega
            obtain ⟨g, rfl, hg⟩ : ∃ g, p = some ⟨g, 0, none⟩ ∧ w2.heap.size ≤ g := by
              rcases hrow.2 with ⟨_, h2⟩ | ⟨g, cap', cur, h1, h2, _⟩
              · omega
              · cases h1; exact ⟨g, rfl, h2⟩
            have hcell : wr.cell? ⟨g, i, none⟩ = some (.int .i64 xs[i]) := hKq.cell (by rw [hrow.cellAt i (by omega)]; simp [hlt]) (by simp; omega)
            have Hrow := Lib.hid hrow
            clear hrow hnil
            go_wp2_with (at_delete; refine wpList_delete_at rfl _ _ _ _ rfl kInt und_spotmap rfl hMq (xs[i]) rfl ?_; intro w4 hat4 hk4 hz4)
            go_roundw
            case rel =>
              refine ⟨i + 1, by go_num, by omega, ?_, hKq.trans hk4 (fun _ h => h) (fun _ _ h => h)⟩
              rw [List.take_succ_eq_append_getElem hlt, List.foldl_append]; exact hat4
            case measure => simp [intOf]; omega
          · obtain rfl : i = xs.length := by omega
            rw [List.take_length] at hMq
            have hOq : MapAt wr B'.mo ki Value.bool (tru ks) := hO3.keep hKq (fun e => ha1.2.2 e.symm)
            have Hrow := Lib.hid hrow
            have Hnil := Lib.hid hnil
            clear hrow hnil
            go_wp2_with (refine wpList_clear_at rfl _ _ rfl und_boolmap rfl hOq ?_; intro w5 hat5 hk5 hz5)
            refine bodyPost_ret (v := .tuple #[.slice p xs.length cap, .int .i64 0]) (by simp [results, Tryz.results121, go_sem]) rfl ?_
            have hKm : Keep (fun i => i = B'.mt ∨ i = B'.mo) w3 w5 := hKq.trans hk5 (fun _ e => .inl e) (fun _ _ e => .inr e)
            have hfpw : ∀ i, B'.fp b i → i < w2.heap.size := fun i hi => hW2.raw.lt hi
            have hfo : ∀ i, i < w.heap.size → B'.fp b i → B.fp b i := fun i h1 h2 => (hfp i h2).elim (fun x => x) (fun x => by simp at x; omega)
            have Kall : Keep (B.fp b) w w5 := by
              have k1 := ((Keep.refl (fun _ => False) w).alloc (.cells #[.pointer (some ⟨b, 0, none⟩)] 117)).trans hK (fun _ h => h.elim) (fun _ _ h => h)
              have k2 := k1.trans K2 (fun _ h => h) (fun i hi e => (.inl e : B.fp b i))
              have k3 := k2.trans K3 (fun _ h => h) (fun i hi e => e.elim)
              exact k3.trans hKm (fun _ h => h) (fun i hi e => hfo i hi (e.elim (fun e => .inr (.inl e)) (fun e => .inr (.inr (.inl e)))))
            refine ⟨_, xs, B', w2.heap.size, rfl, ownsRow_keep Hrow.out hKm (fun g hg e => ?_), Hnil.out, hxp.trans hkp, hxa, go_end hW3 (hxp.trans hkp) (hMq.keep hk5 ha1.2.2) hat5 hKm, Kall, ?_, fun i hi => ⟨hfpw i hi, (hfp i hi).imp (fun x => x) (fun x => by simp at x; omega)⟩⟩
            · have e1 := hfpw B'.mt (.inr (.inl rfl)); have e2 := hfpw B'.mo (.inr (.inr (.inl rfl)))
              omega
            · have := K2.size; omega
end Go.Proofs.YtdacbgdinmaemaaGreatDoor

namespace Go.Proofs.YtdacbgdinmaemaaGreatDoor
open Go Go.RowKit Vz

theorem IterAt.leftS {w : World} {it r : Nat} {l rem : List (Int × (Nat × Spot))} (h : IterAt w it r ki spotV l rem) : w.rangeLeft r it = rem.length := by
  obtain ⟨es, clock, since, seen, c0, h1, h2, h3, h4, h5, h6, h7, h8, h8', h9⟩ := h
  simp only [World.rangeLeft, h1, h6]
  have := congrArg List.length h9
  simp only [List.length_map] at this
  rw [← this, ← Array.length_toList]; simp [leftOf]

def CloneRel (w : World) (mt now bo it : Nat) (tm : List (Int × Nat)) (wr : World) (rem : List (Int × Nat)) : Prop :=
  ∃ tmo Bo, IterAt wr it mt ki spotV (tvOf now tm) (tvOf now rem) ∧ (tmo ++ rem).Perm tm ∧ WheelAt wr bo now tmo Bo ∧ Keep (fun _ => False) w wr ∧ ∀ i, Bo.fp bo i → w.heap.size ≤ i ∧ i ≠ it

theorem tvOf_split {now : Nat} {rem : List (Int × Nat)} {r1 r2 : List (Int × (Nat × Spot))} {p : Int × (Nat × Spot)} (h : tvOf now rem = r1 ++ p :: r2) : ∃ k1 d k2, rem = k1 ++ (p.1, d) :: k2 ∧ r1 = tvOf now k1 ∧ r2 = tvOf now k2 ∧ p.2 = (d, spotOf now d) := by
  unfold tvOf at h
  obtain ⟨k1, k', h1, h2, h3⟩ := List.map_eq_append_iff.1 h
  obtain ⟨a, k2, h4, h5, h6⟩ := List.map_eq_cons_iff.1 h3
  subst h4
  exact ⟨k1, a.2, k2, by rw [h1, ← h5], h2.symm, h6.symm, by rw [← h5]⟩

theorem wheel_fresh (now : Nat) (w : World) (hn : now ≤ 4611686018427387904) :
    WheelAt (((w.alloc (.map #[] 0)).alloc (.map #[] 0)).alloc (.cells (wheelArr now w.heap.size (w.heap.size + 1)) 236)) (w.heap.size + 2) now [] (newWB w.heap.size) := by
  have hM1 := MapAt.fresh w ki spotV
  have hM2 := MapAt.fresh (w.alloc (.map #[] 0)) ki Value.bool
  rw [World.size_alloc] at hM2
  obtain ⟨hz, hc⟩ := wheelArr_holds now w.heap.size (w.heap.size + 1) (newWB w.heap.size) rfl rfl (fun _ _ => rfl) (fun _ => rfl)
  refine ⟨⟨⟨wheelArr now w.heap.size (w.heap.size + 1), ?_, hz, hc⟩, ?_, ⟨[], ?_, List.nodup_nil, fun t => ?_⟩, fun k j _ _ => ?_, fun k _ => ⟨by show (0 : Nat) < _; omega, fun j _ => ?_⟩, fun t k j h => (by cases h), ⟨by show _ ≠ w.heap.size; omega, by show _ ≠ w.heap.size + 1; omega, by show w.heap.size ≠ w.heap.size + 1; omega⟩, fun k j r _ _ h => (by cases h), fun k j k' j' r _ _ _ _ h => (by cases h)⟩, List.nodup_nil, fun p h => (by cases h), hn⟩
  · have := World.alloc_heap_new ((w.alloc (.map #[] 0)).alloc (.map #[] 0)) (.cells (wheelArr now w.heap.size (w.heap.size + 1)) 236)
    rw [World.size_alloc, World.size_alloc] at this; exact this
  · exact hM1.of_block ((Below.heap_alloc _ _ _ (by simp; omega)).trans (Below.heap_alloc _ _ _ (by simp)))
  · exact hM2.of_block (Below.heap_alloc _ _ _ (by simp))
  · constructor
    · intro h; cases h
    · intro h; cases h
  · intro t h; cases h
  · show (Nat.testBit 0 j = true ↔ _)
    simp [hungOf, lk_nil]


theorem newWB_fp {s i : Nat} (h : (newWB s).fp (s + 2) i) : s ≤ i ∧ i < s + 3 := by
  rcases h with h | h | h | ⟨k, j, _, _, h⟩
  · omega
  · have h : i = s := h
    omega
  · have h : i = s + 1 := h
    omega
  · cases h

theorem put_new {ν : Type} {l : List (Int × ν)} {k : Int} (h : k ∉ keys l) (v : ν) : put l k v = l ++ [(k, v)] := by
  induction l with
  | nil => rfl
  | cons p l ih =>
    unfold keys at h; simp only [List.map_cons, List.mem_cons, not_or] at h
    unfold put; rw [if_neg (fun e => h.1 e.symm), ih h.2]; rfl

set_option maxRecDepth 100000 in
set_option maxHeartbeats 1000000 in
theorem clone_any (b now : Nat) (tm : List (Int × Nat)) (B : WB) (w : World) (h : WheelAt w b now tm B) :
    Calls Tryz.prog 69 #[.pointer (some ⟨b, 0, none⟩)] w fun e w' => ∃ bo tmo Bo, e = .returned (.pointer (some ⟨bo, 0, none⟩)) ∧ WheelAt w' bo now tmo Bo ∧ tmo.Perm tm ∧ Keep (fun _ => False) w w' ∧ ∀ i, Bo.fp bo i → w.heap.size ≤ i := by
  have hr := h.raw
  have hb := hr.cells.lt
  have hc0 : w.cell? ⟨b, 0, none⟩ = some (.int .u64 now) := hr.cells.cell (o := 0) (by omega)
  have hc1 : w.cell? ⟨b, 1, none⟩ = some (.map (some B.mt)) := hr.cells.cell (o := 1) (by omega)
  have hmt := hr.timers.lt
  have hb1 : b < w.heap.size + 1 := by omega
  have hb2 : b < w.heap.size + 1 + 1 := by omega
  have hmm := @run_makeMap Tryz.prog
  have hbw := build_wheel
  have hxw := box_wheel
  have hnow := h.now
  have hdue := h.due
  have Hnd := Lib.hid h.nodup
  go_enter Tryz.func69, Tryz.ntmps69
  go_wp2_with (at_range; refine wpList_range_at rfl _ _ rfl und_spotmap rfl (hr.timers.of_block (((Below.heap_alloc _ _ _ (by simp; omega)).trans (Below.heap_alloc _ _ _ (by simp; omega))).trans (Below.heap_alloc _ _ _ (by omega)))) ?_; intro ob hit; (try simp only [World.size_alloc] at hit ⊢))
  (try go_frame)
  go_loopw [4] (fun _ wr => ∃ rem, CloneRel w B.mt now (w.heap.size + 2) (w.heap.size + 3) tm wr rem) (fun _ wr => wr.rangeLeft B.mt (w.heap.size + 3))
  case atStart =>
    have hF := wheel_fresh now w hnow
    refine ⟨tm, [], newWB w.heap.size, hit, by simp, hF.keep ((Keep.refl (fun _ => False) _).alloc ob) (fun _ _ h => h), ((((Keep.refl _ w).alloc _).alloc _).alloc _).alloc _, fun i hi => ?_⟩
    have := newWB_fp hi; omega
  case round =>
    obtain ⟨rem, tmo, Bo, hI, hP, hW, hK, hfp⟩ := hrel
    have HL := Lib.hid (IterAt.leftS hI)
    have HP := Lib.hid hP
    have HW := Lib.hid hW
    clear hP hW
    cases rem with
    | nil =>
      go_wp2_with (at_next; refine wpList_next_done rfl _ rfl rfl hI ?_)
      go_ret
      exact ⟨_, tmo, Bo, rfl, HW.out, by simpa using HP.out, hK, fun i hi => (hfp i hi).1⟩
    | cons p0 rem0 =>
      have hne : tvOf now (p0 :: rem0) ≠ [] := by simp [tvOf]
      generalize p0 :: rem0 = rem at *
      have hitz : w.heap.size + 3 < wr.heap.size := hI.lt
      go_wp2_with (at_next; refine wpList_next_more rfl _ rfl rfl hI hne ?_; intro r1 t v r2 w2 hsp hk2 hz2 hI2 hen; dsimp only [ki] at hen ⊢; obtain ⟨k1, d, k2, hrk, hr1, hr2, rfl⟩ := tvOf_split hsp; simp only [spotV] at hen ⊢)
      have hmem : (t, d) ∈ tm := HP.out.subset (by rw [hrk]; simp)
      have hdt := hdue _ hmem
      have hnt : t ∉ keys tmo := by
        have h1 := (HP.out.map Prod.fst).nodup_iff.2 Hnd.out
        rw [hrk, List.map_append] at h1
        intro hx
        exact (List.nodup_append.1 h1).2.2 t hx t (by simp) rfl
      have hW2 : ∀ o, WheelAt (w2.alloc o) (w.heap.size + 2) now tmo Bo := fun o => (HW.out.keep hk2 (fun i hi e => (hfp i hi).2 e)).keep ((Keep.refl (fun _ => False) w2).alloc o) (fun _ _ h => h)
      refine (hang_any (w.heap.size + 2) now d t _ _ Bo _ (hW2 _).raw (by unfold hungOf; rw [lk_eq_none.2 hnt]; rfl) (by simp at hdt; omega) (by omega)).mono ?_
      rintro e w3 ⟨rfl, hp⟩
      obtain ⟨B2, g1, g2, g3⟩ := hang_rest HW.out.nodup HW.out.due hnow hdt hp
      rw [put_new hnt] at g1
      subst hr1 hr2 hrk
      have hI3 : IterAt w3 (w.heap.size + 3) B.mt ki spotV (tvOf now tm) (tvOf now (k1 ++ k2)) := by
        have e : tvOf now (k1 ++ k2) = tvOf now k1 ++ tvOf now k2 := by simp [tvOf]
        rw [e]
        have h1 := hI2.keep ((Keep.refl (fun _ => False) w2).alloc (.cells #[.int .u64 d, .int .i64 (spotOf now d).lev, .int .i64 (spotOf now d).slt] 241)) (fun h => h) (fun h => h)
        exact h1.keep g2 (fun x => by have := (hfp _ x).1; omega) (fun x => (hfp _ x).2 rfl)
      go_wp2_with fail
      go_roundw
      case rel =>
        refine ⟨k1 ++ k2, tmo ++ [(t, d)], B2, hI3, ?_, g1, ((hK.trans hk2 (fun _ h => h) (fun i hi e => absurd hi (by omega))).alloc _).trans g2 (fun _ h => h) (fun i hi e => absurd hi (by have := (hfp i e).1; omega)), fun i hi => ?_⟩
        · refine List.Perm.trans ?_ HP.out
          rw [List.append_assoc]
          refine List.Perm.append_left tmo ?_
          rw [List.singleton_append]; exact (List.perm_middle).symm
        · rcases g3 i hi with h | h
          · exact hfp i h
          · simp at h; omega
      case measure => rw [IterAt.leftS hI3, HL.out]; simp [tvOf]
end Go.Proofs.YtdacbgdinmaemaaGreatDoor

namespace Go.Proofs.YtdacbgdinmaemaaGreatDoor
open Go Go.RowKit Vz

structure Mac6 where
  (a0 a1 a2 a3 a4 a5 : Int)
  deriving DecidableEq
def Mac6.zero : Mac6 := ⟨0, 0, 0, 0, 0, 0⟩
def macV (m : Mac6) : Value := .agg #[.int .u8 m.a0, .int .u8 m.a1, .int .u8 m.a2, .int .u8 m.a3, .int .u8 m.a4, .int .u8 m.a5]
structure Ent where
  (mac : Mac6) (order due : Nat)
def entV (e : Ent) : Value := .agg #[.int .u8 e.mac.a0, .int .u8 e.mac.a1, .int .u8 e.mac.a2, .int .u8 e.mac.a3, .int .u8 e.mac.a4, .int .u8 e.mac.a5, .int .i64 e.order]
structure RowM where
  (v : Value) (toks : List Int) (order due : Nat)
def rowV (r : RowM) : Value := .agg #[r.v, .int .i64 r.order]
abbrev ku (n : Int) : Value := .int .u32 n

/-- what a cache knows -/
structure CM where
  (room wait life pat count : Nat) (ent : List (Int × Ent)) (rows : List (Int × RowM))
/-- a cache's blocks -/
structure CB where
  (me mr bl bw : Nat) (WL WW : WB)
def ccells (M : CM) (B : CB) : Nat → Value
  | 0 => .int .i64 M.room | 1 => .int .i64 M.wait | 2 => .int .u64 M.life | 3 => .int .u64 M.pat | 4 => .map (some B.me) | 5 => .map (some B.mr)
  | 6 => .pointer (some ⟨B.bl, 0, none⟩) | 7 => .pointer (some ⟨B.bw, 0, none⟩) | _ => .int .i64 M.count
def CB.fp (B : CB) (c i : Nat) : Prop := i = c ∨ i = B.me ∨ i = B.mr ∨ B.WL.fp B.bl i ∨ B.WW.fp B.bw i

/-- a list of tokens that nothing writes -/
def TokAt (w : World) (F : Nat → Prop) (v : Value) (xs : List Int) : Prop := w.ownsRow 0 3 1 v xs.length (xs.map ki) ∧ ∀ g, v.ownBlock = some g → ¬ F g

theorem ownBlock_lt {w : World} {base : Nat} {e : TypeId} {size : Nat} {v : Value} {n : Nat} {xs : List Value} (h : w.ownsRow base e size v n xs) {g : Nat} (hg : v.ownBlock = some g) : g < w.heap.size := by
  rcases h.2 with ⟨rfl, _⟩ | ⟨g', cap, cur, rfl, _, hb, _⟩
  · cases hg
  · simp [Value.ownBlock] at hg; subst hg; exact lt_of_heap hb
theorem ownsRow_keep2 {S : Nat → Prop} {w w' : World} {base : Nat} {e : TypeId} {size : Nat} {v : Value} {n : Nat} {xs : List Value} (h : w.ownsRow base e size v n xs) (hk : Keep S w w') (hn : ∀ g, v.ownBlock = some g → ¬ S g) : w'.ownsRow base e size v n xs := by
  obtain ⟨h1, h2 | ⟨g, cap, cur, hv, hg, hb, h3⟩⟩ := h
  · exact ⟨h1, .inl h2⟩
  · exact ⟨h1, .inr ⟨g, cap, cur, hv, hg, hk.heap hb (hn g (by rw [hv]; rfl)), h3⟩⟩
theorem TokAt.step {w w' : World} {F F' S : Nat → Prop} {v : Value} {xs : List Int} (h : TokAt w F v xs) (hk : Keep S w w') (hS : ∀ i, i < w.heap.size → S i → F i) (hF : ∀ i, F' i → F i ∨ w.heap.size ≤ i) : TokAt w' F' v xs := by
  refine ⟨ownsRow_keep2 h.1 hk (fun g hg hs => h.2 g hg (hS g (ownBlock_lt h.1 hg) hs)), fun g hg hf => ?_⟩
  rcases hF g hf with h1 | h1
  · exact h.2 g hg h1
  · have := ownBlock_lt h.1 hg; omega

/-- the parts of a cache, each in its place -/
structure CacheRaw (w : World) (c : Nat) (M : CM) (B : CB) (tl tw : List (Int × Nat)) : Prop where
  cells : HoldsF w c 123 9 (ccells M B)
  ent : MapAt w B.me ku entV M.ent
  rows : MapAt w B.mr ku rowV M.rows
  lives : WheelAt w B.bl 0 tl B.WL
  waits : WheelAt w B.bw 0 tw B.WW
  toks : ∀ p ∈ M.rows, TokAt w (B.fp c) p.2.v p.2.toks
  a1 : c ≠ B.me ∧ c ≠ B.mr ∧ B.me ≠ B.mr
  a2 : ¬ B.WL.fp B.bl c ∧ ¬ B.WL.fp B.bl B.me ∧ ¬ B.WL.fp B.bl B.mr
  a3 : ¬ B.WW.fp B.bw c ∧ ¬ B.WW.fp B.bw B.me ∧ ¬ B.WW.fp B.bw B.mr
  a4 : ∀ i, B.WL.fp B.bl i → ¬ B.WW.fp B.bw i

/-- what a step may touch -/
structure Step (c : Nat) (B : CB) (w : World) (B' : CB) (w' : World) : Prop where
  keep : Keep (B.fp c) w w'
  fp : ∀ i, B'.fp c i → B.fp c i ∨ w.heap.size ≤ i
theorem Step.refl (c : Nat) (B : CB) (w : World) : Step c B w B w := ⟨Keep.refl _ _, fun _ h => .inl h⟩
theorem Step.trans {c : Nat} {B B' B'' : CB} {w w' w'' : World} (h : Step c B w B' w') (k : Step c B' w' B'' w'') : Step c B w B'' w'' :=
  ⟨h.keep.trans k.keep (fun _ h => h) (fun i hi e => (h.fp i e).elim (fun x => x) (fun x => by omega)), fun i hi => (k.fp i hi).elim (h.fp i) (fun x => .inr (Nat.le_trans h.keep.size x))⟩

variable {w w' : World} {c : Nat} {M : CM} {B : CB} {tl tw : List (Int × Nat)}

theorem CacheRaw.lt (h : CacheRaw w c M B tl tw) {i : Nat} (hi : B.fp c i) : i < w.heap.size := by
  rcases hi with rfl | rfl | rfl | hi | hi
  · exact h.cells.lt
  · exact h.ent.lt
  · exact h.rows.lt
  · exact h.lives.raw.lt hi
  · exact h.waits.raw.lt hi
theorem CacheRaw.keep {S : Nat → Prop} (h : CacheRaw w c M B tl tw) (hk : Keep S w w') (hS : ∀ i, i < w.heap.size → ¬ S i) : CacheRaw w' c M B tl tw :=
  have hn : ∀ i, B.fp c i → ¬ S i := fun i hi => hS i (h.lt hi)
  ⟨h.cells.of_block (hk.block c h.cells.lt (hn c (.inl rfl))), h.ent.keep hk (hn _ (.inr (.inl rfl))), h.rows.keep hk (hn _ (.inr (.inr (.inl rfl)))),
   h.lives.keep hk (fun i hi => hn i (.inr (.inr (.inr (.inl hi))))), h.waits.keep hk (fun i hi => hn i (.inr (.inr (.inr (.inr hi))))),
   fun p hp => (h.toks p hp).step hk (fun i hi hs => absurd hs (hS i hi)) (fun i hi => .inl hi), h.a1, h.a2, h.a3, h.a4⟩
theorem CacheRaw.alloc (h : CacheRaw w c M B tl tw) (o : Obj) : CacheRaw (w.alloc o) c M B tl tw := h.keep ((Keep.refl (fun _ => False) w).alloc o) (fun _ _ h => h)
theorem CacheRaw.drewN (h : CacheRaw w c M B tl tw) (n : Nat) : CacheRaw (w.drewN n) c M B tl tw := h.keep ((Keep.refl (fun _ => False) w).drewN n) (fun _ _ h => h)

/-- another list of entries -/
theorem CacheRaw.setEnt (h : CacheRaw w c M B tl tw) (hk : Keep (fun i => i = B.me) w w') {e : List (Int × Ent)} (he : MapAt w' B.me ku entV e) : CacheRaw w' c { M with ent := e } B tl tw ∧ Step c B w B w' :=
  ⟨⟨h.cells.of_block (hk.block c h.cells.lt h.a1.1), he, h.rows.keep hk h.a1.2.2.symm, h.lives.keep hk (fun i hi e => h.a2.2.1 (e ▸ hi)), h.waits.keep hk (fun i hi e => h.a3.2.1 (e ▸ hi)),
    fun p hp => (h.toks p hp).step hk (fun i _ e => .inr (.inl e)) (fun i hi => .inl hi), h.a1, h.a2, h.a3, h.a4⟩, hk.mono (fun i _ e => .inr (.inl e)), fun i hi => .inl hi⟩
/-- another list of rows -/
theorem CacheRaw.setRows (h : CacheRaw w c M B tl tw) (hk : Keep (fun i => i = B.mr) w w') {r : List (Int × RowM)} (hr : MapAt w' B.mr ku rowV r) (ht : ∀ p ∈ r, TokAt w (B.fp c) p.2.v p.2.toks) : CacheRaw w' c { M with rows := r } B tl tw ∧ Step c B w B w' :=
  ⟨⟨h.cells.of_block (hk.block c h.cells.lt h.a1.2.1), h.ent.keep hk h.a1.2.2, hr, h.lives.keep hk (fun i hi e => h.a2.2.2 (e ▸ hi)), h.waits.keep hk (fun i hi e => h.a3.2.2 (e ▸ hi)),
    fun p hp => (ht p hp).step hk (fun i _ e => .inr (.inr (.inl e))) (fun i hi => .inl hi), h.a1, h.a2, h.a3, h.a4⟩, hk.mono (fun i _ e => .inr (.inr (.inl e))), fun i hi => .inl hi⟩
/-- the wheel of lives goes another way -/
theorem CacheRaw.setLives (h : CacheRaw w c M B tl tw) {tl' : List (Int × Nat)} (hp : WheelPost B.bl 0 tl' B.WL w w') : ∃ W, CacheRaw w' c M { B with WL := W } tl' tw ∧ Step c B w { B with WL := W } w' := by
  obtain ⟨W, h1, h2, h3⟩ := hp
  have hfp : ∀ i, CB.fp { B with WL := W } c i → B.fp c i ∨ w.heap.size ≤ i := fun i hi => by
    rcases hi with hi | hi | hi | hi | hi
    · exact .inl (.inl hi)
    · exact .inl (.inr (.inl hi))
    · exact .inl (.inr (.inr (.inl hi)))
    · exact (h3 i hi).imp (fun x => .inr (.inr (.inr (.inl x)))) id
    · exact .inl (.inr (.inr (.inr (.inr hi))))
  have hS : Step c B w { B with WL := W } w' := ⟨h2.mono (fun i _ e => .inr (.inr (.inr (.inl e)))), hfp⟩
  refine ⟨W, ⟨h.cells.of_block (h2.block c h.cells.lt h.a2.1), h.ent.keep h2 h.a2.2.1, h.rows.keep h2 h.a2.2.2, h1, h.waits.keep h2 (fun i hi e => h.a4 i e hi),
    fun p hp => (h.toks p hp).step h2 (fun i _ e => .inr (.inr (.inr (.inl e)))) hfp, h.a1, ⟨fun x => ?_, fun x => ?_, fun x => ?_⟩, h.a3, fun i hi hw => ?_⟩, hS⟩
  · rcases h3 _ x with x | x
    · exact h.a2.1 x
    · have := h.cells.lt; omega
  · rcases h3 _ x with x | x
    · exact h.a2.2.1 x
    · have := h.ent.lt; simp only at x; omega
  · rcases h3 _ x with x | x
    · exact h.a2.2.2 x
    · have := h.rows.lt; simp only at x; omega
  · rcases h3 i hi with x | x
    · exact h.a4 i x hw
    · have := h.waits.raw.lt hw; omega
/-- the wheel of patience goes another way -/
theorem CacheRaw.setWaits (h : CacheRaw w c M B tl tw) {tw' : List (Int × Nat)} (hp : WheelPost B.bw 0 tw' B.WW w w') : ∃ W, CacheRaw w' c M { B with WW := W } tl tw' ∧ Step c B w { B with WW := W } w' := by
  obtain ⟨W, h1, h2, h3⟩ := hp
  have hfp : ∀ i, CB.fp { B with WW := W } c i → B.fp c i ∨ w.heap.size ≤ i := fun i hi => by
    rcases hi with hi | hi | hi | hi | hi
    · exact .inl (.inl hi)
    · exact .inl (.inr (.inl hi))
    · exact .inl (.inr (.inr (.inl hi)))
    · exact .inl (.inr (.inr (.inr (.inl hi))))
    · exact (h3 i hi).imp (fun x => .inr (.inr (.inr (.inr x)))) id
  have hS : Step c B w { B with WW := W } w' := ⟨h2.mono (fun i _ e => .inr (.inr (.inr (.inr e)))), hfp⟩
  refine ⟨W, ⟨h.cells.of_block (h2.block c h.cells.lt h.a3.1), h.ent.keep h2 h.a3.2.1, h.rows.keep h2 h.a3.2.2, h.lives.keep h2 (fun i hi e => h.a4 i hi e), h1,
    fun p hp => (h.toks p hp).step h2 (fun i _ e => .inr (.inr (.inr (.inr e)))) hfp, h.a1, h.a2, ⟨fun x => ?_, fun x => ?_, fun x => ?_⟩, fun i hl hi => ?_⟩, hS⟩
  · rcases h3 _ x with x | x
    · exact h.a3.1 x
    · have := h.cells.lt; omega
  · rcases h3 _ x with x | x
    · exact h.a3.2.1 x
    · have := h.ent.lt; simp only at x; omega
  · rcases h3 _ x with x | x
    · exact h.a3.2.2 x
    · have := h.rows.lt; simp only at x; omega
  · rcases h3 i hi with x | x
    · exact h.a4 i hl x
    · have := h.lives.raw.lt hl; omega
/-- one more is counted -/
theorem CacheRaw.setCount (h : CacheRaw w c M B tl tw) (n : Nat) : CacheRaw (w.setCell ⟨c, 8, none⟩ (.int .i64 (n : Int))) c { M with count := n } B tl tw ∧ Step c B w B (w.setCell ⟨c, 8, none⟩ (.int .i64 (n : Int))) := by
  have hk : Keep (fun i => i = c) w (w.setCell ⟨c, 8, none⟩ (.int .i64 (n : Int))) := (Keep.refl (fun i => i = c) w).setCell (p := ⟨c, 8, none⟩) (fun _ => rfl) _
  refine ⟨⟨(h.cells.setCell 8 (.int .i64 (n : Int))).congr fun o ho => ?_, h.ent.keep hk h.a1.1.symm, h.rows.keep hk h.a1.2.1.symm, h.lives.keep hk (fun i hi e => h.a2.1 (e ▸ hi)), h.waits.keep hk (fun i hi e => h.a3.1 (e ▸ hi)),
    fun p hp => (h.toks p hp).step hk (fun i _ e => .inl e) (fun i hi => .inl hi), h.a1, h.a2, h.a3, h.a4⟩, hk.mono (fun i _ e => .inl e), fun i hi => .inl hi⟩
  match o, ho with
  | 0, _ => rfl | 1, _ => rfl | 2, _ => rfl | 3, _ => rfl | 4, _ => rfl | 5, _ => rfl | 6, _ => rfl | 7, _ => rfl | 8, _ => rfl
  | o + 9, ho => omega

def liveT (M : CM) : List (Int × Nat) := M.ent.map fun p => (p.1, p.2.due)
def waitT (M : CM) : List (Int × Nat) := M.rows.map fun p => (p.1, p.2.due)
/-- a cache in the heap -/
def CacheAt (w : World) (c : Nat) (M : CM) (B : CB) : Prop := ∃ tl tw, CacheRaw w c M B tl tw ∧ tl.Perm (liveT M) ∧ tw.Perm (waitT M)
/-- a cache went on -/
def CachePost (c : Nat) (M' : CM) (B : CB) (w w' : World) : Prop := ∃ B', CacheAt w' c M' B' ∧ Step c B w B' w'

theorem CacheAt.nodup (h : CacheAt w c M B) : (keys M.ent).Nodup ∧ (keys M.rows).Nodup := by
  obtain ⟨tl, tw, hr, h1, h2⟩ := h
  have e1 : keys (liveT M) = keys M.ent := keys_map (fun e : Ent => e.due) M.ent
  have e2 : keys (waitT M) = keys M.rows := keys_map (fun e : RowM => e.due) M.rows
  exact ⟨by rw [← e1]; exact (h1.map Prod.fst).nodup_iff.1 hr.lives.nodup, by rw [← e2]; exact (h2.map Prod.fst).nodup_iff.1 hr.waits.nodup⟩
theorem CacheAt.keep {S : Nat → Prop} (h : CacheAt w c M B) (hk : Keep S w w') (hS : ∀ i, i < w.heap.size → ¬ S i) : CacheAt w' c M B := by
  obtain ⟨tl, tw, hr, h1, h2⟩ := h; exact ⟨tl, tw, hr.keep hk hS, h1, h2⟩
theorem del_perm {ν : Type} {l l' : List (Int × ν)} (hn : (keys l).Nodup) (hp : l.Perm l') (k : Int) : (del l k).Perm (del l' k) := by
  rw [del_filter hn, del_filter ((hp.map Prod.fst).nodup_iff.1 hn)]; exact hp.filter _
theorem lk_perm {ν : Type} {l l' : List (Int × ν)} (hn : (keys l).Nodup) (hp : l.Perm l') (k : Int) : lk l k = lk l' k := by
  cases h : lk l k with
  | none =>
    rw [lk_eq_none] at h
    symm; rw [lk_eq_none]; intro hx; exact h ((hp.map Prod.fst).symm.subset hx)
  | some v => exact (lk_of_mem ((hp.map Prod.fst).nodup_iff.1 hn) (hp.subset (mem_keys_of_lk h))).symm
end Go.Proofs.YtdacbgdinmaemaaGreatDoor
