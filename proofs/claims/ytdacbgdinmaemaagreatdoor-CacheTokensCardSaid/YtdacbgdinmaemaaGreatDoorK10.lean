/- Contracts and plain laws of this claim, part K10. -/
import Derived.Shelf.SlSortCmp.InsertionK
import Derived.Test.YtdacbgdinmaemaaGreatDoorProg
import Derived.Test.YtdacbgdinmaemaaGreatDoorK9
import Derived.Test.YtdacbgdinmaemaaGreatDoorK5
import Derived.Test.YtdacbgdinmaemaaGreatDoorK1
set_option linter.all false

namespace Go.Proofs.YtdacbgdinmaemaaGreatDoor
open Go Go.RowKit Vz Go.Shelf

theorem ownsRow_monoB {w : World} {base b' : Nat} {e : TypeId} {size : Nat} {v : Value} {n : Nat} {xs : List Value} (h : w.ownsRow base e size v n xs) (hb : b' ≤ base) : w.ownsRow b' e size v n xs := by
  obtain ⟨h1, h2 | ⟨g, cap, cur, hv, hg, h3⟩⟩ := h
  · exact ⟨h1, .inl h2⟩
  · exact ⟨h1, .inr ⟨g, cap, cur, hv, Nat.le_trans hb hg, h3⟩⟩
theorem u32_info : (Tryz.prog.info? 30).map (fun i => (i.zero, i.size, i.bytes)) = some (some (.int .u32 0), 1, 4) := by kernel_rfl

set_option maxRecDepth 100000 in
set_option maxHeartbeats 1000000 in
theorem over_any (b now : Nat) (tm : List (Int × Nat)) (B : WB) (w : World) (h : WheelAt w b 0 tm B) (hT : Tab w) (hk : ∀ p ∈ tm, 0 ≤ p.1 ∧ p.1 < 4294967296) (hlen : tm.length ≤ 16384) :
    Calls Tryz.prog 57 #[.pointer (some ⟨b, 0, none⟩), .int .u64 now] w fun e w' => ∃ v xs, e = .returned v ∧ Overs tm (tm61 now) xs ∧ w'.ownsRow w.heap.size 30 1 v xs.length (xs.map ku) ∧ Keep (fun _ => False) w w' := by
  obtain ⟨i0, hi, hz0, hz1, hz2⟩ := info_parts u32_info
  obtain ⟨T, hTT⟩ : ∃ T, T = tm61 now := ⟨_, rfl⟩
  have hmin : min (now : Int) 2305843009213693952 = (T : Int) := by unfold tm61 at hTT; omega
  have hmax : max (T : Int) 0 = (T : Int) := by omega
  have hTb : T ≤ 2305843009213693952 := by unfold tm61 at hTT; omega
  rw [← hTT]
  clear hTT
  have hn1 := h.nodup
  have HT := Lib.hid hT
  clear hT
  have hTz : 1 < w.heap.size := World.block_lt_of_cell? _ _ (HT.out 0 (by decide))
  go_enter Tryz.func57, Tryz.ntmps57
  go_wp2_with fail
  refine (clone_any b 0 tm B w h).mono ?_
  rintro e w1 ⟨bo, tmo, Bo, rfl, hWo, hpo, k1, hfo⟩
  go_wp2_with fail
  refine (now_any bo 0 tmo Bo w1 hWo).mono ?_
  rintro e w1' ⟨rfl, rfl⟩
  go_wp2_with fail
  refine (go_any bo 0 T tmo Bo w1' hWo (Tab.keep HT.out k1 (fun h => h)) (fun hx => by have := hfo _ hx; omega) (Nat.zero_le _) (by omega) (by have := hpo.length_eq; omega)).mono ?_
  rintro e w3 ⟨v1, xs, B3, hs, rfl, hrow1, hnil1, hxp, hxs, hW3, k3, hhs, hf3⟩
  have hov : Overs tm T xs := Overs.perm (a := tmo) ⟨hxp, hxs⟩ hWo.nodup hpo
  have hmem : ∀ x ∈ xs, ∃ d, lk tm x = some d ∧ d ≤ T := fun x hx => (hov.mem hn1).1 hx
  have k03 : Keep (fun _ => False) w w3 := k1.trans k3 (fun _ h => h) (fun i hi hf => absurd (hfo i hf) (by omega))
  have hxl : xs.length ≤ 16384 := by
    have h1 := hov.1.length_eq
    have h2 := List.length_filter_le (fun p : Int × Nat => decide (p.2 ≤ T)) tm
    unfold keys at h1; simp at h1; omega
  obtain ⟨pv, cv, rfl, hcells⟩ := IntsAt.of_owns (w := w3) hrow1
  have Hc := Lib.hid hcells
  have Hm := Lib.hid hmem
  have hws : w.heap.size ≤ w3.heap.size := k03.size
  clear hcells hmem hrow1 hnil1 hxp hxs hW3 k3 hf3 hhs hWo hpo k1 hfo hTz
  go_wp2_with fail
  go_loopw [8, 27] (fun vo vi wr => ∃ i : Nat, vi = .int .i64 i ∧ i ≤ xs.length ∧ wr.ownsRow w3.heap.size 30 1 vo i ((xs.take i).map ku) ∧ Keep (fun _ => False) w3 wr) (fun _ vi _ => xs.length - (intOf vi).toNat)
  case atStart => exact ⟨0, by go_num, by omega, by simpa using World.ownsRow_nil _ _ _ _, Keep.refl _ _⟩
  case round =>
    obtain ⟨i, rfl, hix, hrow, kr⟩ := hrel
    have Hrow := Lib.hid hrow
    by_cases hlt : i < xs.length
    · have hli : (i : Int) < xs.length := by omega
      obtain ⟨g, o, rfl, hc1⟩ := Hc.out i hlt
      obtain ⟨d, hd1, hd2⟩ := Hm.out xs[i] (by simp)
      obtain ⟨hq0, hq1⟩ := hk _ (mem_keys_of_lk hd1)
      have hc2 := kr.cell hc1 (fun h => h)
      have hcv : IntKind.u32.wrap xs[i] = xs[i] := by rw [IntKind.wrap_u32]; simp only at hq0 hq1; omega
      have hd3 : (d : Int) ≤ T := by omega
      have hsm := hrow.1
      clear hc1
      go_wp2_with fail
      refine (due_any b 0 xs[i] tm B wr (h.keep (k03.trans kr (fun _ h => h) (fun _ _ h => h)) (fun _ _ h => h))).mono ?_
      rintro e w4 ⟨rfl, hb4⟩
      rw [hd1]
      have k4 := Below.keep0 hb4
      have hrow4 := ownsRow_keep2 hrow k4 (fun _ _ h => h)
      have hz4 := hb4.size
      have hzr := kr.size
      clear hrow hc2
      go_wp2_with (at_builtin; refine wpList_append_own _ rfl _ _ 44 rfl w3.heap.size 30 i0 (.int .u32 0) 1 4 Tryz.underlying44 hi hz0 hz1 hz2 rfl (by decide) _ _ _ rfl (hrow4.alloc _) ⟨w4.heap.size, 0, none⟩ 1 1 [ku xs[i]] rfl rfl (cell_one_new _ _ _) (by simp [Value.oneCell']) (by unfold maxLen; omega) (by omega) (by simp; omega) ?_; intro v5 w5 hown5 hgrow5 _; have hk5 := app_keep hrow4 hgrow5)
      go_roundw
      case rel =>
        refine ⟨i + 1, by go_num, by omega, ?_, (kr.trans k4 (fun _ h => h) (fun _ _ h => h)).trans hk5 (fun _ h => h) (fun j hj e => absurd hj (Nat.not_lt.2 e))⟩
        rw [List.take_succ_eq_append_getElem hlt, List.map_append]; exact hown5
      case measure => simp [intOf]; omega
    · obtain rfl : i = xs.length := by omega
      clear hrow
      go_wp2_with fail
      go_ret
      have hrow := Hrow.out
      rw [List.take_length] at hrow
      exact ⟨_, xs, rfl, hov, ownsRow_monoB hrow hws, k03.trans kr (fun _ h => h) (fun _ _ h => h)⟩
end Go.Proofs.YtdacbgdinmaemaaGreatDoor

namespace Go.Proofs.YtdacbgdinmaemaaGreatDoor
open Go Go.RowKit Vz Go.Shelf

/-- a slice of Ips, in a block from base on -/
def U32At (w : World) (base : Nat) (v : Value) (xs : List Int) : Prop := ∃ p cap, v = .slice p xs.length cap ∧ ∀ i (h : i < xs.length), ∃ g, p = some ⟨g, 0, none⟩ ∧ base ≤ g ∧ g < w.heap.size ∧ w.cell? ⟨g, i, none⟩ = some (.int .u32 xs[i])
theorem U32At.of_owns {w : World} {b : Nat} {e : TypeId} {v : Value} {xs : List Int} (h : w.ownsRow b e 1 v xs.length (xs.map ku)) : U32At w b v xs := by
  rcases h.2 with ⟨rfl, h0⟩ | ⟨g, cap, cur, rfl, hg, hb, _⟩
  · exact ⟨none, 0, by rw [h0], fun i hi => by omega⟩
  · exact ⟨some ⟨g, 0, none⟩, cap, rfl, fun i hi => ⟨g, rfl, hg, lt_of_heap hb, by rw [h.cellAt i (by omega)]; simp [hi]⟩⟩

/-- a cache's blocks are no rows of numbers -/
theorem WheelRaw.not_ints {w : World} {b now : Nat} {tv : List (Int × (Nat × Spot))} {hung : Int → Option Spot} {B : WB} (h : WheelRaw w b now tv hung B) {g : Nat} (hg : B.fp b g) {cur : Array Value} {fr : Nat × Nat} : w.heap[g]? ≠ some (.cells cur 3 fr) := by
  intro e
  rcases hg with rfl | rfl | rfl | ⟨k, j, hk, hj, hs⟩
  · obtain ⟨arr, h1, _⟩ := h.cells; rw [h1] at e; injection e with e; injection e with e1 e2; cases e2
  · obtain ⟨es, c, h1, _⟩ := h.timers; rw [h1] at e; cases e
  · obtain ⟨ks, ⟨es, c, h1, _⟩, _⟩ := h.over; rw [h1] at e; cases e
  · have := h.slots k j hk hj; rw [hs] at this
    obtain ⟨ks, ⟨es, c, h1, _⟩, _⟩ := this; rw [h1] at e; cases e
theorem CacheRaw.not_ints {w : World} {c : Nat} {M : CM} {B : CB} {tl tw : List (Int × Nat)} (h : CacheRaw w c M B tl tw) {g : Nat} (hg : B.fp c g) {cur : Array Value} {fr : Nat × Nat} : w.heap[g]? ≠ some (.cells cur 3 fr) := by
  intro e
  rcases hg with rfl | rfl | rfl | hg | hg
  · obtain ⟨arr, h1, _⟩ := h.cells; rw [h1] at e; injection e with e; injection e with e1 e2; cases e2
  · obtain ⟨es, c, h1, _⟩ := h.ent; rw [h1] at e; cases e
  · obtain ⟨es, c, h1, _⟩ := h.rows; rw [h1] at e; cases e
  · exact h.lives.raw.not_ints hg e
  · exact h.waits.raw.not_ints hg e
theorem ownBlock_not_fp {w : World} {c : Nat} {M : CM} {B : CB} (h : CacheAt w c M B) {base n : Nat} {v : Value} {xs : List Value} (hr : w.ownsRow base 3 1 v n xs) : ∀ g, v.ownBlock = some g → ¬ B.fp c g := by
  intro g hg hf
  obtain ⟨tl, tw, hR, _⟩ := h
  rcases hr.2 with ⟨rfl, _⟩ | ⟨g', cap, cur, rfl, _, hb, _⟩
  · simp [Value.ownBlock] at hg
  · simp [Value.ownBlock] at hg; subst hg; exact hR.not_ints hf hb
theorem CacheAt.keepS {S : Nat → Prop} {w w' : World} {c : Nat} {M : CM} {B : CB} (h : CacheAt w c M B) (hk : Keep S w w') (hn : ∀ i, B.fp c i → ¬ S i) (hT : ∀ p ∈ M.rows, ∀ g, p.2.v.ownBlock = some g → ¬ S g) : CacheAt w' c M B := by
  obtain ⟨tl, tw, hr, h1, h2⟩ := h; exact ⟨tl, tw, hr.keepS hk hn hT, h1, h2⟩
theorem grown_keep {w w' : World} {v : Value} (hg : w.grownBy w' v.ownBlock) : Keep (fun i => v.ownBlock = some i) w w' :=
  ⟨hg.os, hg.tape, hg.output, hg.size, fun k hk hn => hg.block k hk (fun e => hn e.symm)⟩
theorem CacheAt.lt {w : World} {c : Nat} {M : CM} {B : CB} (h : CacheAt w c M B) {i : Nat} (hi : B.fp c i) : i < w.heap.size := by
  obtain ⟨tl, tw, hr, _⟩ := h; exact hr.lt hi

theorem foldl_del_filter {ν : Type} (f : ν → Nat) {l : List (Int × ν)} (hn : (keys l).Nodup) {t : Nat} {xs : List Int} (hx : Overs (l.map fun p => (p.1, f p.2)) t xs) : xs.foldl del l = l.filter (fun p => t < f p.2) := by
  have hn2 : (keys (l.map fun p => (p.1, f p.2))).Nodup := by rw [keys_map f]; exact hn
  rw [foldl_del xs hn]
  refine List.filter_congr fun p hp => ?_
  have hl : lk (l.map fun p => (p.1, f p.2)) p.1 = some (f p.2) := by rw [lk_map f, lk_of_mem hn (k := p.1) (v := p.2) hp]; rfl
  have hm := hx.mem hn2 (x := p.1)
  rw [hl] at hm
  by_cases h1 : p.1 ∈ xs
  · obtain ⟨d, hd, hd2⟩ := hm.1 h1
    cases hd
    simp [h1]; omega
  · have h2 : ¬ f p.2 ≤ t := fun h => h1 (hm.2 ⟨_, rfl, h⟩)
    simp [h1]; omega
theorem flatMap_len_le {f : Int → List Int} {k : Nat} : ∀ {l : List Int}, (∀ x ∈ l, (f x).length ≤ k) → (l.flatMap f).length ≤ l.length * k
  | [], _ => by simp
  | x :: l, h => by
    have h1 := h x (List.mem_cons_self ..)
    have h2 := flatMap_len_le (f := f) (k := k) (l := l) (fun y hy => h y (List.mem_cons_of_mem _ hy))
    rw [List.flatMap_cons, List.length_append, List.length_cons, Nat.add_mul]; omega
theorem toksAt_le {M : CM} {room wait life pat n : Nat} (h : WF M room wait life pat n) (ip : Int) : (toksAt M ip).length ≤ wait := by
  unfold toksAt
  cases hl : lk M.rows ip with
  | none => simp
  | some r => exact (h.rt _ (mem_keys_of_lk hl)).2

theorem owns_cells {w : World} {b : Nat} {e : TypeId} {g n cap : Nat} {xs : List Int} (h : w.ownsRow b e 1 (.slice (some ⟨g, 0, none⟩) n cap) xs.length (xs.map ki)) : ∀ j u, (xs.map ki)[j]? = some u → w.cell? ((⟨g, 0, none⟩ : Addr).add j) = some u := by
  intro j u hj
  rw [Addr.add_lit, Nat.zero_add]
  rcases h.2 with ⟨h1, _⟩ | ⟨g', cap', cur, h1, _, hb, h2, h3, h4, h5⟩
  · cases h1
  · cases h1
    have hlt : j < xs.length := by
      have := (List.getElem?_eq_some_iff.1 hj).1; simpa using this
    have h6 : (cur.toList.take (xs.length * 1))[j]? = some u := by rw [h5]; exact hj
    rw [Nat.mul_one, List.getElem?_take_of_lt hlt] at h6
    simp only [World.cell?, hb]
    rw [← Array.getElem?_toList]
    simpa using h6

set_option maxRecDepth 100000 in
set_option maxHeartbeats 1000000 in
theorem sweep_any (c now : Nat) (M : CM) (B : CB) (w : World) (room wait life pat n : Nat) (h : CacheAt w c M B) (hW : WF M room wait life pat n) (hr2 : room ≤ 256) (hw2 : wait ≤ 64) (hT : Tab w) (hTB : ¬ B.fp c 1) :
    Calls Tryz.prog 14 #[.pointer (some ⟨c, 0, none⟩), .int .u64 now] w fun e w' => ∃ v told B', e = .returned v ∧ SweepTold M (tm61 now) told ∧ CacheAt w' c (sweptM M (tm61 now)) B' ∧ Step c B w B' w' ∧ TokAt w' (B'.fp c) v told := by
  obtain ⟨i0, hi, hz0, hz1, hz2⟩ := info_parts int_info
  have hnd := h.nodup
  have H := Lib.hid h
  have HT := Lib.hid hT
  obtain ⟨tl, tw, hr, hpl, hpw⟩ := h
  have hc6 : w.cell? ⟨c, 6, none⟩ = some (.pointer (some ⟨B.bl, 0, none⟩)) := hr.cells.cell (o := 6) (by omega)
  have hcl := hr.cells.lt
  have hel := hW.el
  have hrl := hW.rl
  have HW := Lib.hid hW
  have hTz : 1 < w.heap.size := World.block_lt_of_cell? _ _ (hT 0 (by decide))
  clear hT
  have hov1 := over_any B.bl now tl B.WL w hr.lives HT.out (fun p hp => by
    obtain ⟨q, hq, e⟩ := List.mem_map.1 (hpl.subset hp)
    have := (HW.out.ek q hq).1
    rw [← e]; exact this) (by have := hpl.length_eq; unfold liveT at this; simp at this; omega)
  clear hW
  go_enter Tryz.func14, Tryz.ntmps14
  go_wp2_with fail
  refine hov1.mono ?_
  rintro e w1 ⟨v1, xs, rfl, hxs, hrow1, k1⟩
  have hxs1 : Overs (liveT M) (tm61 now) xs := hxs.perm hr.lives.nodup hpl
  have hxl : xs.length ≤ 256 := by
    have h1 := hxs1.1.length_eq
    have h2 := List.length_filter_le (fun p : Int × Nat => decide (p.2 ≤ tm61 now)) (liveT M)
    unfold keys at h1; simp at h1; unfold liveT at h1 h2; simp at h1 h2; omega
  have hxk : ∀ x ∈ xs, 0 ≤ x ∧ x < 4294967296 := fun x hx => by
    obtain ⟨d, hd, _⟩ := (hxs1.mem (by rw [keys_liveT]; exact hnd.1)).1 hx
    obtain ⟨q, hq, e⟩ := List.mem_map.1 (mem_keys_of_lk hd)
    have := (HW.out.ek q hq).1
    cases e; exact this
  have hA1 := H.out.keep k1 (fun _ _ h => h)
  have hfb : ∀ i, B.fp c i → i < w.heap.size := fun i hi => H.out.lt hi
  obtain ⟨p1, c1, rfl, hcl1⟩ := U32At.of_owns hrow1
  have Hc1 := Lib.hid hcl1
  have Hxk := Lib.hid hxk
  have hz1w := k1.size
  clear hcl1 hrow1 hov1 hxk hxs hc6 hpl hpw
  go_wp2_with fail
  go_loopw [17] (fun vi wr => ∃ (i : Nat) (Bk : CB), vi = .int .i64 i ∧ i ≤ xs.length ∧ CacheAt wr c { M with ent := (xs.take i).foldl del M.ent } Bk ∧ Step c B w1 Bk wr) (fun vi _ => xs.length - (intOf vi).toNat)
  case atStart => exact ⟨0, B, by go_num, by omega, hA1, Step.refl _ _ _⟩
  case round =>
    obtain ⟨i, Bk, rfl, hix, hAk, hSk⟩ := hrel
    have hclk : c < wr.heap.size := by have := hSk.keep.size; omega
    by_cases hlt : i < xs.length
    · have hli : (i : Int) < xs.length := by omega
      obtain ⟨g, rfl, hg1, hg2, hce⟩ := Hc1.out i hlt
      have hc2 := hSk.keep.cell hce (fun hx => by have h9 : g < w.heap.size := hfb _ hx; omega)
      obtain ⟨hq0, hq1⟩ := Hxk.out xs[i] (by simp)
      clear hce
      go_wp2_with fail
      refine (drop_any c xs[i] _ Bk wr hAk hq0 hq1).mono ?_
      rintro e w4 ⟨rfl, B4, hA4, hS4⟩
      go_wp2_with fail
      go_roundw
      case rel =>
        refine ⟨i + 1, B4, by go_num, by omega, ?_, hSk.trans hS4⟩
        rw [List.take_succ_eq_append_getElem hlt, List.foldl_append]; exact hA4
      case measure => simp [intOf]; omega
    · obtain rfl : i = xs.length := by omega
      rw [List.take_length] at hAk
      have hent : xs.foldl del M.ent = M.ent.filter (fun p => tm61 now < p.2.due) := foldl_del_filter (fun e : Ent => e.due) hnd.1 hxs1
      rw [hent] at hAk
      have hk0r : Keep (B.fp c) w wr := k1.trans hSk.keep (fun _ h => h.elim) (fun _ _ h => h)
      have hTr : Tab wr := Tab.keep HT.out hk0r hTB
      have hSw : Step c B w Bk wr := ⟨hk0r, fun i hi => (hSk.fp i hi).imp id (fun x => Nat.le_trans hz1w x)⟩
      have HA := Lib.hid hAk
      have HTr := Lib.hid hTr
      obtain ⟨tl2, tw2, hrk, hpl2, hpw2⟩ := hAk
      have hc7 : wr.cell? ⟨c, 7, none⟩ = some (.pointer (some ⟨Bk.bw, 0, none⟩)) := hrk.cells.cell (o := 7) (by omega)
      have hpw3 : tw2.Perm (waitT M) := hpw2
      have hov2 := over_any Bk.bw now tw2 Bk.WW wr hrk.waits HTr.out (fun p hp => by
        obtain ⟨q, hq, e⟩ := List.mem_map.1 (hpw3.subset hp)
        have := (HW.out.rk q hq).1
        rw [← e]; exact this) (by have := hpw3.length_eq; unfold waitT at this; simp at this; omega)
      clear hTr hent
      go_wp2_with fail
      refine hov2.mono ?_
      rintro e w3 ⟨v3, ys, rfl, hys, hrow3, k3⟩
      have hys1 : Overs (waitT M) (tm61 now) ys := hys.perm hrk.waits.nodup hpw3
      have hyl : ys.length ≤ 256 := by
        have h1 := hys1.1.length_eq
        have h2 := List.length_filter_le (fun p : Int × Nat => decide (p.2 ≤ tm61 now)) (waitT M)
        unfold keys at h1; simp at h1; unfold waitT at h1 h2; simp at h1 h2; omega
      have hyk : ∀ y ∈ ys, 0 ≤ y ∧ y < 4294967296 := fun y hy => by
        obtain ⟨d, hd, _⟩ := (hys1.mem (by rw [keys_waitT]; exact hnd.2)).1 hy
        obtain ⟨q, hq, e⟩ := List.mem_map.1 (mem_keys_of_lk hd)
        have := (HW.out.rk q hq).1
        cases e; exact this
      have hA3 := HA.out.keep k3 (fun _ _ h => h)
      have hfb3 : ∀ i, Bk.fp c i → i < wr.heap.size := fun i hi => HA.out.lt hi
      have htb : ∀ p ∈ M.rows, ∀ g, p.2.v.ownBlock = some g → g < w3.heap.size := fun p hp g hg => by
        have h1 := ownBlock_lt (hrk.toks p hp).1 hg
        have h2 := k3.size
        omega
      have hynd : ys.Nodup := by
        have hs : (keys ((waitT M).filter (fun p => decide (p.2 ≤ tm61 now)))).Nodup := (List.filter_sublist.map _).nodup (show (keys (waitT M)).Nodup by rw [keys_waitT]; exact hnd.2)
        exact hys1.1.nodup_iff.2 hs
      have hyin : ∀ y ∈ ys, ∃ r, lk M.rows y = some r := fun y hy => by
        obtain ⟨d, hd, _⟩ := (hys1.mem (by rw [keys_waitT]; exact hnd.2)).1 hy
        have e : lk (waitT M) y = (lk M.rows y).map RowM.due := lk_map (fun e : RowM => e.due) M.rows y
        rw [e] at hd
        cases hl : lk M.rows y with
        | none => rw [hl] at hd; cases hd
        | some r => exact ⟨r, rfl⟩
      obtain ⟨p3, c3, rfl, hcl3⟩ := U32At.of_owns hrow3
      have Hc3 := Lib.hid hcl3
      have Hyk := Lib.hid hyk
      have Hyin := Lib.hid hyin
      have hz3w := k3.size
      clear hcl3 hrow3 hov2 hyk hyin hys hc7 hpl2 hpw2 hpw3
      obtain ⟨wo, rfl⟩ : ∃ wo : World, wo = wr := ⟨_, rfl⟩
      go_wp2_with fail
      go_loopw [7, 32] (fun vo vi wr => ∃ (i : Nat) (Bj : CB) (R : List (Int × RowM)) (told : List Int), vi = .int .i64 i ∧ i ≤ ys.length ∧ R = (ys.take i).foldl del M.rows ∧ told = (ys.take i).flatMap (toksAt M) ∧ CacheAt wr c { M with ent := M.ent.filter (fun p => tm61 now < p.2.due), rows := R } Bj ∧ Step c Bk w3 Bj wr ∧ wr.ownsRow w3.heap.size 3 1 vo told.length (told.map ki)) (fun _ vi _ => ys.length - (intOf vi).toNat)
      case atStart => exact ⟨0, Bk, M.rows, [], by go_num, by omega, by simp, by simp, hA3, Step.refl _ _ _, by simpa using World.ownsRow_nil _ _ _ _⟩
      case round =>
        obtain ⟨j, Bj, R, told, rfl, hjy, hR, htold, hAj, hSj, hrowj⟩ := hrel
        have hclj : c < wr.heap.size := by have := hSj.keep.size; have := k3.size; omega
        have HAj := Lib.hid hAj
        have HR := Lib.hid hR
        have Htold := Lib.hid htold
        have htl : told.length ≤ j * 64 := by
          rw [htold]
          have h1 := flatMap_len_le (f := toksAt M) (k := 64) (l := ys.take j) (fun x _ => Nat.le_trans (toksAt_le HW.out x) hw2)
          have h2 : (ys.take j).length ≤ j := List.length_take_le _ _
          have h3 := Nat.mul_le_mul_right 64 h2
          omega
        clear hAj hR htold
        by_cases hlt : j < ys.length
        · have hlj : (j : Int) < ys.length := by omega
          obtain ⟨g, rfl, hg1, hg2, hce⟩ := Hc3.out j hlt
          have hc2 := hSj.keep.cell hce (fun hx => by have h9 : g < wo.heap.size := hfb3 _ hx; omega)
          obtain ⟨hq0, hq1⟩ := Hyk.out ys[j] (by simp)
          clear hce
          go_wp2_with fail
          obtain ⟨r, hrl⟩ := Hyin.out ys[j] (by simp)
          have hlR : lk R ys[j] = some r := by
            rw [HR.out, foldl_del _ hnd.2, lk_filterD hnd.2, hrl]
            have hni : ys[j] ∉ ys.take j := fun hm => by
              obtain ⟨i, hi, e⟩ := List.getElem_of_mem hm
              rw [List.getElem_take] at e
              have h1 : i < j := by rw [List.length_take] at hi; omega
              exact List.pairwise_iff_getElem.1 hynd i j (by omega) hlt h1 e
            simp [hni]
          have hrt := HW.out.rt _ (mem_keys_of_lk hrl)
          obtain ⟨gr, cr, hrv⟩ : ∃ gr cr, r.v = .slice (some ⟨gr, 0, none⟩) r.toks.length cr := by
            obtain ⟨_, _, hq, _⟩ := HAj.out
            rcases (hq.toks _ (mem_keys_of_lk hlR)).1.2 with ⟨_, h0⟩ | ⟨g', cap', cur, h1, _⟩
            · simp only at h0 hrt; omega
            · exact ⟨g', cap', h1⟩
          have hrel : Calls Tryz.prog 55 #[.pointer (some ⟨c, 0, none⟩), .int .u32 ys[j]] wr fun e w' => e = .returned (.slice (some ⟨gr, 0, none⟩) r.toks.length cr) ∧
              ∃ B4, CacheAt w' c { M with ent := M.ent.filter (fun p => tm61 now < p.2.due), rows := del R ys[j] } B4 ∧ Step c Bj wr B4 w' ∧ w'.ownsRow 0 3 1 (.slice (some ⟨gr, 0, none⟩) r.toks.length cr) r.toks.length (r.toks.map ki) := by
            refine (release_any c ys[j] _ Bj wr HAj.out hq0 hq1).mono ?_
            rintro e w4 ⟨rfl, B4, hA4, hS4⟩
            have htk := (toksAt_del c Bj B4 wr w4 ys[j] HAj.out hS4).1
            unfold toksAt at htk
            simp only [hlR, Option.map_some, Option.getD_some, hrv] at htk
            refine ⟨by simp only [hlR, Option.map_some, Option.getD_some, hrv], B4, hA4, hS4, htk⟩
          have hsmj := hrowj.1
          have hrt1 := hrt.2
          simp only at hrt1
          have htoks : toksAt M ys[j] = r.toks := by unfold toksAt; rw [hrl]; rfl
          have Htoks := Lib.hid htoks
          clear hrl hlR hrv hrt htoks
          refine hrel.mono ?_
          rintro e w4 ⟨rfl, B4, hA4, hS4, hrowr⟩
          clear hrel
          have hrow4 := ownsRow_keep2 hrowj hS4.keep (ownBlock_not_fp HAj.out hrowj)
          have hz4 := hS4.keep.size
          have hzj := hSj.keep.size
          have Hrowj := Lib.hid hrowj
          clear hrowj
          go_wp2_with (at_builtin; refine wpList_append_own _ rfl _ _ 35 rfl w3.heap.size 3 i0 (ki 0) 1 8 Tryz.underlying35 hi hz0 hz1 hz2 rfl (by decide) _ _ _ rfl hrow4 ⟨gr, 0, none⟩ r.toks.length cr (r.toks.map ki) rfl (by simp) (owns_cells hrowr) (by simp [Value.oneCell']) (by unfold maxLen; omega) (by omega) (by omega) ?_; intro v5 w5 hown5 hgrow5 _; have hk5 := grown_keep hgrow5; clear hgrow5)
          go_roundw
          case rel =>
            have hbs : ∀ g', u7.ownBlock = some g' → w3.heap.size ≤ g' := fun g' hg' => by
              rcases hrow4.2 with ⟨h1, _⟩ | ⟨g'', _, _, h1, h2, _⟩
              · rw [h1] at hg'; simp [Value.ownBlock] at hg'
              · rw [h1] at hg'; simp [Value.ownBlock] at hg'; omega
            have hsub : ∀ p ∈ del R ys[j], p ∈ M.rows := fun p hp => by
              have h1 := (keys_del_sub R ys[j]).subset hp
              rw [HR.out, foldl_del _ hnd.2] at h1
              exact (List.mem_filter.1 h1).1
            have hkT : Keep (Bk.fp c) w3 w5 := (hSj.trans hS4).keep.trans hk5 (fun _ h => h) (fun i hi e => absurd (hbs i e) (by omega))
            refine ⟨j + 1, B4, del R ys[j], told ++ r.toks, by go_num, by omega, ?_, ?_, hA4.keepS hk5 (fun i hi e => ownBlock_not_fp hA4 hrow4 i e hi) (fun p hp g' hg' e => ?_), ⟨hkT, (hSj.trans hS4).fp⟩, by simpa using hown5⟩
            · rw [List.take_succ_eq_append_getElem hlt, List.foldl_append, ← HR.out]; rfl
            · rw [List.take_succ_eq_append_getElem hlt, List.flatMap_append, List.flatMap_cons, List.flatMap_nil, Htoks.out, ← Htold.out]; simp
            · have h1 := htb p (hsub p hp) g' hg'
              have h2 := hbs g' e
              omega
          case measure => simp [intOf]; omega
        · obtain rfl : j = ys.length := by omega
          go_wp2_with fail
          go_ret
          have hR := HR.out
          have htold := Htold.out
          rw [List.take_length] at hR htold
          have hRf : R = M.rows.filter (fun p => tm61 now < p.2.due) := by rw [hR]; exact foldl_del_filter (fun r : RowM => r.due) hnd.2 hys1
          subst hRf
          have hS3 : Step c Bk wo Bk w3 := ⟨k3.mono (fun _ _ h => h.elim), fun _ h => .inl h⟩
          exact ⟨_, told, Bj, rfl, ⟨ys, hys1, htold⟩, HAj.out, (hSw.trans hS3).trans hSj, ownsRow_mono0 hrowj, ownBlock_not_fp HAj.out hrowj⟩
end Go.Proofs.YtdacbgdinmaemaaGreatDoor

namespace Go.Proofs.YtdacbgdinmaemaaGreatDoor
open Go Go.RowKit Vz Go.Shelf

/-- a row as its two cells -/
structure RowS where
  (p : Option Addr) (n cap : Nat) (o : Nat)
instance : Inhabited RowS := ⟨⟨none, 0, 0, 0⟩⟩
def srV (x : RowS) : Value := .agg #[.slice x.p x.n x.cap, .int .i64 x.o]
def srC (x : RowS) : List Value := [.slice x.p x.n x.cap, .int .i64 x.o]
def vals {κ ν : Type} (l : List (κ × ν)) : List ν := l.map (·.2)
theorem MapAt.congrV {w : World} {r : Nat} {κ ν μ : Type} [DecidableEq κ] {ek : κ → Value} {ev : ν → Value} {ev' : μ → Value} {f : ν → μ} {l : List (κ × ν)} (h : MapAt w r ek ev l) (he : ∀ p ∈ l, ev p.2 = ev' (f p.2)) : MapAt w r ek ev' (l.map fun p => (p.1, f p.2)) := by
  obtain ⟨es, c, h1, h2, h3, h4⟩ := h
  refine ⟨es, c, h1, by rw [h2, List.map_map]; rfl, ?_, h4⟩
  rw [h3, List.map_map]
  exact List.map_congr_left fun p hp => he p hp
end Go.Proofs.YtdacbgdinmaemaaGreatDoor

namespace Go.Proofs.YtdacbgdinmaemaaGreatDoor
open Go Go.RowKit Vz Go.Shelf
attribute [local go_sem] Oper.semAt_some
abbrev kuu (n : Int) : Value := .int .u32 n

theorem rv_und : Tryz.prog.underlying 121 = some (.map 30 132) := by kernel_rfl

set_option maxRecDepth 100000 in
set_option maxHeartbeats 1000000 in
theorem rv_vals1 (F : Fence) (n : Nat) (h10 : F.fn 125) (hro : F.round = none) (hn : 1 ≤ n) (l0 Bm m : Nat) (l : List (Int × RowS)) (J Jx : List RowS → World → Prop)
    (hY : ∀ pre x W, J pre W → pre.length < l.length → YieldAt F (n - 1) Tryz.prog l0 #[srV x] W fun e W' =>
      (e = .returned (.bool true) ∧ J (pre ++ [x]) W' ∧ KeepsWalks W W') ∨ (e = .returned (.bool false) ∧ Jx (pre ++ [x]) W'))
    (W : World) (hJ : AbidesFrom W.heap.size J) (hm : W.cell? ⟨Bm, 0, none⟩ = some (.map (some m))) (hM : MapAt W m kuu srV l) (h0 : J [] W) :
    CallsIn F n Tryz.prog 125 #[.func (.yield l0) #[] #[], .pointer (some ⟨Bm, 0, none⟩)] W fun e W' => (∃ v, e = .returned v) ∧
      ((∃ ss : List RowS, ss.Perm (vals l) ∧ J ss W') ∨ (∃ pre : List RowS, (pre.Nodup ∨ True) ∧ Jx pre W')) := by
  refine callsIn_of_wp Tryz.func125 rfl h10 ?_ hro
  simp only [Tryz.ntmps125, List.size_toArray, List.length_cons, List.length_nil, Nat.reduceAdd, Nat.reduceSub, Array.replicate_succ, Array.replicate_zero, List.push_toArray, List.append_toArray, List.nil_append, List.cons_append]
  gi_wp2_with (first
    | (gi_at_range; refine wpListIn_range_at rfl _ _ rfl rv_und rfl hM ?_; intro ob hit)
    | gi_in)
  (try go_frame)
  gi_loopw [4] (fun _ wr => ∃ (rem : List (Int × RowS)) (ss : List RowS), IterAt wr W.heap.size m kuu srV l rem ∧ (ss ++ vals rem).Perm (vals l) ∧ J ss wr)
    (fun _ wr => wr.rangeLeft m W.heap.size)
  case atStart =>
    exact ⟨l, [], hit, by simp, hJ [] W _ none h0 (World.grownBy_alloc _ _ _) (fun r e => by cases e)⟩
  case round =>
    obtain ⟨rem, ss, hI, hP, hJs⟩ := hrel
    have HL := Lib.hid (IterAt.measure hI)
    have HP := Lib.hid hP
    clear hP
    cases rem with
    | nil =>
      gi_wp2_with (first
        | (gi_at_next; refine wpListIn_next_done rfl _ rfl rfl hI ?_)
        | gi_in)
      go_end0
      exact ⟨⟨_, rfl⟩, .inl ⟨ss, by have := HP.out; simpa [vals] using this, hJs⟩⟩
    | cons p0 rem0 =>
      have hne : p0 :: rem0 ≠ [] := by simp
      generalize p0 :: rem0 = rem at *
      gi_wp2_with (first
        | (gi_at_next; refine wpListIn_next_more rfl _ rfl rfl hI hne ?_; intro r1 x v r2 w2 hsp hk2 hz2 hI2 hen; (try dsimp only [srV] at hen ⊢); have hJ2 : J ss w2 := hJ ss wr w2 (some W.heap.size) hJs hk2.grownBy (fun r e => by cases e; exact ⟨Nat.le_refl _, hI.isWalk⟩); have hJ3 : J ss (w2.alloc (.cells #[.slice v.p v.n v.cap, .int .i64 v.o] 132)) := hJ ss w2 _ none hJ2 (World.grownBy_alloc _ _ _) (fun r e => by cases e); have hlt : ss.length < l.length := (by have := HP.out.length_eq; rw [hsp] at this; simp [vals] at this; omega); obtain ⟨fn, tmps, assign, body, hy, hR⟩ := hY ss v _ hJ3 hlt; (try dsimp only [srV] at hy); clear hz2)
        | gi_in)
      refine hR.mono ?_
      have HP2 : Hid (((ss ++ [v]) ++ vals (r1 ++ r2)).Perm (vals l)) := by
        refine List.Perm.trans ?_ HP.out
        rw [hsp]; simp only [vals, List.map_append, List.map_cons, List.append_assoc]
        exact List.Perm.append_left ss (by rw [List.singleton_append]; exact (List.perm_middle).symm)
      rintro e W3 (⟨rfl, hJ3, hk3⟩ | ⟨rfl, hJx3⟩)
      · gi_wp2
        have hI3 := (hI2.keep ((Keep.refl (fun _ => False) w2).alloc _) (fun h => h) (fun h => h)).walks hk3
        have hm3 := hI3.measure
        have Hm3 := Lib.hid hm3
        clear hm3
        go_roundw
        case rel => exact ⟨_, ss ++ [v], hI3, HP2.out, hJ3⟩
        case measure => rw [Hm3.out, HL.out, hsp]; simp
      · gi_wp2
        refine bodyPost_ret (results_none rfl _ _ _) rfl ?_
        exact ⟨⟨_, rfl⟩, .inr ⟨ss ++ [v], .inr trivial, hJx3⟩⟩

theorem rv_vals_stops (F : Fence) (n : Nat) (h10 : F.fn 125) (hro : F.round = none) (hn : 1 ≤ n) (Bm m : Nat) (l : List (Int × RowS)) (w : World) (hBm : Bm < w.heap.size)
    (hm : w.cell? ⟨Bm, 0, none⟩ = some (.map (some m))) (hM : MapAt w m kuu srV l) :
    SeqStopsK F n Tryz.prog 125 #[.pointer (some ⟨Bm, 0, none⟩)] (fun x => #[srV x]) KeepsWalks (fun ss => ss.Perm (vals l)) (fun pre => pre.Nodup ∨ True) l.length w := fun l0 J Jx W hW hJ _ hY h0 =>
  rv_vals1 F n h10 hro hn l0 Bm m l J Jx hY W hJ ((hW.cell (p := ⟨Bm, 0, none⟩) hBm).trans hm) (hM.of_block (hW.block _ hM.lt)) h0

set_option maxHeartbeats 400000 in
theorem rv_vals (F : Fence) (n : Nat) (h7 : F.fn 59) (hro : F.round = none) (m : Option Nat) (w : World) :
    CallsIn F n Tryz.prog 59 #[.map m] w fun e w' => e = .returned (.func (.func 125) #[] #[.pointer (some ⟨w.heap.size, 0, none⟩)]) ∧ w' = w.alloc (.cells #[.map m] 121) := by
  refine callsIn_of_wp Tryz.func59 rfl h7 ?_ hro
  simp only [Tryz.ntmps59, List.size_toArray, List.length_cons, List.length_nil, Nat.reduceAdd, Nat.reduceSub, Array.replicate_succ, Array.replicate_zero, List.push_toArray, List.append_toArray, List.nil_append, List.cons_append]
  gi_wp2
  go_ret
  exact ⟨rfl, rfl⟩
end Go.Proofs.YtdacbgdinmaemaaGreatDoor

namespace Go.Proofs.YtdacbgdinmaemaaGreatDoor
open Go Go.RowKit Vz Go.Shelf
attribute [local go_sem] Oper.semAt_some

theorem ar_info : (Tryz.prog.info? 132).map (fun i => (i.zero, i.size, i.bytes)) = some (some (.agg #[.slice none 0 0, .int .i64 0]), 2, 32) := by kernel_rfl
theorem cell_two_new (w : World) (a b : Value) (T : TypeId) : ∀ j u, [a, b][j]? = some u → (w.alloc (.cells #[a, b] T)).cell? ((⟨w.heap.size, 0, none⟩ : Addr).add j) = some u := by
  intro j u h
  have hb := World.alloc_heap_new w (.cells #[a, b] T)
  match j, h with
  | 0, h => simp at h; subst h; rw [show (⟨w.heap.size, 0, none⟩ : Addr).add 0 = ⟨w.heap.size, 0, none⟩ from rfl]; simp only [World.cell?, hb]; rfl
  | 1, h => simp at h; subst h; rw [show (⟨w.heap.size, 0, none⟩ : Addr).add 1 = ⟨w.heap.size, 1, none⟩ from rfl]; simp only [World.cell?, hb]; rfl
  | j + 2, h => simp at h

set_option maxRecDepth 100000 in
set_option maxHeartbeats 1000000 in
theorem ar_append (F : Fence) (n : Nat) (hf : F.fn 178) (hro : F.round = none) (hn : 3 ≤ n) (g : Nat) (lb : Array Value) (hFg : F.fn g) (eg : ∀ args w, (callFunc g args).run Tryz.prog w = .ok (.enter g args) w)
    (S Sp : List RowS → Prop) (N : Nat) (hN : N ≤ 281474976710656) (hNb : N * 32 ≤ 140737488355328) (hSN : ∀ xs, S xs → xs.length ≤ N) (w : World) (hseq : SeqStopsK F (n - 1) Tryz.prog g lb (fun x => #[srV x]) KeepsWalks S Sp N w) :
    CallsIn F n Tryz.prog 178 #[.slice none 0 0, .func (.func g) #[] lb] w fun e W' => ∃ (v : Value) (ss : List RowS), e = .returned v ∧ S ss ∧ W'.ownsRow w.heap.size 132 2 v ss.length (ss.flatMap srC) ∧ (v = .slice none 0 0 ↔ ss = []) ∧ Below w.heap.size w W' := by
  have h1 : 1 ≤ n := by omega
  obtain ⟨i0, hi, hz0, hz1, hz2⟩ := info_parts ar_info
  refine callsIn_of_wp_marks Tryz.func178 rfl hf ?_ hro
  simp only [Tryz.ntmps178, List.size_toArray, List.length_cons, List.length_nil, Nat.reduceAdd, Nat.reduceSub, Array.replicate_succ, Array.replicate_zero, List.push_toArray, List.append_toArray, List.nil_append, List.cons_append]
  gi_wp2
  have bO := Boxed.new w 136 (.slice none 0 0)
  have hB0 : Below w.heap.size w (w.alloc (.cells #[.slice none 0 0] 136)) := (Below.refl _ w).alloc (Nat.le_refl _) _
  have hOwn : OwnFrom (w.alloc (.cells #[.slice none 0 0] 136)).heap.size (fun (pre : List RowS) W => (∃ v, Boxed W w.heap.size 136 v ∧ W.ownsRow w.heap.size 132 2 v pre.length (pre.flatMap srC) ∧ (v = .slice none 0 0 ↔ pre = [])) ∧ Below w.heap.size w W) :=
    OwnFrom.and (Own.from (holdsRow_own w.heap.size w.heap.size 136 132 2 (fun pre : List RowS => pre.length) (fun pre => pre.flatMap srC) (fun pre v => v = .slice none 0 0 ↔ pre = [])) _) (ownFrom_below (Nat.le_refl _) (by simp))
  refine wpIn_rangeFunc_ownH hro h1 (gf := g) (lb := lb) rfl hFg eg hseq walksK_t walksK_b hB0 (fun _ => rfl)
    (fun pre W => (∃ v, Boxed W w.heap.size 136 v ∧ W.ownsRow w.heap.size 132 2 v pre.length (pre.flatMap srC) ∧ (v = .slice none 0 0 ↔ pre = [])) ∧ Below w.heap.size w W)
    (fun _ _ _ => False) hOwn
    (fun _ _ _ _ _ hs _ _ => hs)
    ⟨⟨_, bO, World.ownsRow_nil _ _ _ _, by simp⟩, hB0⟩
    (fun x a' W => ∃ Bx, w.heap.size < Bx ∧ W.heap[Bx]? = some (.cells #[.slice x.p x.n x.cap, .int .i64 x.o] 132 (0, 0)) ∧ a' = { tmps := #[.slice none 0 0, .func (.func g) #[] lb, .pointer (some ⟨w.heap.size, 0, none⟩), undef, .slice none 0 0, .pointer (some ⟨Bx, 0, none⟩), .func (.func g) #[] lb, srV x, undef, undef, undef, undef, undef], defers := [] })
    ?hAx ?assign ?body ?done ?stop
  case hAx =>
    rintro x a' _ X Y row ⟨Bx, hb, hB, e⟩ hg hr
    exact ⟨Bx, hb, (hg.block Bx (lt_of_heap hB) (fun e' => by obtain ⟨_, o, ho, hc⟩ := hr Bx e'.symm; rw [hB] at ho; cases ho; cases hc)).trans hB, e⟩
  case assign =>
    intro l pre x W K hI hK
    have hlt := hI.2.size
    dsimp only [srV]
    gi_wp2
    exact hK _ _ ((KeepsOthers.alloc _ _).from _) (KeepsOthers.alloc _ _).walks (hOwn.alloc _ hI) ⟨W.heap.size, (by obtain ⟨⟨v, hv, _⟩, _⟩ := hI; exact hv.lt), World.alloc_heap_new _ _, rfl⟩
  case body =>
    rintro l pre x a' W hl _ ⟨⟨v, hv, hrow, hnil⟩, hB⟩ ⟨Bx, hbx, hBx, rfl⟩ hlt
    have hc := hv.cell
    have q0 : W.cell? ⟨Bx, 0, none⟩ = some (.slice x.p x.n x.cap) := by simp [World.cell?, hBx]
    have q1 : W.cell? ⟨Bx, 1, none⟩ = some (.int .i64 x.o) := by simp [World.cell?, hBx]
    have hbl : Bx < W.heap.size := lt_of_heap hBx
    gi_wp2_with (gi_at_builtin; refine wpListIn_append_own _ rfl _ _ 136 rfl w.heap.size 132 i0 (.agg #[.slice none 0 0, .int .i64 0]) 2 32 Tryz.underlying136 hi hz0 hz1 hz2 rfl (by decide) _ _ _ rfl (hrow.alloc _) ⟨W.heap.size, 0, none⟩ 1 1 (srC x) rfl rfl (cell_two_new _ _ _ _) (by simp [srC, Value.oneCell']) (by unfold maxLen; omega) (by omega) (by have := hB.size; simp; omega) ?_; intro v' w1 hown' hgrow _; obtain ⟨g', cap', rfl⟩ := ownsRow_succ hown'; obtain ⟨hv1, hv2, hr2, hk2, hb2⟩ := hv.appended (by decide) hrow hB.size (Nat.le_refl _) hown' hgrow; have hc1 := hv1.cell; have hf1 := hv1.frozen)
    exact ⟨hk2.from _, hk2.walks, ⟨_, hv2, by simpa using hr2, by simp⟩, hB.trans hb2⟩
  case done =>
    rintro D ys W hD hS ⟨⟨v, hv, hrow, hnil⟩, hB⟩ hK
    have hc := hv.cell
    gi_wp2
    refine ⟨by simp, .inl ⟨_, _, rfl, run_takeDeferred hK, ?_⟩⟩
    exact ⟨_, results_tmp rfl _ _ _, v, ys, rfl, hS, ownsRow_putObj hrow _ hK rfl, hnil, hB.trans (belowK_b (w := w) (Nat.le_refl _) W D _ _ (by simp at hD; omega) hK rfl rfl)⟩
  case stop =>
    rintro D c pre W _ _ h _
    exact h.elim

set_option maxHeartbeats 400000 in
theorem ar_collect (F : Fence) (n : Nat) (hf : F.fn 123) (hf2 : F.fn 178) (hro : F.round = none) (hn : 4 ≤ n) (g : Nat) (lb : Array Value) (hFg : F.fn g) (eg : ∀ args w, (callFunc g args).run Tryz.prog w = .ok (.enter g args) w)
    (S Sp : List RowS → Prop) (N : Nat) (hN : N ≤ 281474976710656) (hNb : N * 32 ≤ 140737488355328) (hSN : ∀ xs, S xs → xs.length ≤ N) (w : World) (hseq : SeqStopsK F (n - 1 - 1) Tryz.prog g lb (fun x => #[srV x]) KeepsWalks S Sp N w) :
    CallsIn F n Tryz.prog 123 #[.func (.func g) #[] lb] w fun e W' => ∃ (v : Value) (ss : List RowS), e = .returned v ∧ S ss ∧ W'.ownsRow w.heap.size 132 2 v ss.length (ss.flatMap srC) ∧ (v = .slice none 0 0 ↔ ss = []) ∧ Below w.heap.size w W' := by
  have h1 : 1 ≤ n := by omega
  refine callsIn_of_wp Tryz.func123 rfl hf ?_ hro
  simp only [Tryz.ntmps123, List.size_toArray, List.length_cons, List.length_nil, Nat.reduceAdd, Nat.reduceSub, Array.replicate_succ, Array.replicate_zero, List.push_toArray, List.append_toArray, List.nil_append, List.cons_append]
  gi_wp2_with (gi_at_call 178; refine (ar_append F (n - 1) hf2 hro (by omega) g lb hFg eg S Sp N hN hNb hSN _ hseq).mono ?_; rintro e w' ⟨v, ss, rfl, hS, hrow, hnil, hb⟩)
  go_ret
  exact ⟨v, ss, rfl, hS, hrow, hnil, hb⟩
end Go.Proofs.YtdacbgdinmaemaaGreatDoor

namespace Vz
open Go Go.RowKit Go.Sort Go.Proofs
variable {α : Type} [Inhabited α]

theorem get_flat (enc : α → List Value) (k : Nat) (hk : ∀ x, (enc x).length = k) : ∀ (l : List α) (t : Nat), t < l.length * k → (l.flatMap enc)[t]? = some ((enc l[t / k]!)[t % k]!)
  | [], t, h => by simp at h
  | a :: l, t, h => by
    rw [List.flatMap_cons]
    by_cases ht : t < k
    · rw [List.getElem?_append_left (by rw [hk]; exact ht), Nat.div_eq_of_lt ht, Nat.mod_eq_of_lt ht]
      have h1 : t < (enc a).length := by rw [hk]; exact ht
      rw [List.getElem?_eq_getElem h1]
      show _ = some (enc a)[t]!
      rw [getElem!_pos (enc a) t h1]
    · have hkp : 0 < k := by
        rcases Nat.eq_zero_or_pos k with e | e
        · subst e; simp at h
        · exact e
      have e1 : t = (t - k) + k := by omega
      rw [List.getElem?_append_right (by rw [hk]; omega), hk, get_flat enc k hk l (t - k) (by rw [List.length_cons, Nat.add_mul, Nat.one_mul] at h; omega)]
      have e2 : t / k = (t - k) / k + 1 := by conv => lhs; rw [e1]
                                              exact Nat.add_div_right _ hkp
      have e3 : t % k = (t - k) % k := by conv => lhs; rw [e1]
                                          exact Nat.add_mod_right _ _
      rw [e2, e3, List.getElem!_cons_succ]
theorem flatK_toList (enc : α → List Value) (k : Nat) (hk : ∀ x, (enc x).length = k) (d : Array α) : (flatK enc k d).toList = d.toList.flatMap enc := by
  apply List.ext_getElem?
  intro t
  by_cases ht : t < d.size * k
  · rw [get_flat enc k hk d.toList t (by simpa using ht)]
    have h1 := get_flatK enc k d t ht
    have h2 : t < (flatK enc k d).size := by simpa using ht
    rw [getElem!_pos _ t h2] at h1
    have e4 : d.toList[t / k]! = d[t / k]! := by simp [Array.getElem!_eq_getD, Array.getD_eq_getD_getElem?]
    rw [Array.getElem?_toList, Array.getElem?_eq_getElem h2, h1, e4]
  · have hl : (d.toList.flatMap enc).length = d.size * k := by
      rw [List.length_flatMap, List.map_congr_left (g := fun _ => k) (fun x _ => hk x)]; simp [List.map_const']
    rw [List.getElem?_eq_none (by simp; omega), List.getElem?_eq_none (by omega)]
theorem sortWorldK_eq (enc : α → List Value) (k : Nat) (w : World) (g n : Nat) (d : Array α) (os : Array Obj) : sortWorldK enc k w g 0 n d os = sortWorld id w g 0 n (flatK enc k d) os := rfl

theorem holdsK_of_block (enc : α → List Value) (k : Nat) (hk : ∀ x, (enc x).length = k) {w : World} {g : Nat} {cur : Array Value} {e : TypeId} {ss : List α} (hb : w.heap[g]? = some (.cells cur e (0, 0))) (ht : cur.toList.take (ss.length * k) = ss.flatMap enc) : HoldsK enc k w g 0 ss.toArray := by
  have e1 := flatK_toList enc k hk ss.toArray
  have e2 : flatK enc k ss.toArray = (ss.flatMap enc).toArray := by apply Array.ext'; rw [e1]
  unfold HoldsK
  rw [e2]
  refine holdsE_of_block id hb ?_
  have hl : (ss.flatMap enc).length = ss.length * k := by
    rw [List.length_flatMap, List.map_congr_left (g := fun _ => k) (fun x _ => hk x)]; simp [List.map_const']
  rw [hl, ht]; simp
theorem ownsRow_sortedK (enc : α → List Value) (k : Nat) (hk : ∀ x, (enc x).length = k) {w : World} {base g cap n : Nat} {e : TypeId} {os : Array Obj} {cur : Array Value} {ts : List α} {m : Nat} (hl : ts.length = m) (hbase : base ≤ g) (hb : w.heap[g]? = some (.cells cur e (0, 0)))
    (h1 : m ≤ cap) (h2 : cap ≤ maxLen) (h3 : cur.size = cap * k) :
    (sortWorldK enc k w g 0 n ts.toArray os).ownsRow base e k (.slice (some ⟨g, 0, none⟩) m cap) m (ts.flatMap enc) := by
  have e1 := flatK_toList enc k hk ts.toArray
  have e2 : flatK enc k ts.toArray = (ts.flatMap enc).toArray := by apply Array.ext'; rw [e1]
  have hl2 : (ts.flatMap enc).length = m * k := by
    rw [List.length_flatMap, List.map_congr_left (g := fun _ => k) (fun x _ => hk x), ← hl]; simp [List.map_const']
  rw [sortWorldK_eq, e2]
  have hle : m * k ≤ cap * k := Nat.mul_le_mul_right k h1
  refine ⟨hl2, .inr ⟨g, cap, _, rfl, hbase, heap_sorted id _ hb, h1, h2, by simp [putCells, h3], ?_⟩⟩
  rw [← hl2]
  have := take_putCells id cur (ts.flatMap enc) (by omega)
  simpa using this
theorem sortedK_below (enc : α → List Value) (k : Nat) {w0 w : World} {b g n : Nat} {os : Array Obj} (d : Array α) (h : RowKit.Below b w0 w) (hg : b ≤ g) (hb : b ≤ w0.heap.size) : RowKit.Below b w0 (sortWorldK enc k w g 0 n d os) := sorted_below id _ h hg hb
end Vz

namespace Go.Proofs.YtdacbgdinmaemaaGreatDoor
open Go Go.RowKit Vz Go.Shelf Go.Sort

set_option maxRecDepth 100000 in
set_option maxHeartbeats 400000 in
theorem tok_cmp (x y : RowS) (w : World) :
    Calls Tryz.prog 60 #[srV x, srV y] w fun e w' => e = .returned (.int .i64 (cmpI x.o y.o)) ∧ ∃ q os', w' = grow (w.drewN q) os' := by
  unfold srV
  go_enter Tryz.func60, Tryz.ntmps60
  go_wp2_with fail
  refine (compareInt _ _ _).mono ?_
  rintro e w' ⟨rfl, rfl⟩
  go_wp2_with fail
  go_ret
  refine ⟨rfl, 0, #[.cells #[.slice x.p x.n x.cap, .int .i64 x.o] 132 (0, 0), .cells #[.slice y.p y.n y.cap, .int .i64 y.o] 132 (0, 0)], ?_⟩
  rw [alloc_eq_grow, alloc_eq_grow, grow_grow]; rfl
end Go.Proofs.YtdacbgdinmaemaaGreatDoor
