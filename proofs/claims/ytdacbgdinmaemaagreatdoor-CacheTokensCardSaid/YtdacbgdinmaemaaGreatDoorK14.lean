/- Contracts and plain laws of this claim, part K14. -/
import Derived.Deep.CutBlock
import Derived.Deep.DeepCutAuto
import Derived.Test.YtdacbgdinmaemaaGreatDoorK13
import Derived.Test.YtdacbgdinmaemaaGreatDoorK12
set_option linter.all false

namespace Go.Proofs.YtdacbgdinmaemaaGreatDoor
open Go Go.RowKit Vz Go.Shelf

structure CallR where
  (what tok ip : Int) (mac : Mac6) (now : Nat)
def callObj (x : CallR) : Obj := .cells #[.int .i64 x.what, .int .i64 x.tok, .int .u32 x.ip, .int .u8 x.mac.a0, .int .u8 x.mac.a1, .int .u8 x.mac.a2, .int .u8 x.mac.a3, .int .u8 x.mac.a4, .int .u8 x.mac.a5, .int .u64 x.now] 34 (0, 0)
/-- a slice of calls, where it stands -/
def CallsAt (w : World) (v : Value) (cs : List CallR) : Prop := ∃ p cap, v = .slice p cs.length cap ∧ ∀ i (h : i < cs.length), ∃ g o, p = some ⟨g, o, none⟩ ∧
  w.cell? ⟨g, o + i * 10, none⟩ = some (.int .i64 cs[i].what) ∧ w.cell? ⟨g, o + i * 10 + 1, none⟩ = some (.int .i64 cs[i].tok) ∧ w.cell? ⟨g, o + i * 10 + 2, none⟩ = some (.int .u32 cs[i].ip) ∧
  w.cell? ⟨g, o + i * 10 + 3, none⟩ = some (.int .u8 cs[i].mac.a0) ∧ w.cell? ⟨g, o + i * 10 + 4, none⟩ = some (.int .u8 cs[i].mac.a1) ∧ w.cell? ⟨g, o + i * 10 + 5, none⟩ = some (.int .u8 cs[i].mac.a2) ∧
  w.cell? ⟨g, o + i * 10 + 6, none⟩ = some (.int .u8 cs[i].mac.a3) ∧ w.cell? ⟨g, o + i * 10 + 7, none⟩ = some (.int .u8 cs[i].mac.a4) ∧ w.cell? ⟨g, o + i * 10 + 8, none⟩ = some (.int .u8 cs[i].mac.a5) ∧
  w.cell? ⟨g, o + i * 10 + 9, none⟩ = some (.int .u64 cs[i].now)
theorem und_wmap : Tryz.prog.underlying 29 = some (.map 3 30) := by kernel_rfl
theorem zu32 (w : World) : (zeroValue 30).run Tryz.prog w = .ok (ku 0) w := by kernel_rfl

/-- where the ways of the switch meet -/
structure TokTail (w1 wT : World) (c mw xb : Nat) (M : CM) (B : CB) (W tP : List (Int × Int)) (told : List Int) (vT : Value) (x : CallR) (rm wt life pat i : Nat) : Prop where
  row : wT.ownsRow 0 3 1 vT told.length (told.map ki)
  tp : tP.map (·.1) = told
  mid : TokMid M W tP (i + 1)
  at_ : CacheAt wT c M B
  wf : WF M rm wt life pat (i + 1)
  map : MapAt wT mw ki ku W
  nm : ¬ B.fp c mw
  K : Keep (fun i => w1.heap.size ≤ i) w1 wT
  F : ∀ i, B.fp c i → w1.heap.size ≤ i
  xb : wT.heap[xb]? = some (callObj x)
  wh : x.what = 0 → ∀ q ∈ tP, q.2 = x.ip
  tl : told.length ≤ 16384

theorem not_map {w : World} {mw : Nat} {W : List (Int × Int)} (hM : MapAt w mw ki ku W) {b n : Nat} {v : Value} {xs : List Value} {e : TypeId} {size : Nat} (hr : w.ownsRow b e size v n xs) {g : Nat} (hg : v.ownBlock = some g) : ¬ g = mw := by
  intro h
  obtain ⟨es, cl, h1, _⟩ := hM
  rcases hr.2 with ⟨rfl, _⟩ | ⟨g', cap, cur, rfl, _, hb, _⟩
  · simp [Value.ownBlock] at hg
  · simp [Value.ownBlock] at hg; rw [← h, ← hg, hb] at h1; cases h1
theorem CacheAt.keepMap {w w' : World} {c mw : Nat} {M : CM} {B : CB} {W : List (Int × Int)} (h : CacheAt w c M B) (hM : MapAt w mw ki ku W) (hk : Keep (fun i => i = mw) w w') (hn : ¬ B.fp c mw) : CacheAt w' c M B :=
  h.keepS hk (fun i hi e => hn (e ▸ hi)) (fun p hp g hg e => by
    obtain ⟨_, _, hq, _⟩ := h
    exact not_map hM (hq.toks p hp).1 hg e)
theorem owns_none (w : World) {b : Nat} (h : w.heap[b]? = some (.cells #[] 3 (0, 0))) : w.ownsRow 0 3 1 (.slice (some ⟨b, 0, none⟩) 0 0) ([] : List Int).length (([] : List Int).map ki) :=
  ⟨rfl, .inr ⟨b, 0, #[], rfl, Nat.zero_le _, h, Nat.le_refl _, Nat.zero_le _, rfl, rfl⟩⟩

set_option maxRecDepth 100000 in
set_option maxHeartbeats 4000000 in
theorem cacheTokens_any (room wait : Int) (life pat : Nat) (cv : Value) (cs : List CallR) (w : World) (hT : Tab w) (hcv : CallsAt w cv cs) (hip : ∀ x ∈ cs, 0 ≤ x.ip ∧ x.ip < 4294967296) (hlen : cs.length ≤ 9223372036854775807) :
    Calls Tryz.prog 3 #[.int .i64 room, .int .i64 wait, .int .u64 life, .int .u64 pat, cv] w fun e w' => e = .returned (.bool true) ∧ Keep (fun _ => False) w w' := by
  have hTz : 1 < w.heap.size := World.block_lt_of_cell? _ _ (hT 0 (by decide))
  obtain ⟨tp, tc, rfl, htc⟩ := hcv
  have Htc := Lib.hid htc
  have HT := Lib.hid hT
  have Hip := Lib.hid hip
  clear htc hT hip
  have hmm := @run_makeMap Tryz.prog
  go_enter Tryz.func3, Tryz.ntmps3
  go_wp2_with fail
  refine (alive_any w HT.out).mono ?_
  rintro e w1 ⟨rfl, k1⟩
  by_cases hl : cs.length ≤ 100
  · have hli : ¬ (100 : Int) < cs.length := by omega
    by_cases hR : RightB room wait life pat
    · obtain ⟨rm, wt, rfl, rfl, hr1, hr2, hw1, hw2, hlf, hpt, _, _⟩ := right_nat hR
      have hnew := cnew_right rm wt life pat w1 hR
      have hRR := Lib.hid hR
      clear hR
      go_wp2_with fail
      refine hnew.mono ?_
      clear hnew
      rintro e w2 ⟨c, B, rfl, hA2, k2, hf2⟩
      have K2 : Keep (fun i => w1.heap.size ≤ i) w1 w2 := quietK (Keep.refl _ w1) k2
      go_wp2_with fail
      generalize hwm : World.alloc w2 _ = w3
      have k3 : Keep (fun _ => False) w2 w3 := by rw [← hwm]; exact (Keep.refl _ w2).alloc _
      have hM3 : MapAt w3 w2.heap.size ki ku [] := by rw [← hwm]; exact MapAt.fresh w2 ki ku
      clear hwm
      have hmw : ∀ i, B.fp c i → i < w2.heap.size := fun i hi => hA2.lt hi
      have hz21 := k2.size
      obtain ⟨mw, hmwe⟩ : ∃ mw, mw = w2.heap.size := ⟨_, rfl⟩
      rw [← hmwe] at hM3 hmw
      rw [← hmwe]
      have hmw1 : w1.heap.size ≤ mw := by omega
      have hA3 := hA2.keep k3 (fun _ _ h => h)
      have K3 := quietK K2 k3
      clear hmwe k2 k3 hA2 K2
      go_loopw [14] (fun vi wr => ∃ (i : Nat) (M : CM) (B : CB) (W : List (Int × Int)), vi = .int .i64 i ∧ i ≤ cs.length ∧ CacheAt wr c M B ∧ WF M rm wt life pat i ∧ MapAt wr mw ki ku W ∧ TokInv M W i ∧ ¬ B.fp c mw ∧
        Keep (fun i => w1.heap.size ≤ i) w1 wr ∧ ∀ i, B.fp c i → w1.heap.size ≤ i) (fun vi _ => cs.length - (intOf vi).toNat)
      case atStart => exact ⟨0, _, B, [], by go_num, by omega, hA3, WF.start rm wt life pat, hM3, ⟨List.Perm.refl _, by simp [keys], fun q hq => by cases hq⟩, fun h => by have := hmw _ h; omega, K3, hf2⟩
      case round =>
        obtain ⟨i, M, B', W, rfl, hit, hA, hW, hM, hI, hnm, K, F⟩ := hrel
        by_cases hlt : i < cs.length
        · have hli2 : (i : Int) < cs.length := by omega
          obtain ⟨g, o, rfl, c0, c1, c2, c3, c4, c5, c6, c7, c8, c9⟩ := Htc.out i hlt
          have hgl : g < w.heap.size := World.block_lt_of_cell? _ _ c0
          have hk01 := k1.size
          have hq : ∀ {off : Nat} {v : Value}, w.cell? ⟨g, off, none⟩ = some v → wr.cell? ⟨g, off, none⟩ = some v := fun h => K.cell (k1.cell h (fun h => h)) (fun (hx : w1.heap.size ≤ g) => by omega)
          have d0 := hq c0; have d1 := hq c1; have d2 := hq c2; have d3 := hq c3; have d4 := hq c4; have d5 := hq c5; have d6 := hq c6; have d7 := hq c7; have d8 := hq c8; have d9 := hq c9
          obtain ⟨hx0, hx1⟩ := Hip.out cs[i] (by simp)
          obtain ⟨x, hx⟩ : ∃ x, x = cs[i] := ⟨_, rfl⟩
          rw [← hx] at d0 d1 d2 d3 d4 d5 d6 d7 d8 d9 hx0 hx1
          clear hx c0 c1 c2 c3 c4 c5 c6 c7 c8 c9 hq
          obtain ⟨wo, rfl⟩ : ∃ wo : World, wo = wr := ⟨_, rfl⟩
          go_upto_block 2 with (fail)
          generalize hwB : World.alloc (World.alloc wo _) _ = w4
          have k4 : Keep (fun _ => False) wo w4 := by rw [← hwB]; exact ((Keep.refl _ wo).alloc _).alloc _
          have hxb4 : w4.heap[wo.heap.size]? = some (callObj x) := by rw [← hwB]; exact (Below.heap_alloc _ _ _ (by simp)).trans (World.alloc_heap_new _ _)
          have hem4 : w4.heap[wo.heap.size + 1]? = some (.cells #[] 3 (0, 0)) := by rw [← hwB]; exact heap_new1 _ _ _
          clear hwB d0 d1 d2 d3 d4 d5 d6 d7 d8 d9
          have hA4 := hA.keep k4 (fun _ _ h => h)
          have K4 := quietK K k4
          have hM4 := hM.keep k4 (fun h => h)
          have hxl : ∀ i, B'.fp c i → i < wo.heap.size := fun i hi => hA.lt hi
          have hmwl := hM.lt
          have hem := owns_none w4 hem4
          go_cut [16] (fun sT wT => ∃ (M5 : CM) (B5 : CB) (W5 tP : List (Int × Int)) (told : List Int) (pT : Option Addr) (qT : Nat), sT = .slice pT told.length qT ∧ TokTail w1 wT c mw wo.heap.size M5 B5 W5 tP told (.slice pT told.length qT) x rm wt life pat i)
          case first =>
            have hxb4' := hxb4
            unfold callObj at hxb4'
            have g0 : w4.cell? ⟨wo.heap.size, 0, none⟩ = some (.int .i64 x.what) := by simp [World.cell?, hxb4']
            have g2 : w4.cell? ⟨wo.heap.size, 2, none⟩ = some (.int .u32 x.ip) := by simp [World.cell?, hxb4']
            have g3 : w4.cell? ⟨wo.heap.size, 3, none⟩ = some (.int .u8 x.mac.a0) := by simp [World.cell?, hxb4']
            have g4 : w4.cell? ⟨wo.heap.size, 4, none⟩ = some (.int .u8 x.mac.a1) := by simp [World.cell?, hxb4']
            have g5 : w4.cell? ⟨wo.heap.size, 5, none⟩ = some (.int .u8 x.mac.a2) := by simp [World.cell?, hxb4']
            have g6 : w4.cell? ⟨wo.heap.size, 6, none⟩ = some (.int .u8 x.mac.a3) := by simp [World.cell?, hxb4']
            have g7 : w4.cell? ⟨wo.heap.size, 7, none⟩ = some (.int .u8 x.mac.a4) := by simp [World.cell?, hxb4']
            have g8 : w4.cell? ⟨wo.heap.size, 8, none⟩ = some (.int .u8 x.mac.a5) := by simp [World.cell?, hxb4']
            have g9 : w4.cell? ⟨wo.heap.size, 9, none⟩ = some (.int .u64 x.now) := by simp [World.cell?, hxb4']
            have hxl4 : wo.heap.size < w4.heap.size := lt_of_heap hxb4
            clear hxb4'
            by_cases w0 : x.what = 0
            · have b0 : (x.what == 0) = true := by simp [w0]
              have HW0 := Lib.hid w0
              clear w0
              go_wp2_with fail
              have hlearn := learn_any c x.ip x.mac x.now M B' w4 rm wt life pat i hA4 hW hx0 hx1 (by omega) hlf hr1 hr2
              unfold macV at hlearn
              refine hlearn.mono ?_
              clear hlearn
              rintro e w5 ⟨v5, M5, B5, rfl, hL5, hW5, hA5, hS5, htk5⟩
              obtain ⟨K5, F5⟩ := stepK K4 F hS5
              obtain ⟨p5, q5, rfl⟩ := slice_form htk5.1
              have hTail : TokTail w1 w5 c mw wo.heap.size M5 B5 W (pairs x.ip (toksAt M x.ip)) (toksAt M x.ip) (.slice p5 (toksAt M x.ip).length q5) x rm wt life pat i :=
                ⟨htk5.1, by unfold pairs; rw [List.map_map]; simp [Function.comp_def], hI.learned hW.kn.2 hL5, hA5, hW5, hM4.keep hS5.keep hnm, fun h => (hS5.fp _ h).elim hnm (fun h => by have := k4.size; omega), K5, F5, hS5.keep.heap hxb4 (fun h => by have := hxl _ h; omega), fun _ q hq => by unfold pairs at hq; obtain ⟨_, _, rfl⟩ := List.mem_map.1 hq; rfl, by have := toksAt_le hW x.ip; omega⟩
              clear hL5 hW5 hA5 hS5 htk5 K5 F5 hem hem4 hxb4 hA4 K4 hM4 hA hM hI hW hxl
              go_wp2_with fail
              go_meet
              exact ⟨_, _, _, _, _, _, _, rfl, hTail⟩
            have b0 : (x.what == 0) = false := by simpa using w0
            by_cases w2' : x.what = 2
            · have b2 : (x.what == 2) = true := by simp [w2']
              clear w2'
              go_wp2_with fail
              have hwait := wait_any c x.ip (i : Int) x.now M B' w4 rm wt life pat i hA4 hW hx0 hx1 (by omega) hpt hr2 hw1 hw2
              by_cases hok : waitsOk M x.ip = true
              · rw [hok] at hwait
                simp only [if_true] at hwait
                refine hwait.mono ?_
                clear hwait
                rintro e w5 ⟨M5, B5, rfl, hL5, hW5, hA5, hS5, _⟩
                obtain ⟨K5, F5⟩ := stepK K4 F hS5
                have hM5 := hM4.keep hS5.keep hnm
                have hnm5 : ¬ B5.fp c mw := fun h => (hS5.fp _ h).elim hnm (fun h => by have := k4.size; omega)
                have hxb5 := hS5.keep.heap hxb4 (fun h => by have := hxl _ h; omega)
                have hMid := hI.waits hok hL5
                have hem5 := ownsRow_keep2 hem hS5.keep (ownBlock_not_fp hA4 hem)
                have hc52 : w5.cell? ⟨wo.heap.size, 2, none⟩ = some (.int .u32 x.ip) := by unfold callObj at hxb5; simp [World.cell?, hxb5]
                have hxbl := lt_of_heap hxb5
                go_wp2_with (at_mapUpdate; refine wpList_update_at rfl _ _ _ _ rfl kInt und_wmap rfl hM5 (i : Int) rfl (x.ip) rfl ?_; intro w6 hat6 hk6 hz6)
                have hTail : TokTail w1 w6 c mw wo.heap.size M5 B5 (put W (i : Int) x.ip) [] [] (.slice (some ⟨wo.heap.size + 1, 0, none⟩) 0 0) x rm wt life pat i :=
                  ⟨ownsRow_keep2 hem5 hk6 (fun g hg => not_map hM5 hem5 hg), rfl, hMid, hA5.keepMap hM5 hk6 hnm5, hW5, hat6, hnm5, K5.trans hk6 (fun _ h => h) (fun i hi (e : i = mw) => by omega), F5, hk6.heap hxb5 (by omega), fun h => absurd h w0, by simp⟩
                clear hL5 hW5 hA5 hS5 K5 F5 hem hem4 hxb4 hA4 K4 hM4 hA hM hI hW hxl hM5 hnm5 hxb5 hMid hem5 hc52 hat6 hk6
                go_meet
                exact ⟨_, _, _, _, _, _, _, rfl, hTail⟩
              · have hok2 : waitsOk M x.ip = false := by simpa using hok
                rw [hok2] at hwait
                simp only [Bool.false_eq_true, if_false] at hwait
                refine hwait.mono ?_
                clear hwait
                rintro e w5 ⟨M5, B5, rfl, hL5, hW5, hA5, hS5, _⟩
                obtain ⟨K5, F5⟩ := stepK K4 F hS5
                have hTail : TokTail w1 w5 c mw wo.heap.size M5 B5 W [] [] (.slice (some ⟨wo.heap.size + 1, 0, none⟩) 0 0) x rm wt life pat i :=
                  ⟨ownsRow_keep2 hem hS5.keep (ownBlock_not_fp hA4 hem), rfl, hI.refused hok2 hL5, hA5, hW5, hM4.keep hS5.keep hnm, fun h => (hS5.fp _ h).elim hnm (fun h => by have := k4.size; omega), K5, F5, hS5.keep.heap hxb4 (fun h => by have := hxl _ h; omega), fun h => absurd h w0, by simp⟩
                clear hL5 hW5 hA5 hS5 K5 F5 hem hem4 hxb4 hA4 K4 hM4 hA hM hI hW hxl
                go_wp2_with fail
                go_meet
                exact ⟨_, _, _, _, _, _, _, rfl, hTail⟩
            have b2 : (x.what == 2) = false := by simpa using w2'
            clear w2'
            by_cases w3' : x.what = 3
            · have b3 : (x.what == 3) = true := by simp [w3']
              clear w3'
              go_wp2_with fail
              have hT4 : Tab w4 := Tab.keep (Tab.keep HT.out k1 (fun h => h)) K4 (fun h => by omega)
              refine (sweep_any c x.now M B' w4 rm wt life pat i hA4 hW hr2 hw2 hT4 (fun h => by have := F _ h; omega)).mono ?_
              rintro e w5 ⟨v5, told, B5, rfl, htold, hA5, hS5, htk5⟩
              obtain ⟨K5, F5⟩ := stepK K4 F hS5
              obtain ⟨p5, q5, rfl⟩ := slice_form htk5.1
              obtain ⟨tP, htp, hmid⟩ := hI.swept hW.kn.2 htold
              have htl : told.length ≤ 16384 := by
                have h1 := congrArg List.length htp
                rw [List.length_map] at h1
                have h2 := hmid.perm.length_eq
                have h3 := hI.perm.length_eq
                have h4 := congrArg List.length (TT_keys M.rows)
                have h5 := toks_bound hW (List.Perm.refl M.rows)
                have h6 : rm * wt ≤ 256 * 64 := Nat.mul_le_mul hr2 hw2
                rw [List.length_map] at h4
                rw [List.length_append] at h2
                omega
              have hTail : TokTail w1 w5 c mw wo.heap.size (sweptM M (tm61 x.now)) B5 W tP told (.slice p5 told.length q5) x rm wt life pat i :=
                ⟨htk5.1, htp, hmid, hA5, (hW.swept _).mono (by omega), hM4.keep hS5.keep hnm, fun h => (hS5.fp _ h).elim hnm (fun h => by have := k4.size; omega), K5, F5, hS5.keep.heap hxb4 (fun h => by have := hxl _ h; omega), fun h => absurd h w0, htl⟩
              clear hA5 hS5 htk5 K5 F5 hem hem4 hxb4 hA4 K4 hM4 hA hM hI hW hxl htold hmid htp hT4 htl
              go_wp2_with fail
              go_meet
              exact ⟨_, _, _, _, _, _, _, rfl, hTail⟩
            · have b3 : (x.what == 3) = false := by simpa using w3'
              clear w3'
              go_wp2_with fail
              have hTail : TokTail w1 w4 c mw wo.heap.size M B' W [] [] (.slice (some ⟨wo.heap.size + 1, 0, none⟩) 0 0) x rm wt life pat i :=
                ⟨hem, rfl, hI.idle, hA4, hW.mono (by omega), hM4, hnm, K4, F, hxb4, fun h => absurd h w0, by simp⟩
              clear hem hem4 hxb4 hA4 K4 hM4 hA hM hI hW hxl
              go_wp2_with fail
              go_meet
              exact ⟨_, _, _, _, _, _, _, rfl, hTail⟩
          case rest =>
            obtain ⟨M5, B5, W5, tP, told, pT, qT, rfl, hTail⟩ := hcut
            clear hem hem4 hxb4 hA4 K4 hM4 hA hM hI hW hxl
            go_wp2_with fail
            obtain ⟨hrowT, htP, hMid, hAT, hWT, hMT, hnT, KT, FT, hxbT, hwhT, htlT⟩ := hTail
            have HrowT := Lib.hid (IntsAt.of_owns hrowT)
            have hnb : ∀ g, ((Value.slice pT told.length qT) : Value).ownBlock = some g → ¬ g = mw := fun g hg => not_map hMT hrowT hg
            have HtP := Lib.hid htP
            have hxbm : ¬ wo.heap.size = mw := by omega
            clear hrowT htP
            go_loopw [19] (fun vk wr => ∃ (k : Nat) (Wk : List (Int × Int)), vk = .int .i64 k ∧ k ≤ (told : List Int).length ∧ MapAt wr mw ki ku Wk ∧ TokMid (M5) Wk ((tP : List (Int × Int)).drop k) (i + 1) ∧ Keep (fun i => i = mw) wc wr) (fun vk _ => (told : List Int).length - (intOf vk).toNat)
            case atStart => exact ⟨0, _, by go_num, Nat.zero_le _, hMT, by simpa using hMid, Keep.refl _ _⟩
            case round =>
              obtain ⟨k, Wk, rfl, hk, hMk, hmk, kk⟩ := hrel
              have hxbr := kk.heap hxbT hxbm
              unfold callObj at hxbr
              have hx0 : wr.cell? ⟨wo.heap.size, 0, none⟩ = some (.int .i64 x.what) := by simp [World.cell?, hxbr]
              have hx2 : wr.cell? ⟨wo.heap.size, 2, none⟩ = some (.int .u32 x.ip) := by simp [World.cell?, hxbr]
              have hxl : wo.heap.size < wr.heap.size := lt_of_heap hxbr
              clear hxbr
              by_cases hlk : k < (told : List Int).length
              · have hlki : (k : Int) < (told : List Int).length := by omega
                obtain ⟨_, _, hv, hcs⟩ := HrowT.out
                obtain ⟨gt, ot, hp, hct⟩ := hcs k hlk
                cases hv
                cases hp
                have hctr := kk.cell hct (fun e => hnb gt rfl e)
                have hkt : k < (tP : List (Int × Int)).length := by
                  have h1 := congrArg List.length HtP.out
                  rw [List.length_map] at h1; omega
                have hdr : (tP : List (Int × Int)).drop k = (tP : List (Int × Int))[k] :: (tP : List (Int × Int)).drop (k + 1) := List.drop_eq_getElem_cons hkt
                have hq1 : ((tP : List (Int × Int))[k]).1 = (told : List Int)[k] := by
                  have h1 : ((tP : List (Int × Int)).map (·.1))[k]? = (told : List Int)[k]? := by rw [HtP.out]
                  rw [List.getElem?_map, List.getElem?_eq_getElem hkt, List.getElem?_eq_getElem hlk] at h1
                  simpa using h1
                rw [hdr] at hmk
                have hlook := hmk.look
                have hstep := hmk.step
                rw [hq1] at hlook hstep
                obtain ⟨qi, hqi⟩ : ∃ qi, qi = ((tP : List (Int × Int))[k]).2 := ⟨_, rfl⟩
                rw [← hqi] at hlook
                have hwhq : x.what = 0 → qi = x.ip := fun h => by rw [hqi]; exact hwhT h _ (List.getElem_mem hkt)
                obtain ⟨tk, htk⟩ : ∃ tk, tk = (told : List Int)[k] := ⟨_, rfl⟩
                rw [← htk] at hctr hlook hstep
                have hb0 : ((x.what == 0) = true ∧ qi = x.ip) ∨ (x.what == 0) = false := by
                  by_cases w0 : x.what = 0
                  · exact .inl ⟨by simp [w0], hwhq w0⟩
                  · exact .inr (by simpa using w0)
                clear hwhq
                have Hstep := Lib.hid hstep
                clear hstep hdr hq1 hct hcs htk hmk
                obtain ⟨b0, hqe⟩ | b0 := hb0
                case' inl => rw [hqe] at hlook; clear hqe hqi
                case' inr => clear hqi
                all_goals
                  have Hlook := Lib.hid hlook
                  clear hlook
                  go_wp2_with (first
                    | (at_lookup; refine wpList_lookup_ok_at rfl _ _ _ rfl kInt und_wmap (zu32 _) rfl hMk tk rfl ?_; rw [Hlook.out]; simp only [Option.map_some, Option.getD_some, Option.isSome_some])
                    | (at_delete; refine wpList_delete_at rfl _ _ _ _ rfl kInt und_wmap rfl hMk tk rfl ?_; intro w7 hat7 hk7 hz7))
                  go_roundw
                  case rel => exact ⟨k + 1, _, by go_num, by omega, hat7, Hstep.out, kk.trans hk7 (fun _ h => h) (fun _ _ h => h)⟩
                  case measure => simp [intOf]; omega
              · have hkl : k = (told : List Int).length := by omega
                have hdn : (tP : List (Int × Int)).drop k = [] := by
                  have h1 := congrArg List.length HtP.out
                  rw [List.length_map] at h1
                  exact List.drop_eq_nil_of_le (by omega)
                rw [hdn] at hmk
                have hfin := hmk.done
                have hAr := hAT.keepMap hMT kk hnT
                have Kr : Keep (fun i => w1.heap.size ≤ i) w1 wr := KT.trans kk (fun _ h => h) (fun j hj (e : j = mw) => by omega)
                have hkn : ¬ (k : Int) < (told : List Int).length := by omega
                have Hkl := Lib.hid hkl
                clear hmk hdn hx0 hx2 hkl
                have htoks := tokens_any c (M5) (B5) wr rm wt life pat (i + 1) hAr hWT hr2 hw2
                go_wp2_with fail
                refine htoks.mono ?_
                clear htoks
                rintro e w8 ⟨v8, rs, rfl, hrs, _, htk8, k8⟩
                obtain ⟨hln, hall⟩ := hfin.told hrs
                have hbd := toks_bound hWT hrs
                obtain ⟨l, hl'⟩ : ∃ l, l = rs.flatMap (fun p => p.2.toks) := ⟨_, rfl⟩
                rw [← hl'] at hln hall hbd htk8
                obtain ⟨p8, q8, rfl⟩ := slice_form htk8.1
                obtain ⟨_, _, hv8, hcs8⟩ := IntsAt.of_owns htk8.1
                cases hv8
                have hM8 := hMk.keep k8 (fun h => h)
                have hA8 := hAr.keep k8 (fun _ _ h => h)
                have K8 := quietK Kr k8
                have hlm : ∀ ty, (Builtin.len_ #[29] ty #[.map (some mw)]).run Tryz.prog w8 = .ok (.int .i64 l.length) w8 := fun ty => by rw [hln]; exact run_len_at und_wmap hM8 ty
                have hel : ((M5).ent.length : Int) ≤ rm := by have := hWT.el; omega
                have hrl : ((M5).rows.length : Int) ≤ rm := by have := hWT.rl; omega
                have hmn : rm * wt ≤ 256 * 64 := Nat.mul_le_mul hr2 hw2
                obtain ⟨mn, hmn'⟩ : ∃ mn, mn = rm * wt := ⟨_, rfl⟩
                rw [← hmn'] at hmn hbd
                have hmul : ((rm : Int) * (wt : Int)) = (mn : Int) := by rw [hmn']; simp
                have hmul2 : IntKind.i64.wrap ((rm : Int) * (wt : Int)) = (mn : Int) := by rw [hmul, IntKind.wrap_i64]; omega
                have hbd2 : (l.length : Int) ≤ mn := by omega
                have hlen8 := len_any c (M5) (B5) w8 hA8
                have hrow8 := rows_any c (M5) (B5) w8 hA8
                have Hall := Lib.hid hall
                have Hcs := Lib.hid hcs8
                have Hfin := Lib.hid hfin
                clear hln hall hl' hcs8 hrs hmn' hfin htk8
                go_wp2_with fail
                refine hlen8.mono ?_
                clear hlen8
                rintro e w8' ⟨rfl, rfl⟩
                go_wp2_with fail
                refine hrow8.mono ?_
                clear hrow8
                rintro e w9 ⟨rfl, rfl⟩
                go_wp2_with fail
                rename (¬rm < _ ∧ ¬rm < _) ∧ ¬mn < _ => hz
                have hl16 : l.length ≤ 16384 := by omega
                clear hz hel hrl hbd2 hmul hmul2 hmn
                go_loopw [23] (fun vk wr => ∃ k : Nat, vk = .int .i64 k ∧ k ≤ l.length ∧ wr = w9) (fun vk _ => l.length - (intOf vk).toNat)
                case atStart => exact ⟨0, by go_num, Nat.zero_le _, rfl⟩
                case round =>
                  obtain ⟨k2, rfl, hk2, hwr⟩ := hrel
                  by_cases hlk2 : k2 < l.length
                  · have hlki2 : (k2 : Int) < l.length := by omega
                    obtain ⟨gt, ot, hp, hct⟩ := Hcs.out k2 hlk2
                    cases hp
                    obtain ⟨qi, hqi⟩ := Hall.out l[k2] (List.getElem_mem hlk2)
                    have Hqi := Lib.hid hqi
                    have Hwr := Lib.hid hwr
                    rw [← hwr] at hct hM8
                    clear hqi hwr hlm
                    go_wp2_with (at_lookup; refine wpList_lookup_ok_at rfl _ _ _ rfl kInt und_wmap (zu32 _) rfl hM8 l[k2] rfl ?_; rw [Hqi.out]; simp only [Option.map_some, Option.getD_some, Option.isSome_some])
                    go_roundw
                    case rel => exact ⟨k2 + 1, by go_num, by omega, Hwr.out⟩
                    case measure => simp [intOf]; omega
                  · obtain rfl : k2 = l.length := by omega
                    subst hwr
                    clear hlm
                    go_wp2_with fail
                    go_roundw
                    case rel => exact ⟨i + 1, M5, B5, Wk, by go_num, by omega, hA8, hWT, hM8, Hfin.out, hnT, K8, FT⟩
                    case measure => simp [intOf]; omega
        · obtain rfl : i = cs.length := by omega
          go_wp2_with fail
          go_ret
          exact ⟨rfl, k1.trans K (fun _ h => h) (fun i hi (e : w1.heap.size ≤ i) => by have := k1.size; omega)⟩
    · have hnew := cnew_wrong room wait life pat w1 hR
      clear hR
      go_wp2_with fail
      refine hnew.mono ?_
      clear hnew
      rintro e w2 ⟨rfl, k2⟩
      go_wp2_with fail
      go_ret
      exact ⟨rfl, k1.trans k2 (fun _ h => h) (fun _ _ h => h)⟩
  · have hli : (100 : Int) < cs.length := by omega
    go_wp2_with fail
    go_ret
    exact ⟨rfl, k1⟩
end Go.Proofs.YtdacbgdinmaemaaGreatDoor

namespace Go.Proofs.YtdacbgdinmaemaaGreatDoor
open Go Go.ChangeShapes Go.WideShapes Go.ChangeAt Go.WideMaps Go.WideElems Go.RowKit Vz

section
variable {H : Type} {enc : TypeId × Value → H} {P : Program} {w : World} {base : Nat} {spare : Nat → Bool} {held : Bool}
theorem take_one {cs : List Value} {o : Nat} {v : Value} (h : (cs.drop o).take 1 = [v]) : cs[o]? = some v := by
  have := congrArg (·[0]?) h
  simpa using this
theorem field_at {fs : Array Field} {l : List (TypeId × Nat)} (h : fs.toList.map (fun f => (f.type, f.offset)) = l) {i : Nat} {t : TypeId} {o : Nat} (hi : l[i]? = some (t, o)) : ∃ f, fs[i]? = some f ∧ f.type = t ∧ f.offset = o := by
  rw [← h, List.getElem?_map] at hi
  cases hf : fs.toList[i]? with
  | none => rw [hf] at hi; cases hi
  | some f =>
    rw [hf] at hi
    simp at hi
    exact ⟨f, by simpa using hf, hi.1, hi.2⟩
theorem int_field {fs : Array Field} {l : List (TypeId × Nat)} {xs : List (DataW H × List MemPlace)} {n : Nat} {cs : List Value} (h : fs.toList.map (fun f => (f.type, f.offset)) = l) (hlen : xs.length = fs.size)
    (hf : ∀ (i : Nat) (f : Field), fs[i]? = some f → DataW.trod enc P w base spare held n f.type ((cs.drop f.offset).take (P.cellsOf f.type)) = xs[i]?)
    {i : Nat} {t : TypeId} {o : Nat} {k : IntKind} (hi : l[i]? = some (t, o)) (ht : P.underlying t = some (.int k)) (hc : P.cellsOf t = 1) : ∃ z : Int, cs[o]? = some (.int k z) ∧ (Lit.int k z).wf = true := by
  obtain ⟨f, h1, rfl, rfl⟩ := field_at h hi
  have h2 := hf i f h1
  have hlt : i < fs.size := (Array.getElem?_eq_some_iff.1 h1).1
  rw [List.getElem?_eq_getElem (by omega), hc] at h2
  obtain ⟨z, hz, _, hw⟩ := DataW.trod_int ht h2
  exact ⟨z, take_one hz, hw⟩
theorem trod_arr {t e : TypeId} {N fuel : Nat} {cs : List Value} {k : IntKind} {x : DataW H × List MemPlace} (ht : P.underlying t = some (.array N e)) (he : P.underlying e = some (.int k)) (hce : P.cellsOf e = 1)
    (h : DataW.trod enc P w base spare held fuel t cs = some x) : ∀ i, i < N → ∃ z : Int, cs[i]? = some (.int k z) := by
  cases fuel with
  | zero => simp [DataW.trod] at h
  | succ n =>
    unfold DataW.trod at h
    rw [ht] at h
    split at h
    all_goals first | (exfalso; simp_all; done) | skip
    rename_i hq
    simp only [Option.some.injEq, TypeDesc.array.injEq] at hq
    obtain ⟨rfl, rfl⟩ := hq
    split at h
    · rename_i hcl
      simp only [Option.map_eq_some_iff] at h
      obtain ⟨xs, hp, _⟩ := h
      intro i hi
      have hl : xs.length = N := by simpa using mapM_some_length hp
      have := mapM_some_get hp i i (by simp [hi])
      rw [List.getElem?_eq_getElem (by omega), hce, Nat.mul_one] at this
      obtain ⟨z, hz, _, _⟩ := DataW.trod_int he this
      exact ⟨z, take_one hz⟩
    · cases h
end

set_option maxRecDepth 100000
noncomputable def callFs : Array Field := match Tryz.prog.underlying 34 with | some (.struct fs) => fs | _ => #[]
theorem callFs_is : Tryz.prog.underlying 34 = some (.struct callFs) := by kernel_rfl
theorem callFs_at : callFs.toList.map (fun f => (f.type, f.offset)) = [(3, 0), (3, 1), (30, 2), (32, 3), (22, 9)] := by kernel_rfl

theorem calls_in {H : Type} {enc : TypeId × Value → H} {W : World} {base : Nat} {v : Value} {d : DataW H} {p : List MemPlace} (hok : Value.okWide Tryz.prog W .any base 23 v)
    (h : DataW.Trod enc Tryz.prog W 0 (fun _ => true) true 23 v d p) : ∃ cs : List CallR, CallsAt W v cs ∧ (∀ x ∈ cs, 0 ≤ x.ip ∧ x.ip < 4294967296) ∧ cs.length ≤ 9223372036854775807 := by
  have ht : Tryz.prog.underlying 23 = some (.slice 34) := by kernel_rfl
  obtain ⟨a0, len0, cap0, rfl⟩ := okWide_slice ht hok
  obtain ⟨fuel, hf⟩ := h
  rcases DataW.trod_slice ht hf with ⟨hcs, _⟩ | ⟨a, len, cap, elems, rest, n, _, hcs, _, _, hl, hm, hlen, hel, _, _⟩
  · simp [Value.cells] at hcs
    obtain ⟨rfl, rfl, rfl⟩ := hcs
    exact ⟨[], ⟨none, 0, rfl, fun i hi => by simp at hi⟩, by simp, by simp⟩
  · simp [Value.cells] at hcs
    obtain ⟨rfl, rfl, rfl⟩ := hcs
    have h10 : Tryz.prog.cellsOf 34 = 10 := by kernel_rfl
    have each : ∀ i, i < len0 → ∃ x : CallR, 0 ≤ x.ip ∧ x.ip < 4294967296 ∧ ∃ g o, a = ⟨g, o, none⟩ ∧
        W.cell? ⟨g, o + i * 10, none⟩ = some (.int .i64 x.what) ∧ W.cell? ⟨g, o + i * 10 + 1, none⟩ = some (.int .i64 x.tok) ∧ W.cell? ⟨g, o + i * 10 + 2, none⟩ = some (.int .u32 x.ip) ∧
        W.cell? ⟨g, o + i * 10 + 3, none⟩ = some (.int .u8 x.mac.a0) ∧ W.cell? ⟨g, o + i * 10 + 4, none⟩ = some (.int .u8 x.mac.a1) ∧ W.cell? ⟨g, o + i * 10 + 5, none⟩ = some (.int .u8 x.mac.a2) ∧
        W.cell? ⟨g, o + i * 10 + 6, none⟩ = some (.int .u8 x.mac.a3) ∧ W.cell? ⟨g, o + i * 10 + 7, none⟩ = some (.int .u8 x.mac.a4) ∧ W.cell? ⟨g, o + i * 10 + 8, none⟩ = some (.int .u8 x.mac.a5) ∧
        W.cell? ⟨g, o + i * 10 + 9, none⟩ = some (.int .u64 x.now) := by
      intro i hi
      have h1 := hel i hi
      rw [List.getElem?_eq_getElem (by omega), Option.bind_eq_some_iff, h10] at h1
      obtain ⟨cs, hc, hd⟩ := h1
      obtain ⟨xs, m, _, _, hcl, hxl, hfl⟩ := DataW.trod_struct callFs_is hd
      have I := fun {i : Nat} {t : TypeId} {o : Nat} {k : IntKind} => int_field (i := i) (t := t) (o := o) (k := k) callFs_at hxl hfl
      obtain ⟨z0, e0, _⟩ := I (i := 0) rfl (k := .i64) (by kernel_rfl) (by kernel_rfl)
      obtain ⟨z1, e1, _⟩ := I (i := 1) rfl (k := .i64) (by kernel_rfl) (by kernel_rfl)
      obtain ⟨z2, e2, w2⟩ := I (i := 2) rfl (k := .u32) (by kernel_rfl) (by kernel_rfl)
      obtain ⟨z9, e9, w9⟩ := I (i := 4) rfl (k := .u64) (by kernel_rfl) (by kernel_rfl)
      obtain ⟨f3, hf3, ht3, ho3⟩ := field_at callFs_at (i := 3) rfl
      have h3 := hfl 3 f3 hf3
      have hl3 : 3 < callFs.size := (Array.getElem?_eq_some_iff.1 hf3).1
      rw [List.getElem?_eq_getElem (by omega), ht3, ho3, show Tryz.prog.cellsOf 32 = 6 by kernel_rfl] at h3
      have hmac := trod_arr (t := 32) (e := 5) (N := 6) (k := .u8) (by kernel_rfl) (by kernel_rfl) (by kernel_rfl) h3
      have hm2 : ∀ j, j < 6 → ∃ z : Int, cs[3 + j]? = some (.int .u8 z) := fun j hj => by
        obtain ⟨z, hz⟩ := hmac j hj
        rw [List.getElem?_take_of_lt hj, List.getElem?_drop] at hz
        exact ⟨z, hz⟩
      obtain ⟨z3, e3⟩ := hm2 0 (by omega)
      obtain ⟨z4, e4⟩ := hm2 1 (by omega)
      obtain ⟨z5, e5⟩ := hm2 2 (by omega)
      obtain ⟨z6, e6⟩ := hm2 3 (by omega)
      obtain ⟨z7, e7⟩ := hm2 4 (by omega)
      obtain ⟨z8, e8⟩ := hm2 5 (by omega)
      have hcell := (World.cells?_some hc).2.2
      have hv2 : 0 ≤ z2 ∧ z2 < 4294967296 := by
        simp [Lit.wf, IntKind.min, IntKind.max, IntKind.signed, IntKind.bits] at w2; omega
      obtain ⟨now, rfl⟩ : ∃ now : Nat, (now : Int) = z9 := by
        simp [Lit.wf, IntKind.min, IntKind.max, IntKind.signed, IntKind.bits] at w9; exact ⟨z9.toNat, by omega⟩
      obtain ⟨g, o, s⟩ := a
      have hs : s = none := by
        have q1 := hel 0 (by omega)
        rw [List.getElem?_eq_getElem (by omega), Option.bind_eq_some_iff, h10] at q1
        obtain ⟨cs0, q2, _⟩ := q1
        obtain ⟨_, q4, q3⟩ := World.cells?_some q2
        have q5 := q3 0 (by omega)
        rw [List.getElem?_eq_getElem (by omega)] at q5
        exact spot_none (a := ⟨g, o, s⟩) (by simpa [Addr.add] using q5)
      subst hs
      have cc : ∀ j v, j < 10 → cs[j]? = some v → W.cell? ⟨g, o + i * 10 + j, none⟩ = some v := fun j v hj hv => by
        have := hcell j hj
        rw [hv, Addr.add_lit, Addr.add_lit] at this
        exact this
      exact ⟨⟨z0, z1, z2, ⟨z3, z4, z5, z6, z7, z8⟩, now⟩, hv2.1, hv2.2, g, o, rfl, cc 0 _ (by omega) e0, cc 1 _ (by omega) e1, cc 2 _ (by omega) e2, cc 3 _ (by omega) e3, cc 4 _ (by omega) e4, cc 5 _ (by omega) e5, cc 6 _ (by omega) e6, cc 7 _ (by omega) e7, cc 8 _ (by omega) e8, cc 9 _ (by omega) e9⟩
    let f : Nat → CallR := fun i => if hi : i < len0 then (each i hi).choose else ⟨0, 0, 0, ⟨0, 0, 0, 0, 0, 0⟩, 0⟩
    have hfs : ∀ i (hi : i < len0), f i = (each i hi).choose := fun i hi => by simp only [f, hi, dite_true]
    refine ⟨(List.range len0).map f, ⟨some a, cap0, by simp, fun i hi => ?_⟩, fun x hx => ?_, by simp; unfold maxLen at hm; omega⟩
    · have hi2 : i < len0 := by simpa using hi
      obtain ⟨_, _, g, o, h1, h2⟩ := (each i hi2).choose_spec
      have he : ((List.range len0).map f)[i] = (each i hi2).choose := by simp [hfs i hi2]
      rw [he]
      exact ⟨g, o, by rw [h1], h2⟩
    · obtain ⟨i, hi, rfl⟩ := List.mem_map.1 hx
      have hi2 : i < len0 := by simpa using hi
      rw [hfs i hi2]
      obtain ⟨h1, h2, _⟩ := (each i hi2).choose_spec
      exact ⟨h1, h2⟩
end Go.Proofs.YtdacbgdinmaemaaGreatDoor
