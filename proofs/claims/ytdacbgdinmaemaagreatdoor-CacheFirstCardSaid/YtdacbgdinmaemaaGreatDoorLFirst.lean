/- PROVED: vizardlaw14.CacheFirst returns true for every room, wait, Ip, Mac, tokens and time, and leaves its arguments as they were; on the condition that the table math/bits.deBruijn64tab reads as the program's text lays it, which the card ties to that text. -/

import Derived.Test.YtdacbgdinmaemaaGreatDoorK12
set_option linter.all false

namespace Go.Proofs.YtdacbgdinmaemaaGreatDoor
open Go Go.RowKit Vz Go.Shelf

/-- what New is asked for, right or wrong -/
theorem right_nat {room wait : Int} {life pat : Nat} (h : RightB room wait life pat) : ∃ r k : Nat, room = r ∧ wait = k ∧ 1 ≤ r ∧ r ≤ 256 ∧ 1 ≤ k ∧ k ≤ 64 ∧ life ≤ 4294967296 ∧ pat ≤ 4294967296 ∧ 1 ≤ life ∧ 1 ≤ pat := by
  obtain ⟨h1, h2, h3, h4, h5, h6⟩ := h
  exact ⟨room.toNat, wait.toNat, by omega, by omega, by omega, by omega, by omega, by omega, by omega, by omega, by omega, by omega⟩

def FirstAt (M : CM) (ip : Int) (i : Nat) (ins : List Int) : Prop := (i = 0 ∧ M.rows = [] ∧ ins = []) ∨ (1 ≤ i ∧ ∃ q, M.rows = [(ip, q)] ∧ q.toks = ins)
theorem first_ask {M : CM} {ip : Int} {i rm wt : Nat} {ins : List Int} (h1 : M.room = rm) (h2 : M.wait = wt) (hr : 1 ≤ rm) (hw : 1 ≤ wt) (h : FirstAt M ip i ins) : waitsFirst M ip = decide (i = 0) ∧ waitsOk M ip = decide (ins.length < wt) := by
  rcases h with ⟨rfl, h3, rfl⟩ | ⟨h3, q, h4, h5⟩
  · have hl : lk M.rows ip = none := by rw [h3]; rfl
    unfold waitsFirst waitsOk
    rw [hl, h3, h1]
    have e1 : decide (([] : List (Int × RowM)).length < rm) = true := decide_eq_true (by simp; omega)
    have e2 : decide (([] : List Int).length < wt) = true := decide_eq_true (by simp; omega)
    rw [e2]; exact ⟨by rw [e1]; rfl, e1⟩
  · have hl : lk M.rows ip = some q := by rw [h4, lk_cons, if_pos rfl]
    unfold waitsFirst waitsOk
    rw [hl, h2, ← h5]
    have e1 : decide (i = 0) = false := decide_eq_false (by omega)
    rw [e1]; exact ⟨rfl, rfl⟩
theorem first_step {M M' : CM} {ip tok : Int} {now i rm wt : Nat} {ins : List Int} (h1 : M.room = rm) (h2 : M.wait = wt) (hr : 1 ≤ rm) (hw : 1 ≤ wt) (h : FirstAt M ip i ins) (hL : Waited M ip tok now M') :
    M'.ent = M.ent ∧ FirstAt M' ip (i + 1) (if ins.length < wt then ins ++ [tok] else ins) := by
  obtain ⟨_, hok⟩ := first_ask h1 h2 hr hw h
  unfold Waited at hL
  rw [hok] at hL
  rcases h with ⟨rfl, h3, rfl⟩ | ⟨h3, q, h4, h5⟩
  · have hl : lk M.rows ip = none := by rw [h3]; rfl
    rw [if_pos (by simp; omega), hl] at hL
    obtain ⟨v', rfl⟩ := hL
    refine ⟨rfl, .inr ⟨by omega, ⟨v', [tok], M.count + 1, tm61 now + M.pat⟩, by rw [h3]; rfl, ?_⟩⟩
    rw [if_pos (by simp; omega)]; rfl
  · have hl : lk M.rows ip = some q := by rw [h4, lk_cons, if_pos rfl]
    by_cases hlt : ins.length < wt
    · rw [if_pos (by simpa using hlt), hl] at hL
      obtain ⟨v', rfl⟩ := hL
      refine ⟨rfl, .inr ⟨by omega, ⟨v', q.toks ++ [tok], q.order, q.due⟩, ?_, ?_⟩⟩
      · simp only [h4]; unfold put; rw [if_pos rfl]
      · rw [if_pos hlt, ← h5]
    · rw [if_neg (by simpa using hlt)] at hL
      subst hL
      exact ⟨rfl, .inr ⟨by omega, q, h4, by rw [if_neg hlt]; exact h5⟩⟩
theorem first_learn {M M' : CM} {ip : Int} {mac : Mac6} {now : Nat} (hr : 1 ≤ M.room) (hent : M.ent = [] ∨ ∃ e, M.ent = [(ip, e)]) (hL : Learned M ip mac now M') : (∃ e, M'.ent = [(ip, e)] ∧ e.due = tm61 now + M.life) ∧ M'.rows = del M.rows ip := by
  obtain ⟨E, hE, rfl⟩ := hL
  refine ⟨⟨⟨mac, M.count + 1, tm61 now + M.life⟩, ?_, rfl⟩, rfl⟩
  rcases hent with h | ⟨e, h⟩
  · rcases hE with ⟨rfl, _⟩ | ⟨m, _, h2, _⟩
    · simp only [h]; rfl
    · rw [h] at h2; simp at h2; omega
  · have hl : lk M.ent ip = some e := by rw [h, lk_cons, if_pos rfl]
    rcases hE with ⟨rfl, _⟩ | ⟨m, h2, _⟩
    · simp only [h]; unfold put; rw [if_pos rfl]
    · rw [hl] at h2; cases h2
theorem first_toks {M : CM} {ip : Int} {i : Nat} {ins : List Int} (h : FirstAt M ip i ins) : toksAt M ip = ins ∧ del M.rows ip = [] := by
  unfold toksAt
  rcases h with ⟨_, h3, h4⟩ | ⟨_, q, h4, h5⟩
  · rw [h3, h4]; exact ⟨rfl, rfl⟩
  · rw [h4, lk_cons, if_pos rfl, ← h5]; exact ⟨rfl, by unfold del; rw [if_pos rfl]⟩
theorem same_self (va vb : Value) (xs : List Int) (w : World) (ha : IntsAt w va xs) (hb : IntsAt w vb xs) (hx : xs.length ≤ 281474976710656) :
    Calls Tryz.prog 19 #[va, vb] w fun e w' => e = .returned (.bool true) ∧ Keep (fun _ => False) w w' :=
  (sameInts va vb xs xs w ha hb hx hx).mono (by
    rintro e w' ⟨rfl, n, rfl⟩
    exact ⟨by simp, (Keep.refl _ w).drewN n⟩)
theorem take_step (toks : List Int) (i wt : Nat) (h : i < toks.length) : (if (toks.take (min i wt)).length < wt then toks.take (min i wt) ++ [toks[i]] else toks.take (min i wt)) = toks.take (min (i + 1) wt) := by
  rw [List.length_take]
  by_cases hi : i < wt
  · rw [if_pos (by omega), show min i wt = i by omega, show min (i + 1) wt = i + 1 by omega, List.take_succ_eq_append_getElem h]
  · rw [if_neg (by omega), show min i wt = wt by omega, show min (i + 1) wt = wt by omega]
theorem owns_empty (w : World) (e : TypeId) (b : Nat) (hb : b ≤ w.heap.size) : (w.alloc (.cells #[] e)).ownsRow b e 1 (.slice (some ⟨w.heap.size, 0, none⟩) 0 0) ([] : List Int).length (([] : List Int).map ki) :=
  ⟨rfl, .inr ⟨w.heap.size, 0, #[], rfl, hb, World.alloc_heap_new _ _, Nat.le_refl _, Nat.zero_le _, rfl, rfl⟩⟩

set_option maxRecDepth 100000 in
set_option maxHeartbeats 1000000 in
theorem cacheFirst_any (room wait ip : Int) (mac : Mac6) (tv : Value) (toks : List Int) (now : Nat) (w : World) (hT : Tab w) (htv : IntsAt w tv toks) (hlen : toks.length ≤ 9223372036854775807) (h0 : 0 ≤ ip) (h1 : ip < 4294967296) :
    Calls Tryz.prog 5 #[.int .i64 room, .int .i64 wait, .int .u32 ip, macV mac, tv, .int .u64 now] w fun e w' => e = .returned (.bool true) ∧ Keep (fun _ => False) w w' := by
  obtain ⟨i0, hi, hz0, hz1, hz2⟩ := info_parts int_info
  have hTz : 1 < w.heap.size := World.block_lt_of_cell? _ _ (hT 0 (by decide))
  obtain ⟨tp, tc, rfl, htc⟩ := htv
  have Htc := Lib.hid htc
  have HT := Lib.hid hT
  clear htc hT
  unfold macV
  go_enter Tryz.func5, Tryz.ntmps5
  go_wp2_with fail
  generalize hwb : World.alloc w _ = w0
  have k0 : Keep (fun _ => False) w w0 := by rw [← hwb]; exact (Keep.refl _ w).alloc _
  have hmb : w0.heap[w.heap.size]? = some (macObj mac) := by rw [← hwb]; exact World.alloc_heap_new _ _
  have hz0w : w0.heap.size = w.heap.size + 1 := by rw [← hwb]; simp
  clear hwb
  refine (alive_any w0 (Tab.keep HT.out k0 (fun h => h))).mono ?_
  rintro e w1 ⟨rfl, k1⟩
  have k01 : Keep (fun _ => False) w w1 := k0.trans k1 (fun _ h => h) (fun _ _ h => h)
  by_cases hl : toks.length ≤ 100
  · have hli : ¬ (100 : Int) < toks.length := by omega
    by_cases hR : RightB room wait 10 10
    · obtain ⟨rm, wt, rfl, rfl, hr1, hr2, hw1, hw2, _, _, _, _⟩ := right_nat hR
      have hnew : Calls Tryz.prog 11 #[.int .i64 rm, .int .i64 wt, .int .u64 10, .int .u64 10] w1 fun e w' => ∃ c B, e = .returned (.tuple #[.pointer (some ⟨c, 0, none⟩), .int .i64 0]) ∧ CacheAt w' c ⟨rm, wt, 10, 10, 0, [], []⟩ B ∧ Keep (fun _ => False) w1 w' ∧ ∀ i, B.fp c i → w1.heap.size ≤ i := cnew_right rm wt 10 10 w1 hR
      have hRR := Lib.hid hR
      clear hR
      go_wp2_with fail
      refine hnew.mono ?_
      clear hnew
      rintro e w2 ⟨c, B, rfl, hA2, k2, hf2⟩
      have K2 : Keep (fun i => w1.heap.size ≤ i) w1 w2 := quietK (Keep.refl _ w1) k2
      have hmb1 := k1.heap hmb (fun h => h)
      have hmb1l := lt_of_heap hmb1
      clear k2
      go_wp2_with fail
      go_loopw [15] (fun vr wr => ∃ (r : Nat) (M : CM) (B : CB), vr = .int .i64 r ∧ r ≤ 2 ∧ CacheAt wr c M B ∧ WF M rm wt 10 10 (r * 200) ∧ M.rows = [] ∧ (r = 0 → M.ent = []) ∧ (1 ≤ r → ∃ e, M.ent = [(ip, e)] ∧ e.due = tm61 now + 10) ∧
        Keep (fun i => w1.heap.size ≤ i) w1 wr ∧ ∀ i, B.fp c i → w1.heap.size ≤ i) (fun vr _ => 2 - (intOf vr).toNat)
      case atStart => exact ⟨0, _, B, by go_num, by omega, hA2, WF.start rm wt 10 10, rfl, fun _ => rfl, fun h => by omega, K2, hf2⟩
      case round =>
        obtain ⟨r, M, B, rfl, hr, hA, hW, hrows, he0, he1, K, F⟩ := hrel
        by_cases hrl : r < 2
        · have hrli : (r : Int) < 2 := by omega
          obtain ⟨wo, rfl⟩ : ∃ wo : World, wo = wr := ⟨_, rfl⟩
          have hp1 := hW.p1; have hp2 := hW.p2
          have HA := Lib.hid hA
          have HW := Lib.hid hW
          have Hrows := Lib.hid hrows
          have Hent := Lib.hid he1
          have He0 := Lib.hid he0
          clear hA hW hrows he0 he1
          go_wp2_with fail
          go_loopw [16, 17] (fun vn vi wq => ∃ (i : Nat) (M' : CM) (B' : CB) (ins : List Int), vi = .int .i64 i ∧ i ≤ toks.length ∧ CacheAt wq c M' B' ∧ WF M' rm wt 10 10 (r * 200 + i) ∧ M'.ent = M.ent ∧ FirstAt M' ip i ins ∧ ins = toks.take (min i wt) ∧
            wq.ownsRow w1.heap.size 3 1 vn ins.length (ins.map ki) ∧ (∀ g, vn.ownBlock = some g → ¬ TB M' g) ∧ Keep (fun i => w1.heap.size ≤ i) w1 wq ∧ ∀ i, B'.fp c i → w1.heap.size ≤ i) (fun _ vi _ => toks.length - (intOf vi).toNat)
          case atStart =>
            have kA : Keep (fun _ => False) wo (wo.alloc (.cells #[] 3)) := (Keep.refl _ wo).alloc _
            refine ⟨0, M, B, [], by go_num, by omega, HA.out.keep kA (fun _ _ h => h), HW.out, rfl, .inl ⟨rfl, Hrows.out, rfl⟩, by simp, owns_empty wo _ _ K.size, fun g hg => ?_, quietK K kA, F⟩
            rintro ⟨p, hp, _⟩
            rw [Hrows.out] at hp; cases hp
          case round =>
            obtain ⟨i, M', B', ins, rfl, hit, hA', hW', hen, hFA, hins, hrow, htb, K', F'⟩ := hrel
            obtain ⟨pn, cn, rfl⟩ := slice_form hrow
            by_cases hlt : i < toks.length
            · have hli2 : (i : Int) < toks.length := by omega
              obtain ⟨g, o, rfl, hce⟩ := Htc.out i hlt
              have hgl : g < w.heap.size := World.block_lt_of_cell? _ _ hce
              have hk01 := k01.size
              have hcq := K'.cell (k01.cell hce (fun h => h)) (fun (hx : w1.heap.size ≤ g) => by omega)
              obtain ⟨hfi, hok⟩ := first_ask hW'.p1 hW'.p2 hr1 hw1 hFA
              have hwt := wait_any c ip toks[i] now M' B' wr rm wt 10 10 (r * 200 + i) hA' hW' h0 h1 (by omega) (by omega) hr2 hw1 hw2
              rw [hfi, hok] at hwt
              have hts := take_step toks i wt hlt
              rw [← hins] at hts
              have Hts := Lib.hid hts
              have hq1 := hW'.p1; have hq2 := hW'.p2
              have hil : ins.length ≤ 100 := by rw [hins, List.length_take]; omega
              have hilw : ins.length ≤ wt := by rw [hins, List.length_take]; omega
              have Hen := Lib.hid hen
              have hdi : decide (i = 0) = ((i : Int) == 0) := by
                by_cases e : i = 0
                · subst e; rfl
                · rw [decide_eq_false e]; simp; omega
              rw [hdi] at hwt
              clear hce hfi hok hts hins hen hq1 hq2 hdi
              obtain ⟨bi, hbi⟩ : ∃ bi, bi = ((i : Int) == 0) := ⟨_, rfl⟩
              rw [← hbi] at hwt
              have hbb : (bi = true ∧ ((i : Int) == 0) = true) ∨ (bi = false ∧ ((i : Int) == 0) = false) := by
                rw [hbi]
                cases ((i : Int) == 0) <;> simp
              clear hbi
              by_cases hbw : ins.length < wt
              · have hbw1 : (ins.length : Int) < wt := by omega
                rw [decide_eq_true hbw] at hwt
                simp only [if_true] at hwt
                rcases hbb with ⟨rfl, hbz⟩ | ⟨rfl, hbz⟩
                all_goals
                  go_wp2_with fail
                  refine hwt.mono ?_
                  rintro e w3 ⟨M2, B2, rfl, hL, hW2, hA2', hS2, htb2⟩
                  clear hwt
                  obtain ⟨hen2, hFA2⟩ := first_step hW'.p1 hW'.p2 hr1 hw1 hFA hL
                  rw [if_pos hbw] at hFA2
                  have hrow3 := ownsRow_keep2 hrow hS2.keep (ownBlock_not_fp hA' hrow)
                  have hce3 := hS2.keep.cell hcq (fun hx => by have := F' _ hx; simp only at this; omega)
                  obtain ⟨K3, F3⟩ := stepK K' F' hS2
                  have hz3 := K3.size
                  have Hfa := Lib.hid hFA2
                  have Hen2 := Lib.hid hen2
                  have hbg : ∀ g, (Value.slice pn ins.length cn).ownBlock = some g → g < wr.heap.size := fun g hg => ownBlock_lt hrow hg
                  have htb3 : ∀ g, (Value.slice pn ins.length cn).ownBlock = some g → ¬ TB M2 g := fun g hg hx => (htb2 g hx).elim (htb g hg) (fun h => by have := hbg g hg; omega)
                  have hzr : wr.heap.size ≤ w3.heap.size := hS2.keep.size
                  have hKr := K'.size
                  have htl3 : ∀ p ∈ M2.rows, ∀ g, p.2.v.ownBlock = some g → g < w3.heap.size := fun p hp g hg => by
                    obtain ⟨_, _, hq, _⟩ := hA2'
                    exact ownBlock_lt (hq.toks p hp).1 hg
                  clear hFA hFA2 hen2 hcq
                  go_wp2_with (at_builtin; refine wpList_append_own2 rfl _ _ 35 rfl w1.heap.size 3 i0 (ki 0) 1 8 Tryz.underlying35 hi hz0 hz1 hz2 rfl (by decide) _ _ _ rfl (hrow3.alloc _) ⟨w3.heap.size, 0, none⟩ 1 1 [ki toks[i]] rfl rfl (cell_one_new _ _ _) (by simp [Value.oneCell']) (by omega) (by unfold maxLen; omega) (by omega) (by simp; omega) ?_; intro v5 w5 hown5 hgrow5 hwh5; have hk5 := app_keep3 hgrow5; clear hgrow5)
                  go_roundw
                  case rel =>
                    refine ⟨i + 1, M2, B2, ins ++ [toks[i]], by go_num, by omega, hA2'.keepS hk5 (fun j hj e => ownBlock_not_fp hA2' hrow3 j e hj) (fun p hp g' hg' e => htb3 g' e ⟨p, hp, hg'⟩), hW2.mono (by omega), Hen2.out.trans Hen.out, Hfa.out, ?_, by simpa using hown5, fun g hg => ?_, K3.trans hk5 (fun _ h => h) (fun j hj e => ?_), F3⟩
                    · rw [← Hts.out, if_pos hbw]
                    · rcases hwh5 with e | e
                      · rw [e] at hg; exact htb3 g hg
                      · rintro ⟨p, hp, hpg⟩
                        have h1 := htl3 p hp g hpg
                        have h2 := e g hg
                        simp at h2; omega
                    · exact own_base hrow e
                  case measure => simp [intOf]; omega
              · have hbw1 : ¬ (ins.length : Int) < wt := by omega
                rw [decide_eq_false hbw] at hwt
                simp only [Bool.false_eq_true, if_false] at hwt
                rcases hbb with ⟨rfl, hbz⟩ | ⟨rfl, hbz⟩
                all_goals
                  go_wp2_with fail
                  refine hwt.mono ?_
                  rintro e w3 ⟨M2, B2, rfl, hL, hW2, hA2', hS2, htb2⟩
                  clear hwt
                  obtain ⟨hen2, hFA2⟩ := first_step hW'.p1 hW'.p2 hr1 hw1 hFA hL
                  rw [if_neg hbw] at hFA2
                  have hrow3 := ownsRow_keep2 hrow hS2.keep (ownBlock_not_fp hA' hrow)
                  obtain ⟨K3, F3⟩ := stepK K' F' hS2
                  have Hfa := Lib.hid hFA2
                  have Hen2 := Lib.hid hen2
                  have hbg : ∀ g, (Value.slice pn ins.length cn).ownBlock = some g → g < wr.heap.size := fun g hg => ownBlock_lt hrow hg
                  have htb3 : ∀ g, (Value.slice pn ins.length cn).ownBlock = some g → ¬ TB M2 g := fun g hg hx => (htb2 g hx).elim (htb g hg) (fun h => by have := hbg g hg; omega)
                  clear hFA hFA2 hen2 hcq
                  go_wp2_with fail
                  go_roundw
                  case rel => exact ⟨i + 1, M2, B2, ins, by go_num, by omega, hA2', hW2.mono (by omega), Hen2.out.trans Hen.out, Hfa.out, by rw [← Hts.out, if_neg hbw], hrow3, htb3, K3, F3⟩
                  case measure => simp [intOf]; omega
            · obtain rfl : i = toks.length := by omega
              have hins2 : ins = toks.take wt := by rw [hins]; rw [Nat.min_comm, ← List.take_take, List.take_length]
              clear hins
              go_wp2_with fail
              refine (tokens_any c M' B' wr rm wt 10 10 _ hA' hW' hr2 hw2).mono ?_
              rintro e w3 ⟨v3, rs, rfl, hrs, _, htk3, k3⟩
              have htk : rs.flatMap (fun p => p.2.toks) = ins := by
                rcases hFA with ⟨_, h3, h4⟩ | ⟨_, q, h4, h5⟩
                · rw [h3] at hrs; rw [List.perm_nil.1 hrs, h4]; rfl
                · rw [h4] at hrs; rw [List.perm_singleton.1 hrs]; simp [h5]
              rw [htk] at htk3
              have hil : ins.length ≤ 281474976710656 := by rw [hins2, List.length_take]; omega
              have hrow3 := ownsRow_keep2 hrow k3 (fun _ _ h => h)
              have hA3 := hA'.keep k3 (fun _ _ h => h)
              have K3 := quietK K' k3
              have Hins := Lib.hid hins2
              obtain ⟨htks, hdel⟩ := first_toks hFA
              have Htks := Lib.hid htks
              have Hdel := Lib.hid hdel
              have Hen := Lib.hid hen
              have hs1 := same_self v3 (.slice pn ins.length cn) ins w3 (IntsAt.of_owns htk3.1) (IntsAt.of_owns hrow3) hil
              clear hrs htk htk3 hins2 htks hdel hen hFA
              go_wp2_with fail
              refine hs1.mono ?_
              clear hs1
              rintro e w4 ⟨rfl, k4⟩
              have hrow4 := ownsRow_keep2 hrow3 k4 (fun _ _ h => h)
              have hA4 := hA3.keep k4 (fun _ _ h => h)
              have K4 := quietK K3 k4
              have hmb4 := K4.heap hmb1 (fun (h : w1.heap.size ≤ w.heap.size) => by omega)
              unfold macObj at hmb4
              have p0 : w4.cell? ⟨w.heap.size, 0, none⟩ = some (.int .u8 mac.a0) := by simp [World.cell?, hmb4]
              have p1 : w4.cell? ⟨w.heap.size, 1, none⟩ = some (.int .u8 mac.a1) := by simp [World.cell?, hmb4]
              have p2 : w4.cell? ⟨w.heap.size, 2, none⟩ = some (.int .u8 mac.a2) := by simp [World.cell?, hmb4]
              have p3 : w4.cell? ⟨w.heap.size, 3, none⟩ = some (.int .u8 mac.a3) := by simp [World.cell?, hmb4]
              have p4 : w4.cell? ⟨w.heap.size, 4, none⟩ = some (.int .u8 mac.a4) := by simp [World.cell?, hmb4]
              have p5 : w4.cell? ⟨w.heap.size, 5, none⟩ = some (.int .u8 mac.a5) := by simp [World.cell?, hmb4]
              have hml : w.heap.size < w4.heap.size := lt_of_heap hmb4
              have hlearn := learn_any c ip mac now M' B' w4 rm wt 10 10 _ hA4 hW' h0 h1 (by omega) (by omega) hr1 hr2
              unfold macV at hlearn
              clear hmb4
              go_wp2_with fail
              refine hlearn.mono ?_
              clear hlearn p0 p1 p2 p3 p4 p5
              rintro e w5 ⟨v5, M5, B5, rfl, hL5, hW5, hA5, hS5, htk5⟩
              rw [Htks.out] at htk5
              have hrow5 := ownsRow_keep2 hrow4 hS5.keep (ownBlock_not_fp hA4 hrow4)
              obtain ⟨K5, F5⟩ := stepK K4 F' hS5
              have hp1' := hW'.p1; have hp3' := hW'.p3
              have hfl := first_learn (by omega) (by
                rw [Hen.out]
                by_cases e : r = 0
                · exact .inl (He0.out e)
                · obtain ⟨e1, he, _⟩ := Hent.out (by omega); exact .inr ⟨e1, he⟩) hL5
              rw [Hdel.out, hp3'] at hfl
              have Hfl := Lib.hid hfl
              have hr0 : M5.rows.length = 0 := by rw [hfl.2]; rfl
              have hs2 := same_self v5 (.slice pn ins.length cn) ins w5 (IntsAt.of_owns htk5.1) (IntsAt.of_owns hrow5) hil
              have Hr0 := Lib.hid hr0
              clear hfl htk5 hL5 hr0 hp1' hp3'
              go_wp2_with fail
              refine hs2.mono ?_
              clear hs2
              rintro e w6 ⟨rfl, k6⟩
              have hA6 := hA5.keep k6 (fun _ _ h => h)
              have K6 := quietK K5 k6
              have hrw := rows_any c M5 B5 w6 hA6
              rw [Hr0.out] at hrw
              go_wp2_with fail
              refine hrw.mono ?_
              clear hrw
              rintro e w7 ⟨rfl, rfl⟩
              go_wp2_with fail
              go_roundw
              case rel => exact ⟨r + 1, M5, B5, by go_num, by omega, hA6, hW5.mono (by omega), Hfl.out.2, fun h => by omega, fun _ => Hfl.out.1, K6, F5⟩
              case measure => simp [intOf]; omega
        · obtain rfl : r = 2 := by omega
          obtain ⟨e1, he1', hdue⟩ := he1 (by omega)
          have hfd : findM M ip now = (e1.mac, true) := by
            unfold findM; rw [he1', lk_cons, if_pos rfl]
            simp only
            rw [if_neg (by omega)]
          have hfind := find_any c ip now M B wr hA h0 h1
          rw [hfd] at hfind
          have hel : M.ent.length = 1 := by rw [he1']; rfl
          have hlen1 := fun W (hq : CacheAt W c M B) => len_any c M B W hq
          rw [hel] at hlen1
          unfold macV at hfind
          have Hlen := Lib.hid hlen1
          clear hfd he1' hdue he0 he1 hrows hel hlen1
          go_wp2_with fail
          refine hfind.mono ?_
          clear hfind
          rintro e w3 ⟨rfl, k3⟩
          have hA3 := hA.keep k3 (fun _ _ h => h)
          go_wp2_with fail
          generalize hwb : World.alloc w3 _ = w4
          have k4 : Keep (fun _ => False) w3 w4 := by rw [← hwb]; exact (Keep.refl _ w3).alloc _
          clear hwb
          refine (Hlen.out w4 (hA3.keep k4 (fun _ _ h => h))).mono ?_
          rintro e w5 ⟨rfl, rfl⟩
          go_wp2_with fail
          go_ret
          exact ⟨rfl, (k01.trans (quietK (quietK K k3) k4) (fun _ h => h) (fun i hi (e : w1.heap.size ≤ i) => by have := k01.size; omega))⟩
    · have hnew : Calls Tryz.prog 11 #[.int .i64 room, .int .i64 wait, .int .u64 10, .int .u64 10] w1 fun e w' => e = .returned (.tuple #[.pointer none, .int .i64 11]) ∧ Keep (fun _ => False) w1 w' := cnew_wrong room wait 10 10 w1 hR
      clear hR
      go_wp2_with fail
      refine hnew.mono ?_
      clear hnew
      rintro e w2 ⟨rfl, k2⟩
      go_wp2_with fail
      go_ret
      exact ⟨rfl, k01.trans k2 (fun _ h => h) (fun _ _ h => h)⟩
  · have hli : (100 : Int) < toks.length := by omega
    go_wp2_with fail
    go_ret
    exact ⟨rfl, k01⟩
end Go.Proofs.YtdacbgdinmaemaaGreatDoor

namespace Go.Proofs.YtdacbgdinmaemaaGreatDoor
open Go Go.ChangeShapes Go.WideShapes Go.ChangeAt Go.WideMaps Go.WideElems Go.RowKit Vz

theorem params_first : Tryz.f5.params.toList = [3, 3, 30, 32, 35, 22] := by kernel_rfl
set_option maxRecDepth 100000 in
theorem first_lifted (os : Os) (started : os.Started) (H : Type) (enc : TypeId × Value → H) :
    ReturnsInHanded {} Tryz.checked os 5 .any (fun w args => (Rows.cacheFirstSpec.pre enc Tryz.prog Tryz.f5 [] false w args ∧ laidMetH Tryz.prog vzLaid w) ∧ sizedMet enc Tryz.prog Tryz.f5 (OpenSpec.ofChange Rows.cacheFirstSpec) false w args)
      (Rows.cacheFirstSpec.post enc Tryz.prog Tryz.f5 false true false false) := by
  refine returnsInHanded_of_change_and (C := Tryz.checked) (X := fun w _ => laidMetH Tryz.prog vzLaid w) (fun _ _ _ hh h => h.of_heap hh) vz_own started (by kernel_rfl) Tryz.func5
    (ChangeSpec.witness_shaped (enc := enc) (C := Tryz.checked) (os := os) (X := fun w _ => laidMetH Tryz.prog vzLaid w) false (World.doorLaid Tryz.prog 21 os) #[.int .i64 0, .int .i64 0, .int .u32 0, .agg #[.int .u8 0, .int .u8 0, .int .u8 0, .int .u8 0, .int .u8 0, .int .u8 0], .slice none 0 0, .int .u64 0] 8 rfl (World.shaped_of_RefB (by kernel_rfl) (by kernel_rfl)) (by kernel_rfl) (by kernel_rfl) (by kernel_rfl) (door_met os _)) ?_
  intro W base args ds gs before hval0 hW _ _ hL _
  have hval : ∀ (j : Nat) t v, Tryz.f5.params.toList[j]? = some t → args.toList[j]? = some v → Value.okWide Tryz.prog W .any base t v := fun j t v h1 h2 => hval0 j t v (by rw [← Array.getElem?_toList]; exact h1) (by rw [← Array.getElem?_toList]; exact h2)
  have hW' := hW
  obtain ⟨p, q, hA0, hV, rfl, hfz, hnd⟩ := hW
  obtain ⟨rfl, rfl⟩ := trodVars_none hV
  have hA := hA0
  rw [params_first] at hA hval
  obtain ⟨v0, vs, d0, ds1, p0, q0, e0, rfl, rfl, h0, hA⟩ := trodAll_cons hA
  obtain ⟨v1, vs1, d1, ds2, p1, q1, rfl, rfl, rfl, h1, hA⟩ := trodAll_cons hA
  obtain ⟨v2, vs2, d2, ds3, p2, q2, rfl, rfl, rfl, h2, hA⟩ := trodAll_cons hA
  obtain ⟨v3, vs3, d3, ds4, p3, q3, rfl, rfl, rfl, h3, hA⟩ := trodAll_cons hA
  obtain ⟨v4, vs4, d4, ds5, p4, q4, rfl, rfl, rfl, h4, hA⟩ := trodAll_cons hA
  obtain ⟨v5, vs5, d5, ds6, p5, q5, rfl, rfl, rfl, h5, hA⟩ := trodAll_cons hA
  obtain ⟨rfl, rfl, rfl⟩ := trodAll_nil hA
  obtain rfl : args = #[v0, v1, v2, v3, v4, v5] := by apply Array.ext'; rw [e0]
  obtain ⟨n0, rfl, _⟩ := int_in (P := Tryz.prog) (k := .i64) (by kernel_rfl) (hval 0 _ _ rfl rfl)
  obtain ⟨n1, rfl, _⟩ := int_in (P := Tryz.prog) (k := .i64) (by kernel_rfl) (hval 1 _ _ rfl rfl)
  obtain ⟨n2, rfl, k2⟩ := int_in (P := Tryz.prog) (k := .u32) (by kernel_rfl) (hval 2 _ _ rfl rfl)
  obtain ⟨m3, rfl⟩ := arr6_ok (P := Tryz.prog) (t := 32) (e := 5) (by kernel_rfl) (by kernel_rfl) (by kernel_rfl) (by kernel_rfl) (hval 3 _ _ rfl rfl)
  obtain ⟨xs, hxs, hxl⟩ := ints_in (P := Tryz.prog) (t := 35) (e := 3) (by kernel_rfl) (by kernel_rfl) (by kernel_rfl) (hval 4 _ _ rfl rfl) h4
  obtain ⟨n5, rfl, k5⟩ := int_in (P := Tryz.prog) (k := .u64) (by kernel_rfl) (hval 5 _ _ rfl rfl)
  obtain ⟨u0, u1⟩ := has_u32 k2
  obtain ⟨t5, rfl, _⟩ := has_u64 k5
  refine (cacheFirst_any n0 n1 n2 m3 _ xs t5 W (tab_of_laid hL) hxs hxl u0 u1).mono ?_
  rintro e W' ⟨rfl, hk⟩
  simp only [List.append_nil] at hW' hA0
  exact ⟨_, rfl, law_post rfl (by kernel_rfl) (by kernel_rfl) hA0 hW' rfl rfl rfl hk.below⟩

theorem cacheFirst_row : Rows.CacheFirstSaid :=
  OpenClaim.holds_of_wide 5 Tryz.f5 rfl rfl rfl rfl rfl rfl rfl ⟨rfl, rfl, rfl, rfl, rfl⟩ rfl rfl rfl rfl rfl (by kernel_rfl) Tryz.func5 (by kernel_rfl)
    (of_decide_eq_true (by kernel_rfl)) (by unfold Func.isWrapper; first | (rw [if_pos (by decide +kernel)]; kernel_rfl) | (rw [if_neg (by decide +kernel)]; exact ⟨rfl, rfl⟩))
    (fun os started H enc _ => first_lifted os started H enc)
end Go.Proofs.YtdacbgdinmaemaaGreatDoor

namespace Go.Proofs.YtdacbgdinmaemaaGreatDoor
open Go

theorem cacheFirst_card : Rows.CacheFirstCardSaid :=
  Claim7.holds_tied_plain_at .later [] [.data] true (true, "99105c79e5c760b3e64ab6846b91849be2d6743ffc2f9dbeacfa37df96d719f6") true
    cacheFirst_row (fun _ h => by cases h) (by kernel_rfl) (fun _ h => by cases h) cacheFirst_row_tie rfl ⟨rfl, rfl⟩ (by kernel_rfl) rfl
    (fun f fn hf hfn => by
      obtain rfl : f = 5 := Option.some.inj ((show Tryz.prog.funcNamed "vizard/vizardlaw14.CacheFirst" = some 5 by kernel_rfl).symm.trans hf) |>.symm
      obtain rfl : fn = Tryz.f5 := (Option.some.inj (Tryz.func5.symm.trans hfn)).symm
      exact ⟨by kernel_rfl, fun j t ht => by
        rw [Tryz.params5] at ht
        have hm : t ∈ [3, 3, 30, 32, 35, 22] := by simpa using Array.mem_of_getElem? ht
        have hall : ([3, 3, 30, 32, 35, 22].all fun u => !Tryz.prog.wantsStandIn u) = true := by kernel_rfl
        exact (show Tryz.prog.wantsStandIn t = false by simpa using List.all_eq_true.1 hall t hm)⟩)
    (by kernel_rfl)
#print axioms cacheFirst_card
end Go.Proofs.YtdacbgdinmaemaaGreatDoor
