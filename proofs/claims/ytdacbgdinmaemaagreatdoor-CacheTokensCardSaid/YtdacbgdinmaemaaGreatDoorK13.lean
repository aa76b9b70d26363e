/- Contracts and plain laws of this claim, part K13. -/

import Derived.Test.YtdacbgdinmaemaaGreatDoorK12
import Derived.Test.YtdacbgdinmaemaaGreatDoorK10
set_option linter.all false

namespace Go.Proofs.YtdacbgdinmaemaaGreatDoor
open Go Go.RowKit Vz Go.Shelf

/-- what New is asked for, right or wrong -/
theorem right_nat {room wait : Int} {life pat : Nat} (h : RightB room wait life pat) : ∃ r k : Nat, room = r ∧ wait = k ∧ 1 ≤ r ∧ r ≤ 256 ∧ 1 ≤ k ∧ k ≤ 64 ∧ life ≤ 4294967296 ∧ pat ≤ 4294967296 ∧ 1 ≤ life ∧ 1 ≤ pat := by
  obtain ⟨h1, h2, h3, h4, h5, h6⟩ := h
  exact ⟨room.toNat, wait.toNat, by omega, by omega, by omega, by omega, by omega, by omega, by omega, by omega, by omega, by omega⟩

def FirstAt (M : CM) (ip : Int) (i : Nat) (ins : List Int) : Prop := (i = 0 ∧ M.rows = [] ∧ ins = []) ∨ (1 ≤ i ∧ ∃ q, M.rows = [(ip, q)] ∧ q.toks = ins)
theorem first_ask {M : CM} {ip : Int} {i rm wt : Nat} {ins : List Int} (h1 : M.room = rm) (h2 : M.wait = wt) (hr : 1 ≤ rm) (hw : 1 ≤ wt) (h : FirstAt M ip i ins) : waitsFirst M ip = decide (i = 0) ∧ waitsOk M ip = decide (ins.length < wt) := by
  rcases h with ⟨rfl, h3, rfl⟩ | ⟨h3, q, h4, h5⟩
  · have hl : lk M.rows ip = none := by rw [h3]; rfl
    unfold waitsFirst waitsOk
    rw [hl, h3, h1]
    have e1 : decide (([] : List (Int × RowM)).length < rm) = true := decide_eq_true (by simp; omega)
    have e2 : decide (([] : List Int).length < wt) = true := decide_eq_true (by simp; omega)
    rw [e2]; exact ⟨by rw [e1]; rfl, e1⟩
  · have hl : lk M.rows ip = some q := by rw [h4, lk_cons, if_pos rfl]
    unfold waitsFirst waitsOk
    rw [hl, h2, ← h5]
    have e1 : decide (i = 0) = false := decide_eq_false (by omega)
    rw [e1]; exact ⟨rfl, rfl⟩
theorem first_step {M M' : CM} {ip tok : Int} {now i rm wt : Nat} {ins : List Int} (h1 : M.room = rm) (h2 : M.wait = wt) (hr : 1 ≤ rm) (hw : 1 ≤ wt) (h : FirstAt M ip i ins) (hL : Waited M ip tok now M') :
    M'.ent = M.ent ∧ FirstAt M' ip (i + 1) (if ins.length < wt then ins ++ [tok] else ins) := by
  obtain ⟨_, hok⟩ := first_ask h1 h2 hr hw h
  unfold Waited at hL
  rw [hok] at hL
  rcases h with ⟨rfl, h3, rfl⟩ | ⟨h3, q, h4, h5⟩
  · have hl : lk M.rows ip = none := by rw [h3]; rfl
    rw [if_pos (by simp; omega), hl] at hL
    obtain ⟨v', rfl⟩ := hL
    refine ⟨rfl, .inr ⟨by omega, ⟨v', [tok], M.count + 1, tm61 now + M.pat⟩, by rw [h3]; rfl, ?_⟩⟩
    rw [if_pos (by simp; omega)]; rfl
  · have hl : lk M.rows ip = some q := by rw [h4, lk_cons, if_pos rfl]
    by_cases hlt : ins.length < wt
    · rw [if_pos (by simpa using hlt), hl] at hL
      obtain ⟨v', rfl⟩ := hL
      refine ⟨rfl, .inr ⟨by omega, ⟨v', q.toks ++ [tok], q.order, q.due⟩, ?_, ?_⟩⟩
      · simp only [h4]; unfold put; rw [if_pos rfl]
      · rw [if_pos hlt, ← h5]
    · rw [if_neg (by simpa using hlt)] at hL
      subst hL
      exact ⟨rfl, .inr ⟨by omega, q, h4, by rw [if_neg hlt]; exact h5⟩⟩
theorem first_learn {M M' : CM} {ip : Int} {mac : Mac6} {now : Nat} (hr : 1 ≤ M.room) (hent : M.ent = [] ∨ ∃ e, M.ent = [(ip, e)]) (hL : Learned M ip mac now M') : (∃ e, M'.ent = [(ip, e)] ∧ e.due = tm61 now + M.life) ∧ M'.rows = del M.rows ip := by
  obtain ⟨E, hE, rfl⟩ := hL
  refine ⟨⟨⟨mac, M.count + 1, tm61 now + M.life⟩, ?_, rfl⟩, rfl⟩
  rcases hent with h | ⟨e, h⟩
  · rcases hE with ⟨rfl, _⟩ | ⟨m, _, h2, _⟩
    · simp only [h]; rfl
    · rw [h] at h2; simp at h2; omega
  · have hl : lk M.ent ip = some e := by rw [h, lk_cons, if_pos rfl]
    rcases hE with ⟨rfl, _⟩ | ⟨m, h2, _⟩
    · simp only [h]; unfold put; rw [if_pos rfl]
    · rw [hl] at h2; cases h2
theorem first_toks {M : CM} {ip : Int} {i : Nat} {ins : List Int} (h : FirstAt M ip i ins) : toksAt M ip = ins ∧ del M.rows ip = [] := by
  unfold toksAt
  rcases h with ⟨_, h3, h4⟩ | ⟨_, q, h4, h5⟩
  · rw [h3, h4]; exact ⟨rfl, rfl⟩
  · rw [h4, lk_cons, if_pos rfl, ← h5]; exact ⟨rfl, by unfold del; rw [if_pos rfl]⟩
theorem same_self (va vb : Value) (xs : List Int) (w : World) (ha : IntsAt w va xs) (hb : IntsAt w vb xs) (hx : xs.length ≤ 281474976710656) :
    Calls Tryz.prog 19 #[va, vb] w fun e w' => e = .returned (.bool true) ∧ Keep (fun _ => False) w w' :=
  (sameInts va vb xs xs w ha hb hx hx).mono (by
    rintro e w' ⟨rfl, n, rfl⟩
    exact ⟨by simp, (Keep.refl _ w).drewN n⟩)
theorem take_step (toks : List Int) (i wt : Nat) (h : i < toks.length) : (if (toks.take (min i wt)).length < wt then toks.take (min i wt) ++ [toks[i]] else toks.take (min i wt)) = toks.take (min (i + 1) wt) := by
  rw [List.length_take]
  by_cases hi : i < wt
  · rw [if_pos (by omega), show min i wt = i by omega, show min (i + 1) wt = i + 1 by omega, List.take_succ_eq_append_getElem h]
  · rw [if_neg (by omega), show min i wt = wt by omega, show min (i + 1) wt = wt by omega]
theorem owns_empty (w : World) (e : TypeId) (b : Nat) (hb : b ≤ w.heap.size) : (w.alloc (.cells #[] e)).ownsRow b e 1 (.slice (some ⟨w.heap.size, 0, none⟩) 0 0) ([] : List Int).length (([] : List Int).map ki) :=
  ⟨rfl, .inr ⟨w.heap.size, 0, #[], rfl, hb, World.alloc_heap_new _ _, Nat.le_refl _, Nat.zero_le _, rfl, rfl⟩⟩

set_option maxRecDepth 100000 in
set_option maxHeartbeats 1000000 in
theorem cacheFirst_any (room wait ip : Int) (mac : Mac6) (tv : Value) (toks : List Int) (now : Nat) (w : World) (hT : Tab w) (htv : IntsAt w tv toks) (hlen : toks.length ≤ 9223372036854775807) (h0 : 0 ≤ ip) (h1 : ip < 4294967296) :
    Calls Tryz.prog 5 #[.int .i64 room, .int .i64 wait, .int .u32 ip, macV mac, tv, .int .u64 now] w fun e w' => e = .returned (.bool true) ∧ Keep (fun _ => False) w w' := by
  obtain ⟨i0, hi, hz0, hz1, hz2⟩ := info_parts int_info
  have hTz : 1 < w.heap.size := World.block_lt_of_cell? _ _ (hT 0 (by decide))
  obtain ⟨tp, tc, rfl, htc⟩ := htv
  have Htc := Lib.hid htc
  have HT := Lib.hid hT
  clear htc hT
  unfold macV
  go_enter Tryz.func5, Tryz.ntmps5
  go_wp2_with fail
  generalize hwb : World.alloc w _ = w0
  have k0 : Keep (fun _ => False) w w0 := by rw [← hwb]; exact (Keep.refl _ w).alloc _
  have hmb : w0.heap[w.heap.size]? = some (macObj mac) := by rw [← hwb]; exact World.alloc_heap_new _ _
  have hz0w : w0.heap.size = w.heap.size + 1 := by rw [← hwb]; simp
  clear hwb
  refine (alive_any w0 (Tab.keep HT.out k0 (fun h => h))).mono ?_
  rintro e w1 ⟨rfl, k1⟩
  have k01 : Keep (fun _ => False) w w1 := k0.trans k1 (fun _ h => h) (fun _ _ h => h)
  by_cases hl : toks.length ≤ 100
  · have hli : ¬ (100 : Int) < toks.length := by omega
    by_cases hR : RightB room wait 10 10
    · obtain ⟨rm, wt, rfl, rfl, hr1, hr2, hw1, hw2, _, _, _, _⟩ := right_nat hR
      have hnew : Calls Tryz.prog 11 #[.int .i64 rm, .int .i64 wt, .int .u64 10, .int .u64 10] w1 fun e w' => ∃ c B, e = .returned (.tuple #[.pointer (some ⟨c, 0, none⟩), .int .i64 0]) ∧ CacheAt w' c ⟨rm, wt, 10, 10, 0, [], []⟩ B ∧ Keep (fun _ => False) w1 w' ∧ ∀ i, B.fp c i → w1.heap.size ≤ i := cnew_right rm wt 10 10 w1 hR
      have hRR := Lib.hid hR
      clear hR
      go_wp2_with fail
      refine hnew.mono ?_
      clear hnew
      rintro e w2 ⟨c, B, rfl, hA2, k2, hf2⟩
      have K2 : Keep (fun i => w1.heap.size ≤ i) w1 w2 := quietK (Keep.refl _ w1) k2
      have hmb1 := k1.heap hmb (fun h => h)
      have hmb1l := lt_of_heap hmb1
      clear k2
      go_wp2_with fail
      go_loopw [15] (fun vr wr => ∃ (r : Nat) (M : CM) (B : CB), vr = .int .i64 r ∧ r ≤ 2 ∧ CacheAt wr c M B ∧ WF M rm wt 10 10 (r * 200) ∧ M.rows = [] ∧ (r = 0 → M.ent = []) ∧ (1 ≤ r → ∃ e, M.ent = [(ip, e)] ∧ e.due = tm61 now + 10) ∧
        Keep (fun i => w1.heap.size ≤ i) w1 wr ∧ ∀ i, B.fp c i → w1.heap.size ≤ i) (fun vr _ => 2 - (intOf vr).toNat)
      case atStart => exact ⟨0, _, B, by go_num, by omega, hA2, WF.start rm wt 10 10, rfl, fun _ => rfl, fun h => by omega, K2, hf2⟩
      case round =>
        obtain ⟨r, M, B, rfl, hr, hA, hW, hrows, he0, he1, K, F⟩ := hrel
        by_cases hrl : r < 2
        · have hrli : (r : Int) < 2 := by omega
          obtain ⟨wo, rfl⟩ : ∃ wo : World, wo = wr := ⟨_, rfl⟩
          have hp1 := hW.p1; have hp2 := hW.p2
          have HA := Lib.hid hA
          have HW := Lib.hid hW
          have Hrows := Lib.hid hrows
          have Hent := Lib.hid he1
          have He0 := Lib.hid he0
          clear hA hW hrows he0 he1
          go_wp2_with fail
          go_loopw [16, 17] (fun vn vi wq => ∃ (i : Nat) (M' : CM) (B' : CB) (ins : List Int), vi = .int .i64 i ∧ i ≤ toks.length ∧ CacheAt wq c M' B' ∧ WF M' rm wt 10 10 (r * 200 + i) ∧ M'.ent = M.ent ∧ FirstAt M' ip i ins ∧ ins = toks.take (min i wt) ∧
            wq.ownsRow w1.heap.size 3 1 vn ins.length (ins.map ki) ∧ (∀ g, vn.ownBlock = some g → ¬ TB M' g) ∧ Keep (fun i => w1.heap.size ≤ i) w1 wq ∧ ∀ i, B'.fp c i → w1.heap.size ≤ i) (fun _ vi _ => toks.length - (intOf vi).toNat)
          case atStart =>
            have kA : Keep (fun _ => False) wo (wo.alloc (.cells #[] 3)) := (Keep.refl _ wo).alloc _
            refine ⟨0, M, B, [], by go_num, by omega, HA.out.keep kA (fun _ _ h => h), HW.out, rfl, .inl ⟨rfl, Hrows.out, rfl⟩, by simp, owns_empty wo _ _ K.size, fun g hg => ?_, quietK K kA, F⟩
            rintro ⟨p, hp, _⟩
            rw [Hrows.out] at hp; cases hp
          case round =>
            obtain ⟨i, M', B', ins, rfl, hit, hA', hW', hen, hFA, hins, hrow, htb, K', F'⟩ := hrel
            obtain ⟨pn, cn, rfl⟩ := slice_form hrow
            by_cases hlt : i < toks.length
            · have hli2 : (i : Int) < toks.length := by omega
              obtain ⟨g, o, rfl, hce⟩ := Htc.out i hlt
              have hgl : g < w.heap.size := World.block_lt_of_cell? _ _ hce
              have hk01 := k01.size
              have hcq := K'.cell (k01.cell hce (fun h => h)) (fun (hx : w1.heap.size ≤ g) => by omega)
              obtain ⟨hfi, hok⟩ := first_ask hW'.p1 hW'.p2 hr1 hw1 hFA
              have hwt := wait_any c ip toks[i] now M' B' wr rm wt 10 10 (r * 200 + i) hA' hW' h0 h1 (by omega) (by omega) hr2 hw1 hw2
              rw [hfi, hok] at hwt
              have hts := take_step toks i wt hlt
              rw [← hins] at hts
              have Hts := Lib.hid hts
              have hq1 := hW'.p1; have hq2 := hW'.p2
              have hil : ins.length ≤ 100 := by rw [hins, List.length_take]; omega
              have hilw : ins.length ≤ wt := by rw [hins, List.length_take]; omega
              have Hen := Lib.hid hen
              have hdi : decide (i = 0) = ((i : Int) == 0) := by
                by_cases e : i = 0
                · subst e; rfl
                · rw [decide_eq_false e]; simp; omega
              rw [hdi] at hwt
              clear hce hfi hok hts hins hen hq1 hq2 hdi
              obtain ⟨bi, hbi⟩ : ∃ bi, bi = ((i : Int) == 0) := ⟨_, rfl⟩
              rw [← hbi] at hwt
              have hbb : (bi = true ∧ ((i : Int) == 0) = true) ∨ (bi = false ∧ ((i : Int) == 0) = false) := by
                rw [hbi]
                cases ((i : Int) == 0) <;> simp
              clear hbi
              by_cases hbw : ins.length < wt
              · have hbw1 : (ins.length : Int) < wt := by omega
                rw [decide_eq_true hbw] at hwt
                simp only [if_true] at hwt
                rcases hbb with ⟨rfl, hbz⟩ | ⟨rfl, hbz⟩
                all_goals
                  go_wp2_with fail
                  refine hwt.mono ?_
                  rintro e w3 ⟨M2, B2, rfl, hL, hW2, hA2', hS2, htb2⟩
                  clear hwt
                  obtain ⟨hen2, hFA2⟩ := first_step hW'.p1 hW'.p2 hr1 hw1 hFA hL
                  rw [if_pos hbw] at hFA2
                  have hrow3 := ownsRow_keep2 hrow hS2.keep (ownBlock_not_fp hA' hrow)
                  have hce3 := hS2.keep.cell hcq (fun hx => by have := F' _ hx; simp only at this; omega)
                  obtain ⟨K3, F3⟩ := stepK K' F' hS2
                  have hz3 := K3.size
                  have Hfa := Lib.hid hFA2
                  have Hen2 := Lib.hid hen2
                  have hbg : ∀ g, (Value.slice pn ins.length cn).ownBlock = some g → g < wr.heap.size := fun g hg => ownBlock_lt hrow hg
                  have htb3 : ∀ g, (Value.slice pn ins.length cn).ownBlock = some g → ¬ TB M2 g := fun g hg hx => (htb2 g hx).elim (htb g hg) (fun h => by have := hbg g hg; omega)
                  have hzr : wr.heap.size ≤ w3.heap.size := hS2.keep.size
                  have hKr := K'.size
                  have htl3 : ∀ p ∈ M2.rows, ∀ g, p.2.v.ownBlock = some g → g < w3.heap.size := fun p hp g hg => by
                    obtain ⟨_, _, hq, _⟩ := hA2'
                    exact ownBlock_lt (hq.toks p hp).1 hg
                  clear hFA hFA2 hen2 hcq
                  go_wp2_with (at_builtin; refine wpList_append_own2 rfl _ _ 35 rfl w1.heap.size 3 i0 (ki 0) 1 8 Tryz.underlying35 hi hz0 hz1 hz2 rfl (by decide) _ _ _ rfl (hrow3.alloc _) ⟨w3.heap.size, 0, none⟩ 1 1 [ki toks[i]] rfl rfl (cell_one_new _ _ _) (by simp [Value.oneCell']) (by omega) (by unfold maxLen; omega) (by omega) (by simp; omega) ?_; intro v5 w5 hown5 hgrow5 hwh5; have hk5 := app_keep3 hgrow5; clear hgrow5)
                  go_roundw
                  case rel =>
                    refine ⟨i + 1, M2, B2, ins ++ [toks[i]], by go_num, by omega, hA2'.keepS hk5 (fun j hj e => ownBlock_not_fp hA2' hrow3 j e hj) (fun p hp g' hg' e => htb3 g' e ⟨p, hp, hg'⟩), hW2.mono (by omega), Hen2.out.trans Hen.out, Hfa.out, ?_, by simpa using hown5, fun g hg => ?_, K3.trans hk5 (fun _ h => h) (fun j hj e => ?_), F3⟩
                    · rw [← Hts.out, if_pos hbw]
                    · rcases hwh5 with e | e
                      · rw [e] at hg; exact htb3 g hg
                      · rintro ⟨p, hp, hpg⟩
                        have h1 := htl3 p hp g hpg
                        have h2 := e g hg
                        simp at h2; omega
                    · exact own_base hrow e
                  case measure => simp [intOf]; omega
              · have hbw1 : ¬ (ins.length : Int) < wt := by omega
                rw [decide_eq_false hbw] at hwt
                simp only [Bool.false_eq_true, if_false] at hwt
                rcases hbb with ⟨rfl, hbz⟩ | ⟨rfl, hbz⟩
                all_goals
                  go_wp2_with fail
                  refine hwt.mono ?_
                  rintro e w3 ⟨M2, B2, rfl, hL, hW2, hA2', hS2, htb2⟩
                  clear hwt
                  obtain ⟨hen2, hFA2⟩ := first_step hW'.p1 hW'.p2 hr1 hw1 hFA hL
                  rw [if_neg hbw] at hFA2
                  have hrow3 := ownsRow_keep2 hrow hS2.keep (ownBlock_not_fp hA' hrow)
                  obtain ⟨K3, F3⟩ := stepK K' F' hS2
                  have Hfa := Lib.hid hFA2
                  have Hen2 := Lib.hid hen2
                  have hbg : ∀ g, (Value.slice pn ins.length cn).ownBlock = some g → g < wr.heap.size := fun g hg => ownBlock_lt hrow hg
                  have htb3 : ∀ g, (Value.slice pn ins.length cn).ownBlock = some g → ¬ TB M2 g := fun g hg hx => (htb2 g hx).elim (htb g hg) (fun h => by have := hbg g hg; omega)
                  clear hFA hFA2 hen2 hcq
                  go_wp2_with fail
                  go_roundw
                  case rel => exact ⟨i + 1, M2, B2, ins, by go_num, by omega, hA2', hW2.mono (by omega), Hen2.out.trans Hen.out, Hfa.out, by rw [← Hts.out, if_neg hbw], hrow3, htb3, K3, F3⟩
                  case measure => simp [intOf]; omega
            · obtain rfl : i = toks.length := by omega
              have hins2 : ins = toks.take wt := by rw [hins]; rw [Nat.min_comm, ← List.take_take, List.take_length]
              clear hins
              go_wp2_with fail
              refine (tokens_any c M' B' wr rm wt 10 10 _ hA' hW' hr2 hw2).mono ?_
              rintro e w3 ⟨v3, rs, rfl, hrs, _, htk3, k3⟩
              have htk : rs.flatMap (fun p => p.2.toks) = ins := by
                rcases hFA with ⟨_, h3, h4⟩ | ⟨_, q, h4, h5⟩
                · rw [h3] at hrs; rw [List.perm_nil.1 hrs, h4]; rfl
                · rw [h4] at hrs; rw [List.perm_singleton.1 hrs]; simp [h5]
              rw [htk] at htk3
              have hil : ins.length ≤ 281474976710656 := by rw [hins2, List.length_take]; omega
              have hrow3 := ownsRow_keep2 hrow k3 (fun _ _ h => h)
              have hA3 := hA'.keep k3 (fun _ _ h => h)
              have K3 := quietK K' k3
              have Hins := Lib.hid hins2
              obtain ⟨htks, hdel⟩ := first_toks hFA
              have Htks := Lib.hid htks
              have Hdel := Lib.hid hdel
              have Hen := Lib.hid hen
              have hs1 := same_self v3 (.slice pn ins.length cn) ins w3 (IntsAt.of_owns htk3.1) (IntsAt.of_owns hrow3) hil
              clear hrs htk htk3 hins2 htks hdel hen hFA
              go_wp2_with fail
              refine hs1.mono ?_
              clear hs1
              rintro e w4 ⟨rfl, k4⟩
              have hrow4 := ownsRow_keep2 hrow3 k4 (fun _ _ h => h)
              have hA4 := hA3.keep k4 (fun _ _ h => h)
              have K4 := quietK K3 k4
              have hmb4 := K4.heap hmb1 (fun (h : w1.heap.size ≤ w.heap.size) => by omega)
              unfold macObj at hmb4
              have p0 : w4.cell? ⟨w.heap.size, 0, none⟩ = some (.int .u8 mac.a0) := by simp [World.cell?, hmb4]
              have p1 : w4.cell? ⟨w.heap.size, 1, none⟩ = some (.int .u8 mac.a1) := by simp [World.cell?, hmb4]
              have p2 : w4.cell? ⟨w.heap.size, 2, none⟩ = some (.int .u8 mac.a2) := by simp [World.cell?, hmb4]
              have p3 : w4.cell? ⟨w.heap.size, 3, none⟩ = some (.int .u8 mac.a3) := by simp [World.cell?, hmb4]
              have p4 : w4.cell? ⟨w.heap.size, 4, none⟩ = some (.int .u8 mac.a4) := by simp [World.cell?, hmb4]
              have p5 : w4.cell? ⟨w.heap.size, 5, none⟩ = some (.int .u8 mac.a5) := by simp [World.cell?, hmb4]
              have hml : w.heap.size < w4.heap.size := lt_of_heap hmb4
              have hlearn := learn_any c ip mac now M' B' w4 rm wt 10 10 _ hA4 hW' h0 h1 (by omega) (by omega) hr1 hr2
              unfold macV at hlearn
              clear hmb4
              go_wp2_with fail
              refine hlearn.mono ?_
              clear hlearn p0 p1 p2 p3 p4 p5
              rintro e w5 ⟨v5, M5, B5, rfl, hL5, hW5, hA5, hS5, htk5⟩
              rw [Htks.out] at htk5
              have hrow5 := ownsRow_keep2 hrow4 hS5.keep (ownBlock_not_fp hA4 hrow4)
              obtain ⟨K5, F5⟩ := stepK K4 F' hS5
              have hp1' := hW'.p1; have hp3' := hW'.p3
              have hfl := first_learn (by omega) (by
                rw [Hen.out]
                by_cases e : r = 0
                · exact .inl (He0.out e)
                · obtain ⟨e1, he, _⟩ := Hent.out (by omega); exact .inr ⟨e1, he⟩) hL5
              rw [Hdel.out, hp3'] at hfl
              have Hfl := Lib.hid hfl
              have hr0 : M5.rows.length = 0 := by rw [hfl.2]; rfl
              have hs2 := same_self v5 (.slice pn ins.length cn) ins w5 (IntsAt.of_owns htk5.1) (IntsAt.of_owns hrow5) hil
              have Hr0 := Lib.hid hr0
              clear hfl htk5 hL5 hr0 hp1' hp3'
              go_wp2_with fail
              refine hs2.mono ?_
              clear hs2
              rintro e w6 ⟨rfl, k6⟩
              have hA6 := hA5.keep k6 (fun _ _ h => h)
              have K6 := quietK K5 k6
              have hrw := rows_any c M5 B5 w6 hA6
              rw [Hr0.out] at hrw
              go_wp2_with fail
              refine hrw.mono ?_
              clear hrw
              rintro e w7 ⟨rfl, rfl⟩
              go_wp2_with fail
              go_roundw
              case rel => exact ⟨r + 1, M5, B5, by go_num, by omega, hA6, hW5.mono (by omega), Hfl.out.2, fun h => by omega, fun _ => Hfl.out.1, K6, F5⟩
              case measure => simp [intOf]; omega
        · obtain rfl : r = 2 := by omega
          obtain ⟨e1, he1', hdue⟩ := he1 (by omega)
          have hfd : findM M ip now = (e1.mac, true) := by
            unfold findM; rw [he1', lk_cons, if_pos rfl]
            simp only
            rw [if_neg (by omega)]
          have hfind := find_any c ip now M B wr hA h0 h1
          rw [hfd] at hfind
          have hel : M.ent.length = 1 := by rw [he1']; rfl
          have hlen1 := fun W (hq : CacheAt W c M B) => len_any c M B W hq
          rw [hel] at hlen1
          unfold macV at hfind
          have Hlen := Lib.hid hlen1
          clear hfd he1' hdue he0 he1 hrows hel hlen1
          go_wp2_with fail
          refine hfind.mono ?_
          clear hfind
          rintro e w3 ⟨rfl, k3⟩
          have hA3 := hA.keep k3 (fun _ _ h => h)
          go_wp2_with fail
          generalize hwb : World.alloc w3 _ = w4
          have k4 : Keep (fun _ => False) w3 w4 := by rw [← hwb]; exact (Keep.refl _ w3).alloc _
          clear hwb
          refine (Hlen.out w4 (hA3.keep k4 (fun _ _ h => h))).mono ?_
          rintro e w5 ⟨rfl, rfl⟩
          go_wp2_with fail
          go_ret
          exact ⟨rfl, (k01.trans (quietK (quietK K k3) k4) (fun _ h => h) (fun i hi (e : w1.heap.size ≤ i) => by have := k01.size; omega))⟩
    · have hnew : Calls Tryz.prog 11 #[.int .i64 room, .int .i64 wait, .int .u64 10, .int .u64 10] w1 fun e w' => e = .returned (.tuple #[.pointer none, .int .i64 11]) ∧ Keep (fun _ => False) w1 w' := cnew_wrong room wait 10 10 w1 hR
      clear hR
      go_wp2_with fail
      refine hnew.mono ?_
      clear hnew
      rintro e w2 ⟨rfl, k2⟩
      go_wp2_with fail
      go_ret
      exact ⟨rfl, k01.trans k2 (fun _ h => h) (fun _ _ h => h)⟩
  · have hli : (100 : Int) < toks.length := by omega
    go_wp2_with fail
    go_ret
    exact ⟨rfl, k01⟩
end Go.Proofs.YtdacbgdinmaemaaGreatDoor

namespace Go.Proofs.YtdacbgdinmaemaaGreatDoor
open Go Go.RowKit Vz Go.Shelf

/-- all tokens that wait, each with its Ip -/
def TT (rows : List (Int × RowM)) : List (Int × Int) := rows.flatMap fun p => p.2.toks.map fun t => (t, p.1)
def toksIn (rows : List (Int × RowM)) (ip : Int) : List Int := ((lk rows ip).map RowM.toks).getD []
def pairs (ip : Int) (l : List Int) : List (Int × Int) := l.map fun t => (t, ip)

theorem TT_cons (p : Int × RowM) (l : List (Int × RowM)) : TT (p :: l) = pairs p.1 p.2.toks ++ TT l := rfl
theorem TT_perm {a b : List (Int × RowM)} (h : a.Perm b) : (TT a).Perm (TT b) := h.flatMap_right _
theorem TT_del {rows : List (Int × RowM)} (hn : (keys rows).Nodup) (ip : Int) : (TT rows).Perm (pairs ip (toksIn rows ip) ++ TT (del rows ip)) := by
  induction rows with
  | nil => exact List.Perm.refl _
  | cons p l ih =>
    unfold keys at hn ih
    rw [List.map_cons, List.nodup_cons] at hn
    unfold del toksIn
    rw [lk_cons]
    by_cases e : p.1 = ip
    · rw [if_pos e, if_pos e, TT_cons, e]; exact List.Perm.refl _
    · rw [if_neg e, if_neg e, TT_cons, TT_cons]
      refine (List.Perm.append_left _ (ih hn.2)).trans ?_
      unfold toksIn
      rw [← List.append_assoc, ← List.append_assoc]
      exact List.Perm.append_right _ List.perm_append_comm
theorem pairs_snoc (ip : Int) (l : List Int) (t : Int) : pairs ip (l ++ [t]) = pairs ip l ++ [(t, ip)] := by unfold pairs; rw [List.map_append]; rfl
theorem TT_put_some {rows : List (Int × RowM)} {ip t : Int} {r r' : RowM} (h : lk rows ip = some r) (hr : r'.toks = r.toks ++ [t]) : (TT (put rows ip r')).Perm (TT rows ++ [(t, ip)]) := by
  induction rows with
  | nil => cases h
  | cons p l ih =>
    rw [lk_cons] at h
    unfold put
    by_cases e : p.1 = ip
    · rw [if_pos e] at h ⊢
      cases h
      rw [TT_cons, TT_cons, hr, e, pairs_snoc, List.append_assoc, List.append_assoc]
      exact List.Perm.append_left _ List.perm_append_comm
    · rw [if_neg e] at h ⊢
      rw [TT_cons, TT_cons, List.append_assoc]
      exact List.Perm.append_left _ (ih h)
theorem TT_put_none {rows : List (Int × RowM)} {ip t : Int} {r' : RowM} (h : lk rows ip = none) (hr : r'.toks = [t]) : (TT (put rows ip r')).Perm (TT rows ++ [(t, ip)]) := by
  rw [put_new (lk_eq_none.1 h)]
  unfold TT
  rw [List.flatMap_append]
  simp [hr]
theorem toksIn_del {rows : List (Int × RowM)} (hn : (keys rows).Nodup) {x y : Int} (h : x ≠ y) : toksIn (del rows x) y = toksIn rows y := by
  unfold toksIn; rw [lk_del rows hn, if_neg h]
theorem TT_dels : ∀ (xs : List Int) {rows : List (Int × RowM)}, (keys rows).Nodup → xs.Nodup → (TT rows).Perm ((xs.flatMap fun x => pairs x (toksIn rows x)) ++ TT (xs.foldl del rows))
  | [], _, _, _ => List.Perm.refl _
  | x :: xs, rows, hn, hx => by
    rw [List.nodup_cons] at hx
    refine (TT_del hn x).trans ?_
    rw [List.flatMap_cons, List.foldl_cons, List.append_assoc]
    refine List.Perm.append_left _ ((TT_dels xs (nodup_del hn x) hx.2).trans (List.Perm.append_right _ (List.Perm.of_eq ?_)))
    refine flatMap_congrM fun y hy => ?_
    have hxy : x ≠ y := fun e => hx.1 (by rw [e]; exact hy)
    rw [toksIn_del hn hxy]
theorem TT_keys (rows : List (Int × RowM)) : (TT rows).map (·.1) = rows.flatMap fun p => p.2.toks := by
  unfold TT; rw [List.map_flatMap]
  exact flatMap_congrM fun p _ => by rw [List.map_map]; simp [Function.comp_def]

/-- what waits is what the law's map says: n tokens were given out -/
structure TokInv (M : CM) (W : List (Int × Int)) (n : Nat) : Prop where
  perm : W.Perm (TT M.rows)
  nodup : (keys W).Nodup
  bound : ∀ q ∈ W, 0 ≤ q.1 ∧ q.1 < (n : Int)
/-- .. while tokens are being told -/
structure TokMid (M : CM) (W tP : List (Int × Int)) (n : Nat) : Prop where
  perm : W.Perm (tP ++ TT M.rows)
  nodup : (keys W).Nodup
  bound : ∀ q ∈ W, 0 ≤ q.1 ∧ q.1 < (n : Int)
theorem TokMid.done {M : CM} {W : List (Int × Int)} {n : Nat} (h : TokMid M W [] n) : TokInv M W n := ⟨h.perm, h.nodup, h.bound⟩
theorem TokMid.look {M : CM} {W tP : List (Int × Int)} {q : Int × Int} {n : Nat} (h : TokMid M W (q :: tP) n) : lk W q.1 = some q.2 :=
  lk_of_mem h.nodup (h.perm.symm.subset (List.mem_append_left _ (List.mem_cons_self ..)))
theorem TokMid.step {M : CM} {W tP : List (Int × Int)} {q : Int × Int} {n : Nat} (h : TokMid M W (q :: tP) n) : TokMid M (del W q.1) tP n := by
  refine ⟨?_, nodup_del h.nodup _, fun x hx => h.bound x ((keys_del_sub W q.1).subset hx)⟩
  have h1 := del_perm h.nodup h.perm q.1
  have h2 : del (q :: tP ++ TT M.rows) q.1 = tP ++ TT M.rows := by
    rw [List.cons_append]; unfold del; rw [if_pos rfl]
  rw [h2] at h1; exact h1
theorem TokInv.idle {M : CM} {W : List (Int × Int)} {n : Nat} (h : TokInv M W n) : TokMid M W [] (n + 1) := ⟨h.perm, h.nodup, fun q hq => by have := h.bound q hq; omega⟩
theorem toksAt_in (M : CM) (ip : Int) : toksAt M ip = toksIn M.rows ip := rfl
theorem TokInv.learned {M M' : CM} {W : List (Int × Int)} {n : Nat} {ip : Int} {mac : Mac6} {now : Nat} (h : TokInv M W n) (hn : (keys M.rows).Nodup) (hL : Learned M ip mac now M') : TokMid M' W (pairs ip (toksAt M ip)) (n + 1) := by
  obtain ⟨E, _, rfl⟩ := hL
  exact ⟨h.perm.trans (TT_del hn ip), h.nodup, fun q hq => by have := h.bound q hq; omega⟩
theorem TokInv.waits {M M' : CM} {W : List (Int × Int)} {n : Nat} {ip : Int} {now : Nat} (h : TokInv M W n) (hok : waitsOk M ip = true) (hL : Waited M ip n now M') : TokMid M' (put W (n : Int) ip) [] (n + 1) := by
  have hnew : (n : Int) ∉ keys W := fun hx => by
    obtain ⟨q, hq, e⟩ := List.mem_map.1 hx
    have := h.bound q hq; omega
  unfold Waited at hL
  rw [if_pos hok] at hL
  refine ⟨?_, nodup_put h.nodup _ _, fun q hq => ?_⟩
  · rw [put_new hnew, List.nil_append]
    cases hl : lk M.rows ip with
    | some r =>
      rw [hl] at hL
      obtain ⟨v', rfl⟩ := hL
      exact (h.perm.append_right _).trans (TT_put_some hl rfl).symm
    | none =>
      rw [hl] at hL
      obtain ⟨v', rfl⟩ := hL
      exact (h.perm.append_right _).trans (TT_put_none hl rfl).symm
  · rcases mem_put hq with rfl | hq
    · simp only; omega
    · have := h.bound q hq; omega
theorem TokInv.refused {M M' : CM} {W : List (Int × Int)} {n : Nat} {ip : Int} {now : Nat} (h : TokInv M W n) (hok : waitsOk M ip = false) (hL : Waited M ip n now M') : TokMid M' W [] (n + 1) := by
  unfold Waited at hL
  rw [hok] at hL
  simp only [Bool.false_eq_true, if_false] at hL
  subst hL; exact h.idle
theorem TokInv.swept {M : CM} {W : List (Int × Int)} {n t : Nat} {told : List Int} (h : TokInv M W n) (hn : (keys M.rows).Nodup) (hS : SweepTold M t told) : ∃ tP, tP.map (·.1) = told ∧ TokMid (sweptM M t) W tP (n + 1) := by
  obtain ⟨xs, hx, rfl⟩ := hS
  have hnw : (keys (waitT M)).Nodup := by rw [keys_waitT]; exact hn
  have hxn : xs.Nodup := hx.1.nodup_iff.2 ((List.filter_sublist.map _).nodup hnw)
  refine ⟨xs.flatMap fun x => pairs x (toksIn M.rows x), ?_, ?_, h.nodup, fun q hq => by have := h.bound q hq; omega⟩
  · rw [List.map_flatMap]
    exact flatMap_congrM fun x _ => by unfold pairs; rw [List.map_map]; simp [Function.comp_def, toksAt_in]
  · have e : xs.foldl del M.rows = (sweptM M t).rows := foldl_del_filter (fun r : RowM => r.due) hn hx
    rw [← e]
    exact h.perm.trans (TT_dels xs hn hxn)
theorem TokInv.told {M : CM} {W : List (Int × Int)} {n : Nat} {rs : List (Int × RowM)} (h : TokInv M W n) (hr : rs.Perm M.rows) : (rs.flatMap fun p => p.2.toks).length = W.length ∧ ∀ t ∈ rs.flatMap (fun p => p.2.toks), ∃ ip, lk W t = some ip := by
  have hp : W.Perm (TT rs) := h.perm.trans (TT_perm hr.symm)
  refine ⟨by rw [← TT_keys, List.length_map, hp.length_eq], fun t ht => ?_⟩
  rw [← TT_keys] at ht
  obtain ⟨q, hq, rfl⟩ := List.mem_map.1 ht
  exact ⟨q.2, lk_of_mem h.nodup (k := q.1) (v := q.2) (hp.symm.subset hq)⟩
theorem toks_bound {room wait life pat n : Nat} {M : CM} {rs : List (Int × RowM)} (h : WF M room wait life pat n) (hr : rs.Perm M.rows) : (rs.flatMap fun p => p.2.toks).length ≤ room * wait := by
  have h1 : ∀ l : List (Int × RowM), (∀ p ∈ l, p.2.toks.length ≤ wait) → (l.flatMap (fun p => p.2.toks)).length ≤ l.length * wait := fun l => by
    induction l with
    | nil => intro _; simp
    | cons p l ih =>
      intro h
      have h2 := h p (List.mem_cons_self ..)
      have h3 := ih (fun q hq => h q (List.mem_cons_of_mem _ hq))
      rw [List.flatMap_cons, List.length_append, List.length_cons, Nat.add_mul]; omega
  have h2 := h1 rs (fun p hp => (h.rt p (hr.subset hp)).2)
  have h3 := hr.length_eq
  exact Nat.le_trans h2 (Nat.mul_le_mul_right _ (by rw [h3]; exact h.rl))
end Go.Proofs.YtdacbgdinmaemaaGreatDoor
