/- PROVED: vizardlaw14.CacheTokens returns true for every room, wait, life, patience and calls, and leaves its arguments as they were; on the condition that the table math/bits.deBruijn64tab reads as the program's text lays it, which the card ties to that text. -/

import Derived.Test.YtdacbgdinmaemaaGreatDoorK14
import Derived.Test.YtdacbgdinmaemaaGreatDoorK12
set_option linter.all false

namespace Go.Proofs.YtdacbgdinmaemaaGreatDoor
open Go Go.ChangeShapes Go.WideShapes Go.ChangeAt Go.WideMaps Go.WideElems Go.RowKit Vz

theorem params_tok : Tryz.f3.params.toList = [3, 3, 22, 22, 23] := by kernel_rfl
set_option maxRecDepth 100000 in
theorem tok_lifted (os : Os) (started : os.Started) (H : Type) (enc : TypeId × Value → H) :
    ReturnsInHanded {} Tryz.checked os 3 .any (fun w args => (Rows.cacheTokensSpec.pre enc Tryz.prog Tryz.f3 [] false w args ∧ laidMetH Tryz.prog vzLaid w) ∧ sizedMet enc Tryz.prog Tryz.f3 (OpenSpec.ofChange Rows.cacheTokensSpec) false w args)
      (Rows.cacheTokensSpec.post enc Tryz.prog Tryz.f3 false true false false) := by
  refine returnsInHanded_of_change_and (C := Tryz.checked) (X := fun w _ => laidMetH Tryz.prog vzLaid w) (fun _ _ _ hh h => h.of_heap hh) vz_own started (by kernel_rfl) Tryz.func3
    (ChangeSpec.witness_shaped (enc := enc) (C := Tryz.checked) (os := os) (X := fun w _ => laidMetH Tryz.prog vzLaid w) false (World.doorLaid Tryz.prog 21 os) #[.int .i64 0, .int .i64 0, .int .u64 0, .int .u64 0, .slice none 0 0] 8 rfl (World.shaped_of_RefB (by kernel_rfl) (by kernel_rfl)) (by kernel_rfl) (by kernel_rfl) (by kernel_rfl) (door_met os _)) ?_
  intro W base args ds gs before hval0 hW _ _ hL _
  have hval : ∀ (j : Nat) t v, Tryz.f3.params.toList[j]? = some t → args.toList[j]? = some v → Value.okWide Tryz.prog W .any base t v := fun j t v h1 h2 => hval0 j t v (by rw [← Array.getElem?_toList]; exact h1) (by rw [← Array.getElem?_toList]; exact h2)
  have hW' := hW
  obtain ⟨p, q, hA0, hV, rfl, hfz, hnd⟩ := hW
  obtain ⟨rfl, rfl⟩ := trodVars_none hV
  have hA := hA0
  rw [params_tok] at hA hval
  obtain ⟨v0, vs, d0, ds1, p0, q0, e0, rfl, rfl, h0, hA⟩ := trodAll_cons hA
  obtain ⟨v1, vs1, d1, ds2, p1, q1, rfl, rfl, rfl, h1, hA⟩ := trodAll_cons hA
  obtain ⟨v2, vs2, d2, ds3, p2, q2, rfl, rfl, rfl, h2, hA⟩ := trodAll_cons hA
  obtain ⟨v3, vs3, d3, ds4, p3, q3, rfl, rfl, rfl, h3, hA⟩ := trodAll_cons hA
  obtain ⟨v4, vs4, d4, ds5, p4, q4, rfl, rfl, rfl, h4, hA⟩ := trodAll_cons hA
  obtain ⟨rfl, rfl, rfl⟩ := trodAll_nil hA
  obtain rfl : args = #[v0, v1, v2, v3, v4] := by apply Array.ext'; rw [e0]
  obtain ⟨n0, rfl, _⟩ := int_in (P := Tryz.prog) (k := .i64) (by kernel_rfl) (hval 0 _ _ rfl rfl)
  obtain ⟨n1, rfl, _⟩ := int_in (P := Tryz.prog) (k := .i64) (by kernel_rfl) (hval 1 _ _ rfl rfl)
  obtain ⟨n2, rfl, k2⟩ := int_in (P := Tryz.prog) (k := .u64) (by kernel_rfl) (hval 2 _ _ rfl rfl)
  obtain ⟨n3, rfl, k3⟩ := int_in (P := Tryz.prog) (k := .u64) (by kernel_rfl) (hval 3 _ _ rfl rfl)
  obtain ⟨cs, hcs, hip, hcl⟩ := calls_in (hval 4 _ _ rfl rfl) h4
  obtain ⟨t2, rfl, _⟩ := has_u64 k2
  obtain ⟨t3, rfl, _⟩ := has_u64 k3
  refine (cacheTokens_any n0 n1 t2 t3 _ cs W (tab_of_laid hL) hcs hip hcl).mono ?_
  rintro e W' ⟨rfl, hk⟩
  simp only [List.append_nil] at hW' hA0
  exact ⟨_, rfl, law_post rfl (by kernel_rfl) (by kernel_rfl) hA0 hW' rfl rfl rfl hk.below⟩

theorem cacheTokens_row : Rows.CacheTokensSaid :=
  OpenClaim.holds_of_wide 3 Tryz.f3 rfl rfl rfl rfl rfl rfl rfl ⟨rfl, rfl, rfl, rfl, rfl⟩ rfl rfl rfl rfl rfl (by kernel_rfl) Tryz.func3 (by kernel_rfl)
    (of_decide_eq_true (by kernel_rfl)) (by unfold Func.isWrapper; first | (rw [if_pos (by decide +kernel)]; kernel_rfl) | (rw [if_neg (by decide +kernel)]; exact ⟨rfl, rfl⟩))
    (fun os started H enc _ => tok_lifted os started H enc)
end Go.Proofs.YtdacbgdinmaemaaGreatDoor

namespace Go.Proofs.YtdacbgdinmaemaaGreatDoor
open Go

theorem cacheTokens_card : Rows.CacheTokensCardSaid :=
  Claim7.holds_tied_plain_at .later [] [.data] true (true, "99105c79e5c760b3e64ab6846b91849be2d6743ffc2f9dbeacfa37df96d719f6") true
    cacheTokens_row (fun _ h => by cases h) (by kernel_rfl) (fun _ h => by cases h) cacheTokens_row_tie rfl ⟨rfl, rfl⟩ (by kernel_rfl) rfl
    (fun f fn hf hfn => by
      obtain rfl : f = 3 := Option.some.inj ((show Tryz.prog.funcNamed "vizard/vizardlaw14.CacheTokens" = some 3 by kernel_rfl).symm.trans hf) |>.symm
      obtain rfl : fn = Tryz.f3 := (Option.some.inj (Tryz.func3.symm.trans hfn)).symm
      exact ⟨by kernel_rfl, fun j t ht => by
        rw [Tryz.params3] at ht
        have hm : t ∈ [3, 3, 22, 22, 23] := by simpa using Array.mem_of_getElem? ht
        have hall : ([3, 3, 22, 22, 23].all fun u => !Tryz.prog.wantsStandIn u) = true := by kernel_rfl
        exact (show Tryz.prog.wantsStandIn t = false by simpa using List.all_eq_true.1 hall t hm)⟩)
    (by kernel_rfl)
#print axioms cacheTokens_card
end Go.Proofs.YtdacbgdinmaemaaGreatDoor
