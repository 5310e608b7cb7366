/- The statement AdjTurnedSaid, from the walk of its law. Conditions: none: the given statement as it is. -/
import Derived.Test.YtgbmhfbfcbjccaaRows
import Derived.Test.YtgbmhfbfcbjccaaEngT
import Derived.Test.YtgbmhfbfcbjccaaWP
namespace Go.Proofs.Ytgbmhfbfcbjccaa
set_option linter.unusedSimpArgs false
set_option linter.unusedVariables false
open Go.ChangeShapes Go.WideShapes Go.ChangeAt Go.RowKit Go.Joins
namespace rowAdjTurned
theorem flat5 : FlatAt Try.prog (.int .u8) 5 := flat_int Try.underlying5 (by kernel_rfl)
end rowAdjTurned
open rowAdjTurned
theorem ownAdjTurned : ownKnob Try.prog.godebug = none := by kernel_rfl
theorem laidOutAdjTurned : laidOutB Try.prog = true := by kernel_rfl
set_option maxRecDepth 100000 in
theorem liftedAdjTurned (os : Os) (started : os.Started) (H : Type) (enc : TypeId × Value → H) :
    ReturnsInHanded {} Try.checked os 6 .any (Rows.adjTurnedSpec.pre6 enc Try.prog Try.f6 Rows.adjTurnedRow.domain false) (Rows.adjTurnedSpec.post enc Try.prog Try.f6 false true false false) := by
  refine returnsInHanded_of_change_sized (C := Try.checked) ownAdjTurned started (by kernel_rfl) Try.func6
    (ChangeSpec.witness6 (enc := enc) (C := Try.checked) false ⟨#[], #[.slice none 0 0, .slice none 0 0], []⟩ 8 (by kernel_rfl) (by kernel_rfl) (by kernel_rfl) (by kernel_rfl)) ?_
  intro W base args ds gs before hval0 hW hcnd hsz0 _
  have hval : ∀ (j : Nat) t v, Try.f6.params[j]? = some t → args[j]? = some v → Value.okWide Try.prog W .any base t v := hval0
  have hW' := hW
  obtain ⟨p, q, hA0, hV, rfl, hfz, hnd⟩ := hW
  have hA : DataW.TrodAll enc Try.prog W 0 (fun _ => true) true Try.f6.params.toList args.toList ds p := hA0
  have hsz1 : (DataW.weightsEach Try.prog (Try.f6.params.toList ++ Rows.adjTurnedSpec.plain.varTypes Try.prog) (ds ++ gs)).all (· ≤ reachBytes) = true := hsz0
  rw [Try.params6] at hA hval hsz1
  obtain ⟨v0, vs0, d0, ds0, p0, q0, hargs, rfl, rfl, h0, r_0⟩ := trodAll_cons hA
  obtain ⟨v1, vs1, d1, ds1, p1, q1, rfl, rfl, rfl, h1, r_1⟩ := trodAll_cons r_0
  obtain ⟨rfl, rfl, rfl⟩ := trodAll_nil r_1
  obtain rfl : args = #[v0, v1] := by cases args; simp_all
  obtain ⟨rfl, rfl⟩ := trodVars_none hV
  have hsz : (DataW.weightsEach Try.prog [26, 26] [d0, d1]).all (· ≤ reachBytes) = true := hsz1
  have k0 := h0
  have lt0 : ∀ x ∈ p0, x.block < W.heap.size := by obtain ⟨m, hm⟩ := k0; exact DataW.trod_lt m _ _ _ hm
  obtain ⟨a0, len0, cap0, rfl⟩ := okWide_slice Try.underlying26 (hval 0 26 v0 rfl rfl)
  obtain ⟨fuel0, hf0⟩ := h0
  obtain ⟨xs0, r0, wf0, hd0⟩ := open_rd (τ := (.int .u8)) Try.underlying26 flat5 (show DataW.trod enc Try.prog W 0 (fun _ => true) true fuel0 26 [.slice a0 len0 cap0] = some (d0, p0) from hf0)
  have hl0 := sized_rd hsz (j := 0) rfl rfl Try.underlying26 hd0
  rw [show Try.prog.bytesOf 5 = 1 from by kernel_rfl] at hl0
  simp only [reachBytes] at hl0
  have k1 := h1
  have lt1 : ∀ x ∈ p1, x.block < W.heap.size := by obtain ⟨m, hm⟩ := k1; exact DataW.trod_lt m _ _ _ hm
  obtain ⟨a1, len1, cap1, rfl⟩ := okWide_slice Try.underlying26 (hval 1 26 v1 rfl rfl)
  obtain ⟨fuel1, hf1⟩ := h1
  obtain ⟨xs1, r1, wf1, hd1⟩ := open_rd (τ := (.int .u8)) Try.underlying26 flat5 (show DataW.trod enc Try.prog W 0 (fun _ => true) true fuel1 26 [.slice a1 len1 cap1] = some (d1, p1) from hf1)
  have hl1 := sized_rd hsz (j := 1) rfl rfl Try.underlying26 hd1
  rw [show Try.prog.bytesOf 5 = 1 from by kernel_rfl] at hl1
  simp only [reachBytes] at hl1
  clear hA0 hval0
  have hcall := law_calls (C := cfg) (AdjTurned_fn xs0 xs1 (fun x hx => bounds_u8 (wf0 x hx)) (fun x hx => bounds_u8 (wf1 x hx))) (ρ := rho [(1, .slice a0 len0 cap0), (2, .slice a1 len1 cap1)]) (W := W) (by simp) (fun p hp => by
      simp only [List.mem_cons, List.not_mem_nil, or_false] at hp
      rcases hp with rfl | rfl <;> rfl) (fun p hp => by
      simp only [List.mem_cons, List.not_mem_nil, or_false] at hp
      rcases hp with rfl | rfl
      · exact sat_rd0 (τ := (.int .u8)) r0
      · exact sat_rd0 (τ := (.int .u8)) r1)
  refine Calls.mono (show Calls Try.prog 6 _ W _ from hcall) fun e W' ⟨he, bel⟩ => ?_
  subst he
  exact ⟨_, rfl, _, _, _, [], _, [], hW', trodAll_mk1 (shut_bool Try.underlying4 _), (trodAll_cons_mk (Below.trod laidOutAdjTurned (by kernel_rfl) (of_decide_eq_true (by kernel_rfl)) k0 bel lt0) (trodAll_cons_mk (Below.trod laidOutAdjTurned (by kernel_rfl) (of_decide_eq_true (by kernel_rfl)) k1 bel lt1) trodAll_mk0)), rfl, bel.frame _, fun h => by cases h⟩
theorem AdjTurned_holds : Rows.AdjTurnedSaid :=
  OpenClaim.holds_of_wide 6 Try.f6 rfl rfl rfl rfl rfl rfl rfl ⟨rfl, rfl, rfl, rfl, rfl⟩ rfl rfl rfl rfl rfl (by kernel_rfl) Try.func6 (by kernel_rfl)
    (of_decide_eq_true (by kernel_rfl)) (by unfold Func.isWrapper; first | (rw [if_pos (by decide +kernel)]; kernel_rfl) | (rw [if_neg (by decide +kernel)]; exact ⟨rfl, rfl⟩))
    (fun os started H enc _ => liftedAdjTurned os started H enc)
end Go.Proofs.Ytgbmhfbfcbjccaa
