/- The statement AdjAsksSaid, from the walk of its law. Conditions: none: the given statement as it is. -/
import Derived.Test.YtgbmhfbfcbjccaaRows
import Derived.Test.YtgbmhfbfcbjccaaEngT
import Derived.Test.YtgbmhfbfcbjccaaWN
namespace Go.Proofs.Ytgbmhfbfcbjccaa
open Go.ChangeShapes Go.WideShapes Go.ChangeAt Go.RowKit Go.Joins
namespace rowAdjAsks
theorem flat2 : FlatAt Try.prog (.int .i64) 2 := flat_int Try.underlying2 (by kernel_rfl)
theorem flat41 : FlatAt Try.prog .arc 41 := flat_arc Try.underlying41 (by kernel_rfl) ⟨rfl, by kernel_rfl, Try.underlying3⟩ ⟨rfl, by kernel_rfl, Try.underlying3⟩ ⟨rfl, by kernel_rfl, Try.underlying2⟩ ⟨rfl, by kernel_rfl, Try.underlying2⟩ ⟨rfl, by kernel_rfl, Try.underlying2⟩
theorem flat5 : FlatAt Try.prog (.int .u8) 5 := flat_int Try.underlying5 (by kernel_rfl)
end rowAdjAsks
open rowAdjAsks
theorem ownAdjAsks : ownKnob Try.prog.godebug = none := by kernel_rfl
theorem laidOutAdjAsks : laidOutB Try.prog = true := by kernel_rfl
set_option maxRecDepth 100000 in
theorem liftedAdjAsks (os : Os) (started : os.Started) (H : Type) (enc : TypeId × Value → H) :
    ReturnsInHanded {} Try.checked os 3 .any (Rows.adjAsksSpec.pre6 enc Try.prog Try.f3 Rows.adjAsksRow.domain false) (Rows.adjAsksSpec.post enc Try.prog Try.f3 false true false false) := by
  refine returnsInHanded_of_change_sized (C := Try.checked) ownAdjAsks started (by kernel_rfl) Try.func3
    (ChangeSpec.witness6 (enc := enc) (C := Try.checked) false ⟨#[], #[.agg #[.slice none 0 0, .slice none 0 0], .int .i64 0, .int .i64 0, .slice none 0 0, .slice none 0 0, .int .u8 0], []⟩ 8 (by kernel_rfl) (by kernel_rfl) (by kernel_rfl) (by kernel_rfl)) ?_
  intro W base args ds gs before hval0 hW hcnd hsz0 _
  have hval : ∀ (j : Nat) t v, Try.f3.params[j]? = some t → args[j]? = some v → Value.okWide Try.prog W .any base t v := hval0
  have hW' := hW
  obtain ⟨p, q, hA0, hV, rfl, hfz, hnd⟩ := hW
  have hA : DataW.TrodAll enc Try.prog W 0 (fun _ => true) true Try.f3.params.toList args.toList ds p := hA0
  have hsz1 : (DataW.weightsEach Try.prog (Try.f3.params.toList ++ Rows.adjAsksSpec.plain.varTypes Try.prog) (ds ++ gs)).all (· ≤ reachBytes) = true := hsz0
  rw [Try.params3] at hA hval hsz1
  obtain ⟨v0, vs0, d0, ds0, p0, q0, hargs, rfl, rfl, h0, r_0⟩ := trodAll_cons hA
  obtain ⟨v1, vs1, d1, ds1, p1, q1, rfl, rfl, rfl, h1, r_1⟩ := trodAll_cons r_0
  obtain ⟨v2, vs2, d2, ds2, p2, q2, rfl, rfl, rfl, h2, r_2⟩ := trodAll_cons r_1
  obtain ⟨v3, vs3, d3, ds3, p3, q3, rfl, rfl, rfl, h3, r_3⟩ := trodAll_cons r_2
  obtain ⟨v4, vs4, d4, ds4, p4, q4, rfl, rfl, rfl, h4, r_4⟩ := trodAll_cons r_3
  obtain ⟨v5, vs5, d5, ds5, p5, q5, rfl, rfl, rfl, h5, r_5⟩ := trodAll_cons r_4
  obtain ⟨rfl, rfl, rfl⟩ := trodAll_nil r_5
  obtain rfl : args = #[v0, v1, v2, v3, v4, v5] := by cases args; simp_all
  obtain ⟨rfl, rfl⟩ := trodVars_none hV
  have hsz : (DataW.weightsEach Try.prog [25, 3, 3, 26, 26, 5] [d0, d1, d2, d3, d4, d5]).all (· ≤ reachBytes) = true := hsz1
  have k0 := h0
  have lt0 : ∀ x ∈ p0, x.block < W.heap.size := by obtain ⟨m, hm⟩ := k0; exact DataW.trod_lt m _ _ _ hm
  obtain ⟨va0, vb0, ya0, yb0, m0, rfl, rfl, rfl, hya0, hyb0⟩ := open_agg2 Try.underlying25 (by kernel_rfl) (by kernel_rfl) (hval 0 25 v0 rfl rfl) h0
  obtain ⟨su0, ra0, wa0, hda0⟩ := open_rd (τ := (.int .i64)) Try.underlying22 flat2 hya0
  obtain ⟨rs0, rb0, wb0, hdb0⟩ := open_rd (τ := .arc) Try.underlying23 flat41 hyb0
  have hsz0 := sized_agg hsz (j := 0) rfl rfl Try.underlying25
  have hl0a := sized_rd hsz0 (j := 0) rfl rfl Try.underlying22 hda0
  have hl0b := sized_rd hsz0 (j := 1) rfl rfl Try.underlying23 hdb0
  rw [show Try.prog.bytesOf 2 = 8 from by kernel_rfl] at hl0a
  rw [show Try.prog.bytesOf 41 = 40 from by kernel_rfl] at hl0b
  simp only [reachBytes] at hl0a hl0b
  have k1 := h1
  have lt1 : ∀ x ∈ p1, x.block < W.heap.size := by obtain ⟨m, hm⟩ := k1; exact DataW.trod_lt m _ _ _ hm
  obtain ⟨x1, rfl, rfl, rfl, w1⟩ := open_int Try.underlying3 (hval 1 3 v1 rfl rfl) h1
  have k2 := h2
  have lt2 : ∀ x ∈ p2, x.block < W.heap.size := by obtain ⟨m, hm⟩ := k2; exact DataW.trod_lt m _ _ _ hm
  obtain ⟨x2, rfl, rfl, rfl, w2⟩ := open_int Try.underlying3 (hval 2 3 v2 rfl rfl) h2
  have k3 := h3
  have lt3 : ∀ x ∈ p3, x.block < W.heap.size := by obtain ⟨m, hm⟩ := k3; exact DataW.trod_lt m _ _ _ hm
  obtain ⟨a3, len3, cap3, rfl⟩ := okWide_slice Try.underlying26 (hval 3 26 v3 rfl rfl)
  obtain ⟨fuel3, hf3⟩ := h3
  obtain ⟨xs3, r3, wf3, hd3⟩ := open_rd (τ := (.int .u8)) Try.underlying26 flat5 (show DataW.trod enc Try.prog W 0 (fun _ => true) true fuel3 26 [.slice a3 len3 cap3] = some (d3, p3) from hf3)
  have hl3 := sized_rd hsz (j := 3) rfl rfl Try.underlying26 hd3
  rw [show Try.prog.bytesOf 5 = 1 from by kernel_rfl] at hl3
  simp only [reachBytes] at hl3
  have k4 := h4
  have lt4 : ∀ x ∈ p4, x.block < W.heap.size := by obtain ⟨m, hm⟩ := k4; exact DataW.trod_lt m _ _ _ hm
  obtain ⟨a4, len4, cap4, rfl⟩ := okWide_slice Try.underlying26 (hval 4 26 v4 rfl rfl)
  obtain ⟨fuel4, hf4⟩ := h4
  obtain ⟨xs4, r4, wf4, hd4⟩ := open_rd (τ := (.int .u8)) Try.underlying26 flat5 (show DataW.trod enc Try.prog W 0 (fun _ => true) true fuel4 26 [.slice a4 len4 cap4] = some (d4, p4) from hf4)
  have hl4 := sized_rd hsz (j := 4) rfl rfl Try.underlying26 hd4
  rw [show Try.prog.bytesOf 5 = 1 from by kernel_rfl] at hl4
  simp only [reachBytes] at hl4
  have k5 := h5
  have lt5 : ∀ x ∈ p5, x.block < W.heap.size := by obtain ⟨m, hm⟩ := k5; exact DataW.trod_lt m _ _ _ hm
  obtain ⟨x5, rfl, rfl, rfl, w5⟩ := open_int Try.underlying5 (hval 5 5 v5 rfl rfl) h5
  clear hA0 hval0
  have hcall := law_calls (C := cfg) (AdjAsks_fn x1 x2 x5 su0 rs0 xs3 xs4 (fun x hx => bounds_u8 (wf3 x hx)) (fun x hx => bounds_u8 (wf4 x hx)) (bounds_u8 w5) (by omega) (by omega)) (ρ := rho [(1, va0), (2, vb0), (3, .slice a3 len3 cap3), (4, .slice a4 len4 cap4)]) (W := W) (by simp) (fun p hp => by
      simp only [List.mem_cons, List.not_mem_nil, or_false] at hp
      rcases hp with rfl | rfl | rfl | rfl <;> rfl) (fun p hp => by
      simp only [List.mem_cons, List.not_mem_nil, or_false] at hp
      rcases hp with rfl | rfl | rfl | rfl
      · exact sat_rd0 (τ := (.int .i64)) ra0
      · exact sat_rd0 (τ := .arc) rb0
      · exact sat_rd0 (τ := (.int .u8)) r3
      · exact sat_rd0 (τ := (.int .u8)) r4)
  refine Calls.mono (show Calls Try.prog 3 _ W _ from hcall) fun e W' ⟨he, bel⟩ => ?_
  subst he
  exact ⟨_, rfl, _, _, _, [], _, [], hW', trodAll_mk1 (shut_bool Try.underlying4 _), (trodAll_cons_mk (Below.trod laidOutAdjAsks (by kernel_rfl) (of_decide_eq_true (by kernel_rfl)) k0 bel lt0) (trodAll_cons_mk (Below.trod laidOutAdjAsks (by kernel_rfl) (of_decide_eq_true (by kernel_rfl)) k1 bel lt1) (trodAll_cons_mk (Below.trod laidOutAdjAsks (by kernel_rfl) (of_decide_eq_true (by kernel_rfl)) k2 bel lt2) (trodAll_cons_mk (Below.trod laidOutAdjAsks (by kernel_rfl) (of_decide_eq_true (by kernel_rfl)) k3 bel lt3) (trodAll_cons_mk (Below.trod laidOutAdjAsks (by kernel_rfl) (of_decide_eq_true (by kernel_rfl)) k4 bel lt4) (trodAll_cons_mk (Below.trod laidOutAdjAsks (by kernel_rfl) (of_decide_eq_true (by kernel_rfl)) k5 bel lt5) trodAll_mk0)))))), rfl, bel.frame _, fun h => by cases h⟩
theorem AdjAsks_holds : Rows.AdjAsksSaid :=
  OpenClaim.holds_of_wide 3 Try.f3 rfl rfl rfl rfl rfl rfl rfl ⟨rfl, rfl, rfl, rfl, rfl⟩ rfl rfl rfl rfl rfl (by kernel_rfl) Try.func3 (by kernel_rfl)
    (of_decide_eq_true (by kernel_rfl)) (by unfold Func.isWrapper; first | (rw [if_pos (by decide +kernel)]; kernel_rfl) | (rw [if_neg (by decide +kernel)]; exact ⟨rfl, rfl⟩))
    (fun os started H enc _ => liftedAdjAsks os started H enc)
end Go.Proofs.Ytgbmhfbfcbjccaa
