/- Walks: the iterator over one of a node's pieces. Conditions: what the theorem says; it is a contract. -/
import Derived.Test.YtgbmhfbfcbjccaaWE
import Derived.Test.YtgbmhfbfcbjccaaEngQ
namespace Go.Proofs.Ytgbmhfbfcbjccaa
set_option linter.unusedSimpArgs false
set_option linter.unusedVariables false
open Go.RowKit
set_option maxHeartbeats 4000000
set_option maxRecDepth 20000
attribute [local irreducible] X CallOK gF gK stepK runOps runD runU skipU takeU Ent Fn XCall

theorem fn_n {f : FuncId} {args : List SV} {H0 : Hp} {α : Type} {φ : α → Prop} {s1 : α → SV} {H1 : α → Hp} (m : Nat) (h : Fn cfg f args H0 φ s1 H1) : Fn (cfgN m) f args H0 φ s1 H1 := by
  unfold Fn at h ⊢; exact h
theorem fn_r {f : FuncId} {args : List SV} {H0 : Hp} {α : Type} {φ : α → Prop} {s1 : α → SV} {H1 : α → Hp} (l : Nat) (h : Fn cfg f args H0 φ s1 H1) : Fn (cfgR l) f args H0 φ s1 H1 := by
  unfold Fn at h ⊢; exact h

def IT (k way n : Int) (rs : List ArcD) (ls st : List Int) : Hp :=
  [(1, .rbox false [.ptr 4 0]), (2, .rbox false [.v (.int .i64 k)]), (3, .rbox false [.v (.int .i64 way)]), (4, .rbox false [.v (.int .i64 n), .ref 5, .ref 6, .ref 7]), (5, .rd false .arc rs), (6, .rd false (.int .i64) ls), (7, .rd false (.int .i64) st)]
attribute [go_sem] IT
def pc (k way n : Int) (ls st : List Int) : List Int := if okN n k = true then (ls.take (st.getD (2 * k + way + 1).toNat 0).toNat).drop (st.getD (2 * k + way).toNat 0).toNat else []
theorem piece_it {A : Amb} {ρ : Vl} {w : World} {n0 : Nat} (k way n : Int) (rs : List ArcD) (ls st : List Int) (h : Holds A ρ w (IT k way n rs ls st)) (hn : n ≤ 1000000) (hw : way = 0 ∨ way = 1)
    (hg : okN n k = true → 2 * k + way + 1 < st.length ∧ 0 ≤ st.getD (2 * k + way).toNat 0 ∧ st.getD (2 * k + way).toNat 0 ≤ st.getD (2 * k + way + 1).toNat 0 ∧ st.getD (2 * k + way + 1).toNat 0 ≤ ls.length)
    (hn0 : n0 ≤ w.heap.size) (hls : ∀ W, Below n0 w W → RdSl (.int .i64) W (ρ 6) ls) {α : Type} (enc : α → Int) (xs : List α) (hxs : xs.map enc = pc k way n ls st) :
    SeqStopsK Fence.wide 4 Try.prog 39 #[(At.ptr 1 0).den ρ, (At.ptr 2 0).den ρ, (At.ptr 3 0).den ρ] (fun x => #[.int .i64 (enc x)]) (Below n0) (fun ys => ys = xs) (fun _ => True) xs.length w := by
  intro l J Jx W hW hJ hJx hY h0
  refine callsIn_wide.2 ?_
  have hh := holds_far h rfl hW
  have ea : (#[Value.func (.yield l) #[] #[]] ++ #[(At.ptr 1 0).den ρ, (At.ptr 2 0).den ρ, (At.ptr 3 0).den ρ] : Array Value) = (List.map (SV.den ρ) [.a (.v (.func (.yield l) #[] #[])), .a (.ptr 1 0), .a (.ptr 2 0), .a (.ptr 3 0)]).toArray := by simp [SV.den, At.den]
  rw [ea]
  have hWs := hW.size
  have hN := holds_ambN (n0 := n0) (pin := [(6, ρ 6)]) hh rfl (c := 6) (τ := .int .i64) (xs := ls) rfl (fun W' ha => hls W' ⟨ha.os.trans hW.os, ha.tape.trans hW.tape, ha.output.trans hW.output, Nat.le_trans hW.size ha.size, fun b hb => (ha.block b (by omega) (fun hf => by have := hf.1; omega)).trans (hW.block b (by omega))⟩) (fun p hp => by simp at hp; subst hp; rfl) (fun p hp => by simp only [List.mem_singleton] at hp; rw [hp]; omega)
  refine calls_of_XF (C := cfgN 4) rfl 52 Try.func39 rfl rfl (by simp) hN ?_
  simp only [IT, hset, Nat.reduceEqDiff, if_false, if_true]
  refine XF_ss ?_
  refine XF_s fun K hK => ?_
  repeat' (first | (refine hK _ _ ?_; clear hK; try clear K) | (clear hK; refine hK _ _ ?_; clear hK) | (clear hK; clear hK; refine hK _ _ ?_; clear hK) | (refine hX _ _ ?_) | (refine hY _ _ ?_) | (refine hZ _ _ ?_) | ((first | refine X_rs fun K hK => ?_ | refine X_r1 fun K hK => ?_); simp only [go_sem, Int.reduceToNat, Nat.reduceAdd, Nat.reduceMul, Nat.reduceEqDiff, Nat.reduceLT, Nat.reduceBEq, Nat.reduceLeDiff, ↓reduceIte, reduceCtorEq]; (try simp (disch := omega) only [wrap64, wrap8, tq, tr])) | ((first | refine X_sc rfl fun K hK => ⟨fun h => ?_, fun h => ?_⟩ | refine X_cond rfl (fun h => ?_) (fun h => ?_)) <;> (try simp only [bo1, bo2, bo3, bo4, bo5, bo6, bo7, bo8, bo9, bo10, bo11, bo12, bo13, reduceCtorEq] at h) <;> try omega) | (refine X_sb fun K hK => ?_) | (refine X_ss fun K hK => ?_) | (refine X_block ?_) | ((first | refine X_ret ?_ | refine X_skip ?_ | refine X_exit ?_ | refine ret_n ?_ | refine retM_n ?_); simp only [go_sem, Int.reduceToNat, Nat.reduceAdd, Nat.reduceMul, Nat.reduceEqDiff, Nat.reduceLT, Nat.reduceBEq, Nat.reduceLeDiff, ↓reduceIte, reduceCtorEq]) | ((first | refine gF_t (fun h => ?_) (fun h => ?_) | refine gF_f (fun h => ?_) (fun h => ?_)) <;> (first | (subst h; simp only [go_sem, Int.reduceToNat, Nat.reduceAdd, Nat.reduceMul, Nat.reduceEqDiff, Nat.reduceLT, Nat.reduceBEq, Nat.reduceLeDiff, ↓reduceIte, reduceCtorEq]; (try simp (disch := omega) only [wrap64, wrap8, tq, tr])) | (simp only [h]; simp only [go_sem, Int.reduceToNat, Nat.reduceAdd, Nat.reduceMul, Nat.reduceEqDiff, Nat.reduceLT, Nat.reduceBEq, Nat.reduceLeDiff, ↓reduceIte, reduceCtorEq]; (try simp (disch := omega) only [wrap64, wrap8, tq, tr]); try (simp only [bo1, bo2, bo3, bo4, bo5, bo6, bo7, bo8, bo9, bo10, bo11, bo12, bo13, reduceCtorEq] at h))) <;> try omega) | (refine then_n ?_) | (refine inb_n ?_) | (refine And.intro ?_ ?_; focus (first | omega | (simp only [ln1, ln2, ln3, ln4, ln5]; omega) | (simp; done) | (simp; omega) | (have hq := fitB_spec ‹_›; omega) | (refine And.intro ?_ ?_ <;> (first | omega | (simp; done) | (simp; omega) | (have hq := fitB_spec ‹_›; omega))))) | (refine And.intro ?_ ?_))
  (apply callOK (fn_n 4 (has_fn k n rs ls st)) [(1, 4), (2, 5), (3, 6), (4, 7)] 2000 (by decide); rfl; rfl; (simp [go_sem, -List.getD_eq_getElem?_getD]); rfl; rfl; (refine fun rr hrr => ⟨by kernel_rfl, by kernel_rfl, ?_⟩); simp only [go_sem, Int.reduceToNat, Nat.reduceAdd, Nat.reduceMul, Nat.reduceEqDiff, Nat.reduceLT, Nat.reduceBEq, Nat.reduceLeDiff, ↓reduceIte, reduceCtorEq])
  repeat' (first | (refine hK _ _ ?_; clear hK; try clear K) | (clear hK; refine hK _ _ ?_; clear hK) | (clear hK; clear hK; refine hK _ _ ?_; clear hK) | (refine hX _ _ ?_) | (refine hY _ _ ?_) | (refine hZ _ _ ?_) | ((first | refine X_rs fun K hK => ?_ | refine X_r1 fun K hK => ?_); simp only [go_sem, Int.reduceToNat, Nat.reduceAdd, Nat.reduceMul, Nat.reduceEqDiff, Nat.reduceLT, Nat.reduceBEq, Nat.reduceLeDiff, ↓reduceIte, reduceCtorEq]; (try simp (disch := omega) only [wrap64, wrap8, tq, tr])) | ((first | refine X_sc rfl fun K hK => ⟨fun h => ?_, fun h => ?_⟩ | refine X_cond rfl (fun h => ?_) (fun h => ?_)) <;> (try simp only [bo1, bo2, bo3, bo4, bo5, bo6, bo7, bo8, bo9, bo10, bo11, bo12, bo13, reduceCtorEq] at h) <;> try omega) | (refine X_sb fun K hK => ?_) | (refine X_ss fun K hK => ?_) | (refine X_block ?_) | ((first | refine X_ret ?_ | refine X_skip ?_ | refine X_exit ?_ | refine ret_n ?_ | refine retM_n ?_); simp only [go_sem, Int.reduceToNat, Nat.reduceAdd, Nat.reduceMul, Nat.reduceEqDiff, Nat.reduceLT, Nat.reduceBEq, Nat.reduceLeDiff, ↓reduceIte, reduceCtorEq]) | ((first | refine gF_t (fun h => ?_) (fun h => ?_) | refine gF_f (fun h => ?_) (fun h => ?_)) <;> (first | (subst h; simp only [go_sem, Int.reduceToNat, Nat.reduceAdd, Nat.reduceMul, Nat.reduceEqDiff, Nat.reduceLT, Nat.reduceBEq, Nat.reduceLeDiff, ↓reduceIte, reduceCtorEq]; (try simp (disch := omega) only [wrap64, wrap8, tq, tr])) | (simp only [h]; simp only [go_sem, Int.reduceToNat, Nat.reduceAdd, Nat.reduceMul, Nat.reduceEqDiff, Nat.reduceLT, Nat.reduceBEq, Nat.reduceLeDiff, ↓reduceIte, reduceCtorEq]; (try simp (disch := omega) only [wrap64, wrap8, tq, tr]); try (simp only [bo1, bo2, bo3, bo4, bo5, bo6, bo7, bo8, bo9, bo10, bo11, bo12, bo13, reduceCtorEq] at h))) <;> try omega) | (refine then_n ?_) | (refine inb_n ?_) | (refine And.intro ?_ ?_; focus (first | omega | (simp only [ln1, ln2, ln3, ln4, ln5]; omega) | (simp; done) | (simp; omega) | (have hq := fitB_spec ‹_›; omega) | (refine And.intro ?_ ?_ <;> (first | omega | (simp; done) | (simp; omega) | (have hq := fitB_spec ‹_›; omega))))) | (refine And.intro ?_ ?_))
  have hJ0 : ∀ {ρ' w' H'}, Holds (ambN n0 W [(6, ρ 6)]) ρ' w' H' → J [] w' := fun hh => hJ [] W _ none h0 (grown_of_agree0 hh.frame) (fun r e => by cases e)
  refine XF_cond rfl (fun h1 => XF_ret fun ρ' w' a' g1 g2 => ?_) (fun h1 => XF_skip fun ρ' w' a' g1 g2 => ?_)
  · have hp : pc k way n ls st = [] := by
      simp only [Bool.not_eq_true'] at h1
      simp [pc, h1]
    have hx0 : xs = [] := by rw [hp] at hxs; simpa using hxs
    refine ⟨g2.defers, .tuple #[], results_none rfl _ _ _, ⟨_, rfl⟩, .inl ⟨[], hx0.symm, hJ0 g1⟩⟩
  have hk1 : okN n k = true := by simpa using h1
  obtain ⟨b1, b2, b3, b4⟩ := hg hk1
  have hk2 := hk1
  simp only [okN, Bool.and_eq_true, decide_eq_true_eq] at hk2
  revert ρ' w' a' g1 g2
  show XF (cfgN 4) (ambN n0 W [(6, ρ 6)]) ⟨52, []⟩ _ _ _ _
  refine XF_s fun K hK => ?_
  (refine X_dr1 mixed 23 (.take 0 (.take 1 (.take 2 (.take 3 (.take 4 (.take 5 (.take 6 (.take 7 (.take 8 (.take 9 (.take 10 (.take 11 (.take 12 (.take 13 (.take 14 (.take 15 (.take 16 (.take 17 (.take 18 (.take 19 (.take 20 (.take 21 (.take 22 (.done)))))))))))))))))))))))) [] (by kernel_rfl) (by simp only [go_sem, Int.reduceToNat, Nat.reduceAdd, Nat.reduceMul, Nat.reduceEqDiff, Nat.reduceLT, Nat.reduceBEq, Nat.reduceLeDiff, ↓reduceIte, reduceCtorEq]; rfl) (by simp only [go_sem, Int.reduceToNat, Nat.reduceAdd, Nat.reduceMul, Nat.reduceEqDiff, Nat.reduceLT, Nat.reduceBEq, Nat.reduceLeDiff, ↓reduceIte, reduceCtorEq]) fun K hK => ?_; simp only [go_sem, Int.reduceToNat, Nat.reduceAdd, Nat.reduceMul, Nat.reduceEqDiff, Nat.reduceLT, Nat.reduceBEq, Nat.reduceLeDiff, ↓reduceIte, reduceCtorEq]; (try simp (disch := omega) only [wrap64, wrap8, tq, tr]))
  repeat' (first | (refine hK _ _ ?_; clear hK; try clear K) | (clear hK; refine hK _ _ ?_; clear hK) | (clear hK; clear hK; refine hK _ _ ?_; clear hK) | (refine hX _ _ ?_) | (refine hY _ _ ?_) | (refine hZ _ _ ?_) | ((first | refine X_rs fun K hK => ?_ | refine X_r1 fun K hK => ?_); simp only [go_sem, Int.reduceToNat, Nat.reduceAdd, Nat.reduceMul, Nat.reduceEqDiff, Nat.reduceLT, Nat.reduceBEq, Nat.reduceLeDiff, ↓reduceIte, reduceCtorEq]; (try simp (disch := omega) only [wrap64, wrap8, tq, tr])) | ((first | refine X_sc rfl fun K hK => ⟨fun h => ?_, fun h => ?_⟩ | refine X_cond rfl (fun h => ?_) (fun h => ?_)) <;> (try simp only [bo1, bo2, bo3, bo4, bo5, bo6, bo7, bo8, bo9, bo10, bo11, bo12, bo13, reduceCtorEq] at h) <;> try omega) | (refine X_sb fun K hK => ?_) | (refine X_ss fun K hK => ?_) | (refine X_block ?_) | ((first | refine X_ret ?_ | refine X_skip ?_ | refine X_exit ?_ | refine ret_n ?_ | refine retM_n ?_); simp only [go_sem, Int.reduceToNat, Nat.reduceAdd, Nat.reduceMul, Nat.reduceEqDiff, Nat.reduceLT, Nat.reduceBEq, Nat.reduceLeDiff, ↓reduceIte, reduceCtorEq]) | ((first | refine gF_t (fun h => ?_) (fun h => ?_) | refine gF_f (fun h => ?_) (fun h => ?_)) <;> (first | (subst h; simp only [go_sem, Int.reduceToNat, Nat.reduceAdd, Nat.reduceMul, Nat.reduceEqDiff, Nat.reduceLT, Nat.reduceBEq, Nat.reduceLeDiff, ↓reduceIte, reduceCtorEq]; (try simp (disch := omega) only [wrap64, wrap8, tq, tr])) | (simp only [h]; simp only [go_sem, Int.reduceToNat, Nat.reduceAdd, Nat.reduceMul, Nat.reduceEqDiff, Nat.reduceLT, Nat.reduceBEq, Nat.reduceLeDiff, ↓reduceIte, reduceCtorEq]; (try simp (disch := omega) only [wrap64, wrap8, tq, tr]); try (simp only [bo1, bo2, bo3, bo4, bo5, bo6, bo7, bo8, bo9, bo10, bo11, bo12, bo13, reduceCtorEq] at h))) <;> try omega) | (refine then_n ?_) | (refine inb_n ?_) | (refine And.intro ?_ ?_; focus (first | omega | (simp only [ln1, ln2, ln3, ln4, ln5]; omega) | (simp; done) | (simp; omega) | (have hq := fitB_spec ‹_›; omega) | (refine And.intro ?_ ?_ <;> (first | omega | (simp; done) | (simp; omega) | (have hq := fitB_spec ‹_›; omega))))) | (refine And.intro ?_ ?_))
  intro ρ0 w0 a0 q1 q2
  refine wpIn_seq ?_
  revert ρ0 w0 a0 q1 q2
  show XF (cfgN 4) (ambN n0 W [(6, ρ 6)]) ⟨52, []⟩ _ _ _ _
  refine XF_split 7 _ rfl rfl fun K hK => ?_
  simp only [go_sem, Int.reduceToNat, Nat.reduceAdd, Nat.reduceMul, Nat.reduceEqDiff, Nat.reduceLT, Nat.reduceBEq, Nat.reduceLeDiff, ↓reduceIte, reduceCtorEq]; (try simp (disch := omega) only [wrap64, wrap8, tq, tr])
  refine hK _ _ fun ρ1 w1 a1 g1 g2 => ?_
  clear hK K
  have e6 : ρ1 6 = ρ 6 := g1.pin (6, ρ 6) (by simp [ambN])
  obtain ⟨v', hr, hpart⟩ := slice_rd (C := cfgN 4) (o := ⟨some 41, .slice 34 (.tmp 37) (some (.tmp 38)) (some (.tmp 39)) (some (.tmp 40)), 34, "adj.go:91", #[{ on := 3, ground := .data }, { on := 4, ground := .data }, { on := 5, ground := .data }, { on := 6, ground := .data }], none⟩) (c := 6) (τ := .int .i64) g1 g2 rfl rfl ti34 rfl rfl rfl rfl (by simp) rfl rfl b2 b3 (Int.le_refl _) b4
  refine listIn_value rfl (by intro c hc; cases hc) hr ?_
  have hb1 : Below n0 w W := ⟨hW.os, hW.tape, hW.output, hW.size, fun b hb => hW.block b (by omega)⟩
  have hb2 : Below n0 W w1 := below_of_agree0 (w := W) g1.frame n0 (by omega)
  obtain ⟨part, hpt⟩ : ∃ part, part = ((ls.take (st.getD (2 * k + way + 1).toNat 0).toNat).drop (st.getD (2 * k + way).toNat 0).toNat) := ⟨_, rfl⟩
  have hpc : xs.map enc = part := by rw [hxs, hpt]; simp [pc, hk1]
  have hpl : part.length = xs.length := by rw [← hpc, List.length_map]
  rw [← hpt] at hpart
  have hpart2 : ∀ W', Below n0 W W' → RdSl (.int .i64) W' v' part := fun W' hb => hpart W' (by rw [e6]; exact hls W' (hb1.trans hb))
  have hw63 := rdSl_len (hpart2 _ (Below.refl _ _))
  have g3 := g2.put (d := 41) (by simp) (.a (.v v'))
  have g4 : EnvOk ⟨52, []⟩ (fun _ => v') [(0, .a (.v (.func (.yield l) #[] #[]))), (41, .a (.ref 50))] (a1.put (some 41) v') := g3.re (by simp [subR, lk, SV.den, At.den])
  refine list_X (A := ambP w1 [(50, v')]) (holds_rdP v' (hpart2 w1 hb2) rfl (by simp)) g4 fun K hK => ?_
  simp only [go_sem, Int.reduceToNat, Nat.reduceAdd, Nat.reduceMul, Nat.reduceEqDiff, Nat.reduceLT, Nat.reduceBEq, Nat.reduceLeDiff, ↓reduceIte, reduceCtorEq]; (try simp (disch := omega) only [wrap64, wrap8, tq, tr])
  refine hK _ _ fun ρ3 w3 a3 q1 q2 => ?_
  clear hK K
  have hb3 : Below n0 W w3 := below_agree0 (w := w1) hb2 q1.frame (Nat.le_trans (by omega) hb2.size)
  have hJ3 : J [] w3 := hJ [] w1 _ none (hJ0 g1) (grown_of_agree0 (w := w1) q1.frame) (fun r e => by cases e)
  have e50 : ρ3 50 = v' := q1.pin (50, v') (by simp [ambP])
  have h3 : EnvOk ⟨52, []⟩ (fun _ => v') [(0, .a (.v (.func (.yield l) #[] #[]))), (41, .a (.ref 50)), (42, .a (.v (.int .i64 (part.length : Int)))), (43, .a (.v (.int .i64 ((0 : Nat) : Int))))] a3 := q2.re (by simp [subR, lk, SV.den, At.den, e50])
  clear q1 q2 g3 g4 g1 g2 hr hpart hN hh hJ0 e50 h
  refine wpIn_block ?_
  refine wpIn_loop_ghost (fun m a w => ∃ k, k ≤ xs.length ∧ m = xs.length - k ∧ J (xs.take k) w ∧ Below n0 W w ∧ EnvOk ⟨52, []⟩ (fun _ => v') [(0, .a (.v (.func (.yield l) #[] #[]))), (41, .a (.ref 50)), (42, .a (.v (.int .i64 (part.length : Int)))), (43, .a (.v (.int .i64 ((k : Nat) : Int))))] a) xs.length ⟨0, Nat.zero_le _, rfl, hJ3, hb3, h3⟩ ?_
  rintro m a w4 ⟨j, hj, rfl, hJj, hbj, hEj⟩
  have hsz4 : n0 ≤ w4.heap.size := Nat.le_trans (by omega) hbj.size
  refine (?_ : XF (cfgN 4) (ambP w4 [(50, v')]) ⟨52, []⟩ _ [(0, .a (.v (.func (.yield l) #[] #[]))), (41, .a (.ref 50)), (42, .a (.v (.int .i64 (part.length : Int)))), (43, .a (.v (.int .i64 ((j : Nat) : Int))))] [(50, .rd false (.int .i64) part)] _) _ w4 a (holds_rdP v' (hpart2 w4 hbj) rfl (by simp)) hEj
  refine XF_s fun K hK => ?_
  repeat' (first | (refine hK _ _ ?_; clear hK; try clear K) | (clear hK; refine hK _ _ ?_; clear hK) | (clear hK; clear hK; refine hK _ _ ?_; clear hK) | (refine hX _ _ ?_) | (refine hY _ _ ?_) | (refine hZ _ _ ?_) | ((first | refine X_rs fun K hK => ?_ | refine X_r1 fun K hK => ?_); simp only [go_sem, Int.reduceToNat, Nat.reduceAdd, Nat.reduceMul, Nat.reduceEqDiff, Nat.reduceLT, Nat.reduceBEq, Nat.reduceLeDiff, ↓reduceIte, reduceCtorEq]; (try simp (disch := omega) only [wrap64, wrap8, tq, tr])) | ((first | refine X_sc rfl fun K hK => ⟨fun h => ?_, fun h => ?_⟩ | refine X_cond rfl (fun h => ?_) (fun h => ?_)) <;> (try simp only [bo1, bo2, bo3, bo4, bo5, bo6, bo7, bo8, bo9, bo10, bo11, bo12, bo13, reduceCtorEq] at h) <;> try omega) | (refine X_sb fun K hK => ?_) | (refine X_ss fun K hK => ?_) | (refine X_block ?_) | ((first | refine X_ret ?_ | refine X_skip ?_ | refine X_exit ?_ | refine ret_n ?_ | refine retM_n ?_); simp only [go_sem, Int.reduceToNat, Nat.reduceAdd, Nat.reduceMul, Nat.reduceEqDiff, Nat.reduceLT, Nat.reduceBEq, Nat.reduceLeDiff, ↓reduceIte, reduceCtorEq]) | ((first | refine gF_t (fun h => ?_) (fun h => ?_) | refine gF_f (fun h => ?_) (fun h => ?_)) <;> (first | (subst h; simp only [go_sem, Int.reduceToNat, Nat.reduceAdd, Nat.reduceMul, Nat.reduceEqDiff, Nat.reduceLT, Nat.reduceBEq, Nat.reduceLeDiff, ↓reduceIte, reduceCtorEq]; (try simp (disch := omega) only [wrap64, wrap8, tq, tr])) | (simp only [h]; simp only [go_sem, Int.reduceToNat, Nat.reduceAdd, Nat.reduceMul, Nat.reduceEqDiff, Nat.reduceLT, Nat.reduceBEq, Nat.reduceLeDiff, ↓reduceIte, reduceCtorEq]; (try simp (disch := omega) only [wrap64, wrap8, tq, tr]); try (simp only [bo1, bo2, bo3, bo4, bo5, bo6, bo7, bo8, bo9, bo10, bo11, bo12, bo13, reduceCtorEq] at h))) <;> try omega) | (refine then_n ?_) | (refine inb_n ?_) | (refine And.intro ?_ ?_; focus (first | omega | (simp only [ln1, ln2, ln3, ln4, ln5]; omega) | (simp; done) | (simp; omega) | (have hq := fitB_spec ‹_›; omega) | (refine And.intro ?_ ?_ <;> (first | omega | (simp; done) | (simp; omega) | (have hq := fitB_spec ‹_›; omega))))) | (refine And.intro ?_ ?_))
  refine XF_sc rfl (fun h1 => XF_skip fun ρ5 w5 a5 q1 q2 => ?_) (fun h1 => XF_exit fun ρ5 w5 a5 q1 q2 => ?_)
  · have hlt : j < xs.length := by rw [← hpl]; simpa using h1
    revert ρ5 w5 a5 q1 q2
    show XF (cfgN 4) (ambP w4 [(50, v')]) ⟨52, []⟩ _ _ _ _
    refine XF_sb ?_
    refine XF_s fun K hK => ?_
    repeat' (first | (refine hK _ _ ?_; clear hK; try clear K) | (clear hK; refine hK _ _ ?_; clear hK) | (clear hK; clear hK; refine hK _ _ ?_; clear hK) | (refine hX _ _ ?_) | (refine hY _ _ ?_) | (refine hZ _ _ ?_) | ((first | refine X_rs fun K hK => ?_ | refine X_r1 fun K hK => ?_); simp only [go_sem, Int.reduceToNat, Nat.reduceAdd, Nat.reduceMul, Nat.reduceEqDiff, Nat.reduceLT, Nat.reduceBEq, Nat.reduceLeDiff, ↓reduceIte, reduceCtorEq]; (try simp (disch := omega) only [wrap64, wrap8, tq, tr])) | ((first | refine X_sc rfl fun K hK => ⟨fun h => ?_, fun h => ?_⟩ | refine X_cond rfl (fun h => ?_) (fun h => ?_)) <;> (try simp only [bo1, bo2, bo3, bo4, bo5, bo6, bo7, bo8, bo9, bo10, bo11, bo12, bo13, reduceCtorEq] at h) <;> try omega) | (refine X_sb fun K hK => ?_) | (refine X_ss fun K hK => ?_) | (refine X_block ?_) | ((first | refine X_ret ?_ | refine X_skip ?_ | refine X_exit ?_ | refine ret_n ?_ | refine retM_n ?_); simp only [go_sem, Int.reduceToNat, Nat.reduceAdd, Nat.reduceMul, Nat.reduceEqDiff, Nat.reduceLT, Nat.reduceBEq, Nat.reduceLeDiff, ↓reduceIte, reduceCtorEq]) | ((first | refine gF_t (fun h => ?_) (fun h => ?_) | refine gF_f (fun h => ?_) (fun h => ?_)) <;> (first | (subst h; simp only [go_sem, Int.reduceToNat, Nat.reduceAdd, Nat.reduceMul, Nat.reduceEqDiff, Nat.reduceLT, Nat.reduceBEq, Nat.reduceLeDiff, ↓reduceIte, reduceCtorEq]; (try simp (disch := omega) only [wrap64, wrap8, tq, tr])) | (simp only [h]; simp only [go_sem, Int.reduceToNat, Nat.reduceAdd, Nat.reduceMul, Nat.reduceEqDiff, Nat.reduceLT, Nat.reduceBEq, Nat.reduceLeDiff, ↓reduceIte, reduceCtorEq]; (try simp (disch := omega) only [wrap64, wrap8, tq, tr]); try (simp only [bo1, bo2, bo3, bo4, bo5, bo6, bo7, bo8, bo9, bo10, bo11, bo12, bo13, reduceCtorEq] at h))) <;> try omega) | (refine then_n ?_) | (refine inb_n ?_) | (refine And.intro ?_ ?_; focus (first | omega | (simp only [ln1, ln2, ln3, ln4, ln5]; omega) | (simp; done) | (simp; omega) | (have hq := fitB_spec ‹_›; omega) | (refine And.intro ?_ ?_ <;> (first | omega | (simp; done) | (simp; omega) | (have hq := fitB_spec ‹_›; omega))))) | (refine And.intro ?_ ?_))
    intro ρ0 w0 a0 q1 q2
    refine wpIn_seq ?_
    revert ρ0 w0 a0 q1 q2
    show XF (cfgN 4) (ambP w4 [(50, v')]) ⟨52, []⟩ _ _ _ _
    refine XF_split 2 _ rfl rfl fun K hK => ?_
    simp only [go_sem, Int.reduceToNat, Nat.reduceAdd, Nat.reduceMul, Nat.reduceEqDiff, Nat.reduceLT, Nat.reduceBEq, Nat.reduceLeDiff, ↓reduceIte, reduceCtorEq]; (try simp (disch := omega) only [wrap64, wrap8, tq, tr])
    refine hK _ _ fun ρ6 w6 a6 q1 q2 => ?_
    clear hK K
    have hb6 : Below n0 W w6 := below_agree0 (w := w4) hbj q1.frame hsz4
    have hs6 : n0 ≤ w6.heap.size := Nat.le_trans (by omega) hb6.size
    have hJ6 : J (xs.take j) w6 := hJ _ w4 _ none hJj (grown_of_agree0 (w := w4) q1.frame) (fun r e => by cases e)
    have ex : part.getD j 0 = enc xs[j] := by rw [← hpc]; simp [List.getD, hlt]
    have e50 : ρ6 50 = v' := q1.pin (50, v') (by simp [ambP])
    have ht : xs.take j ++ [xs[j]] = xs.take (j + 1) := by rw [List.take_add_one, List.getElem?_eq_getElem hlt]; rfl
    have hYj := hY (xs.take j) xs[j] w6 hJ6 (by simp; omega)
    rw [ht] at hYj
    dsimp only at hYj
    rw [← ex] at hYj
    refine listIn_yield (l := [.a (.v (.int .i64 (part.getD j 0)))]) q2 rfl rfl rfl rfl (by simpa only [List.map_cons, List.map_nil, SV.den, At.den] using hYj) ?_
    have q3 : EnvOk ⟨52, []⟩ (fun _ => v') [(0, .a (.v (.func (.yield l) #[] #[]))), (41, .a (.ref 50)), (42, .a (.v (.int .i64 (part.length : Int)))), (43, .a (.v (.int .i64 ((j : Nat) : Int))))] a6 := q2.re (by simp [subR, lk, SV.den, At.den, e50])
    clear q1 q2 e50
    rintro e w7 (⟨rfl, hJ7, hb7⟩ | ⟨rfl, hJ7⟩)
    · refine ⟨_, rfl, ?_⟩
      have hb7' : Below n0 W w7 := hb6.trans hb7
      refine list_X (A := ambP w7 [(50, v')]) (holds_rdP v' (hpart2 w7 hb7') rfl (by simp)) (q3.put (d := 49) (by simp) (.a (.v (.bool true)))) fun K hK => ?_
      simp only [go_sem, Int.reduceToNat, Nat.reduceAdd, Nat.reduceMul, Nat.reduceEqDiff, Nat.reduceLT, Nat.reduceBEq, Nat.reduceLeDiff, ↓reduceIte, reduceCtorEq]; (try simp (disch := omega) only [wrap64, wrap8, tq, tr])
      refine hK _ _ fun ρ8 w8 a8 q1 q2 => ?_
      clear hK K
      revert ρ8 w8 a8 q1 q2
      show XF (cfgN 4) (ambP w7 [(50, v')]) ⟨52, []⟩ _ _ _ _
      refine XF_cond rfl (fun h => by cases h) (fun _ => XF_skip fun ρ8 w8 a8 q1 q2 => ?_)
      revert ρ8 w8 a8 q1 q2
      show XF (cfgN 4) (ambP w7 [(50, v')]) ⟨52, []⟩ _ _ _ _
      refine XF_r1 fun K hK => ?_
      simp only [go_sem, Int.reduceToNat, Nat.reduceAdd, Nat.reduceMul, Nat.reduceEqDiff, Nat.reduceLT, Nat.reduceBEq, Nat.reduceLeDiff, ↓reduceIte, reduceCtorEq]; (try simp (disch := omega) only [wrap64, wrap8, tq, tr])
      refine hK _ _ fun ρ8 w8 a8 q1 q2 => ?_
      clear hK K
      have e50 : ρ8 50 = v' := q1.pin (50, v') (by simp [ambP])
      refine ⟨xs.length - (j + 1), by omega, j + 1, by omega, rfl, ?_, below_agree0 (w := w7) hb7' q1.frame (Nat.le_trans (by omega) hb7'.size), q2.re ?_⟩
      · exact hJ _ w7 _ none hJ7 (grown_of_agree0 (w := w7) q1.frame) (fun r e => by cases e)
      · simp [subR, lk, SV.den, At.den, e50]
    · refine ⟨_, rfl, ?_⟩
      refine list_X (A := amb0 w7) (holds_nil0 _ w7) (q3.put (d := 49) (by simp) (.a (.v (.bool false)))) fun K hK => ?_
      simp only [go_sem, Int.reduceToNat, Nat.reduceAdd, Nat.reduceMul, Nat.reduceEqDiff, Nat.reduceLT, Nat.reduceBEq, Nat.reduceLeDiff, ↓reduceIte, reduceCtorEq]; (try simp (disch := omega) only [wrap64, wrap8, tq, tr])
      refine hK _ _ fun ρ8 w8 a8 q1 q2 => ?_
      clear hK K
      revert ρ8 w8 a8 q1 q2
      show XF (cfgN 4) (amb0 w7) ⟨52, []⟩ _ _ _ _
      refine XF_cond rfl (fun _ => XF_ret fun ρ8 w8 a8 q1 q2 => ?_) (fun h => by cases h)
      exact ⟨q2.defers, .tuple #[], results_none rfl _ _ _, ⟨_, rfl⟩, .inr ⟨_, trivial, hJx _ w7 _ none hJ7 (grown_of_agree0 (w := w7) q1.frame) (fun r e => by cases e)⟩⟩
  · have hge : xs.length ≤ j := by rw [← hpl]; simpa using h1
    obtain rfl : j = xs.length := by omega
    rw [List.take_length] at hJj
    exact ⟨q2.defers, .tuple #[], results_none rfl _ _ _, ⟨_, rfl⟩, .inl ⟨xs, rfl, hJ _ w4 _ none hJj (grown_of_agree0 (w := w4) q1.frame) (fun r e => by cases e)⟩⟩
end Go.Proofs.Ytgbmhfbfcbjccaa
