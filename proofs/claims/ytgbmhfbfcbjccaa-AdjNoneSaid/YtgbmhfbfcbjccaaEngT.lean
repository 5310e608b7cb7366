/- From what a row reads to what the engine holds: lists, structs, numbers. Conditions: none; plain definitions and theorems. -/
import Derived.Test.YtgbmhfbfcbjccaaEngR
import Derived.ProofKit
import Derived.OpenShut
import Derived.SizedLaws
import Derived.Lib.SmallJoins
import Derived.Deep.Slices
import Derived.ChangeOld
namespace Go.Proofs.Ytgbmhfbfcbjccaa
set_option linter.unusedSimpArgs false
set_option linter.unusedVariables false
open Go.ChangeShapes Go.WideShapes Go.ChangeAt Go.RowKit Go.Joins

/-- Numbers that fit their kinds. -/
def FTy.wf : (τ : FTy) → τ.D → Prop
  | .int k, (x : Int) => (Lit.int k x).wf = true
  | .bool, _ => True
  | .arc, (a : ArcD) => (Lit.int .i64 a.From).wf = true ∧ (Lit.int .i64 a.To).wf = true ∧ (Lit.int .i64 a.Low).wf = true ∧ (Lit.int .i64 a.Cap).wf = true ∧ (Lit.int .i64 a.Cost).wf = true

/-- What is read at such an element type. -/
def FlatAt (P : Program) (τ : FTy) (e : TypeId) : Prop :=
  P.cellsOf e = τ.sz ∧ ∀ {H : Type} (enc : TypeId × Value → H) (w : World) (base : Nat) (spare : Nat → Bool) (held : Bool) (fuel : Nat) (cs : List Value) (y : DataW H × List MemPlace),
    DataW.trod enc P w base spare held fuel e cs = some y → ∃ x : τ.D, cs = τ.cells x ∧ τ.wf x
theorem flat_int {P : Program} {e : TypeId} {k : IntKind} (h : P.underlying e = some (.int k)) (hc : P.cellsOf e = 1) : FlatAt P (.int k) e :=
  ⟨hc, fun enc w base spare held fuel cs y hy => by
    obtain ⟨n, hcs, _, hw⟩ := DataW.trod_int h hy
    exact ⟨n, hcs, hw⟩⟩
theorem flat_arc {P : Program} {e : TypeId} {f0 f1 f2 f3 f4 : Field} (h : P.underlying e = some (.struct #[f0, f1, f2, f3, f4])) (hc : P.cellsOf e = 5)
    (h0 : f0.offset = 0 ∧ P.cellsOf f0.type = 1 ∧ P.underlying f0.type = some (.int .i64)) (h1 : f1.offset = 1 ∧ P.cellsOf f1.type = 1 ∧ P.underlying f1.type = some (.int .i64))
    (h2 : f2.offset = 2 ∧ P.cellsOf f2.type = 1 ∧ P.underlying f2.type = some (.int .i64)) (h3 : f3.offset = 3 ∧ P.cellsOf f3.type = 1 ∧ P.underlying f3.type = some (.int .i64))
    (h4 : f4.offset = 4 ∧ P.cellsOf f4.type = 1 ∧ P.underlying f4.type = some (.int .i64)) : FlatAt P .arc e :=
  ⟨hc, fun enc w base spare held fuel cs y hy => by
    obtain ⟨xs, n, _, _, hl, hlen, hf⟩ := DataW.trod_struct h hy
    rw [hc] at hl
    match cs, hl with
    | [c0, c1, c2, c3, c4], _ =>
      have g : ∀ (i : Nat) (f : Field) (c : Value), #[f0, f1, f2, f3, f4][i]? = some f → (f.offset = i ∧ P.cellsOf f.type = 1 ∧ P.underlying f.type = some (.int .i64)) → [c0, c1, c2, c3, c4][i]? = some c →
          ∃ x, c = .int .i64 x ∧ (Lit.int .i64 x).wf = true := by
        intro i f c hi ⟨ho, h1, hu⟩ hcc
        have hx := hf i f hi
        rw [ho, h1] at hx
        have hlt : i < xs.length := by
          rw [hlen]
          have := (Array.getElem?_eq_some_iff.1 hi).1
          simpa using this
        rw [List.getElem?_eq_getElem hlt] at hx
        obtain ⟨m, hm, _, hw⟩ := DataW.trod_int hu hx
        refine ⟨m, ?_, hw⟩
        have h5 : (([c0, c1, c2, c3, c4].drop i).take 1)[0]? = some c := by
          rw [List.getElem?_take_of_lt (by omega), List.getElem?_drop]; exact hcc
        rw [hm] at h5
        simpa using h5.symm
      obtain ⟨x0, rfl, w0⟩ := g 0 f0 c0 rfl h0 rfl
      obtain ⟨x1, rfl, w1⟩ := g 1 f1 c1 rfl h1 rfl
      obtain ⟨x2, rfl, w2⟩ := g 2 f2 c2 rfl h2 rfl
      obtain ⟨x3, rfl, w3⟩ := g 3 f3 c3 rfl h3 rfl
      obtain ⟨x4, rfl, w4⟩ := g 4 f4 c4 rfl h4 rfl
      exact ⟨⟨x0, x1, x2, x3, x4⟩, rfl, w0, w1, w2, w3, w4⟩⟩

/-- A list that is read. -/
theorem open_rd {P : Program} {τ : FTy} {t e : TypeId} (ht : P.underlying t = some (.slice e)) (hτ : FlatAt P τ e) {H : Type} {enc : TypeId × Value → H} {W : World} {spare : Nat → Bool} {held : Bool} {fuel : Nat} {v : Value} {y : DataW H × List MemPlace}
    (h : DataW.trod enc P W 0 spare held fuel t [v] = some y) :
    ∃ xs : List τ.D, RdSl τ W v xs ∧ (∀ x ∈ xs, τ.wf x) ∧ ((y.1 = .nil ∧ xs = []) ∨ ∃ el sp, y.1 = .slice el sp ∧ el.length = xs.length) := by
  rcases Go.Deep.open_slice ht h with ⟨hv, hy⟩ | ⟨a, len, cap, m, n, D, Pl, hv, _, hl, hm, hmm, hy, hx⟩
  · simp only [List.cons.injEq, and_true] at hv
    refine ⟨[], ⟨none, 0, hv, ⟨by simp, by simp⟩, fun _ => ⟨rfl, rfl⟩, fun h => by simp at h⟩, by simp, .inl ⟨by rw [hy], rfl⟩⟩
  · simp only [List.cons.injEq, and_true] at hv
    have hlm : len ≤ m := by rw [hmm]; split <;> omega
    obtain ⟨hc, hread⟩ := hτ
    have each : ∀ i, i < len → ∃ x : τ.D, W.cells? 0 (a.add (i * τ.sz)) τ.sz = some (τ.cells x) ∧ τ.wf x := fun i hi => by
      obtain ⟨cs', h1, h2⟩ := hx i (by omega)
      obtain ⟨x, hx1, hx2⟩ := hread enc W 0 spare held n cs' _ h2
      rw [hc, hx1] at h1
      exact ⟨x, h1, hx2⟩
    haveI : Inhabited τ.D := ⟨τ.dflt⟩
    obtain ⟨f, hf⟩ := Go.Deep.choose_lt each
    have hlen : ((List.range len).map f).length = len := by simp
    refine ⟨(List.range len).map f, ⟨some a, cap, by rw [hlen]; exact hv, ⟨by rw [hlen]; simp only [maxLen] at hm; omega, by rw [hlen]; exact hl⟩, fun e => (by cases e), fun hp => ?_⟩, fun x hx => ?_, .inr ⟨_, _, by rw [hy], by simp⟩⟩
    · rw [hlen] at hp
      have hpos : 0 < τ.sz := by cases τ <;> simp [FTy.sz]
      obtain ⟨b, o, s⟩ := a
      have hs : s = none := by
        obtain ⟨h1, _⟩ := hf 0 hp
        obtain ⟨_, _, hcell⟩ := World.cells?_some h1
        have h2 := hcell 0 hpos
        rw [List.getElem?_eq_getElem (by rw [τ.len]; exact hpos)] at h2
        cases s with
        | none => rfl
        | some k =>
          exfalso
          simp only [Nat.zero_mul, Addr.add, if_true] at h2
          unfold World.cell? at h2
          simp only [Option.isSome_some, if_true] at h2
          split at h2 <;> cases h2
      subst hs
      refine ⟨b, o, rfl, fun j u hu => ?_⟩
      have hj : j < len * τ.sz := by
        have := (List.getElem?_eq_some_iff.1 hu).1
        rwa [flatMap_length, hlen] at this
      have hq : j / τ.sz < len := Nat.div_lt_of_lt_mul (by rw [Nat.mul_comm]; exact hj)
      have hr : j % τ.sz < τ.sz := Nat.mod_lt _ hpos
      have hjj : j = (j / τ.sz) * τ.sz + j % τ.sz := by rw [Nat.mul_comm]; exact (Nat.div_add_mod j τ.sz).symm
      obtain ⟨h1, _⟩ := hf (j / τ.sz) hq
      obtain ⟨_, _, hcell⟩ := World.cells?_some h1
      have h2 := hcell (j % τ.sz) hr
      rw [addr_add, addr_add, Nat.add_assoc, ← hjj] at h2
      rw [h2]
      have h3 := flatMap_get τ.cells τ.sz τ.len ((List.range len).map f) (j / τ.sz) (by simpa using hq) (j % τ.sz) hr
      rw [← hjj, hu] at h3
      rw [h3]
      simp
    · obtain ⟨i, hi, rfl⟩ := List.mem_map.1 hx
      exact (hf i (List.mem_range.1 hi)).2

/-- A row's values by place. -/
def rho (l : List (Nat × Value)) : Vl := fun c => ((l.find? fun p => p.1 == c).map Prod.snd).getD (.bool false)
theorem sat_rd0 {ρ : Vl} {W : World} {τ : FTy} {v : Value} {xs : List τ.D} (h : RdSl τ W v xs) : (Ch.rd false τ xs).sat (fun _ _ => False) ρ W v :=
  fun w' ha => rdSl_below h (below_of_agree0 ha _ (Nat.le_refl _))
/-- A law that is walked, as a call over whatever is read. -/
theorem law_calls {C : Cfg} {f : FuncId} {args : List SV} {H0 : Hp} (h : Fn C f args H0 (fun _ : Unit => True) (fun _ => .a (.v (.bool true))) (fun _ => [])) {ρ : Vl} {W : World} (hnd : (H0.map Prod.fst).Nodup) (hno : ∀ p ∈ H0, p.2.own = false)
    (hs : ∀ p ∈ H0, p.2.sat (fun _ _ => False) ρ W (ρ p.1)) : Calls C.P f (args.map (SV.den ρ)).toArray W fun e W' => e = .returned (.bool true) ∧ Below W.heap.size W W' := by
  refine (h.2 (amb0 W) ρ W rfl (fun _ hf => hf) rfl (holds_amb0 hnd hno hs)).mono fun e W' hr => ?_
  obtain ⟨_, ρ', _, rfl, hH⟩ := hr
  exact ⟨rfl, below_of_agree0 (w := W) hH.frame _ (Nat.le_refl _)⟩
theorem sized_agg {P : Program} {H : Type} {ts : List TypeId} {ds parts : List (DataW H)} (h : (DataW.weightsEach P ts ds).all (· ≤ reachBytes) = true) {j : Nat} {t : TypeId} {fs : Array Field} (ht : ts[j]? = some t) (hd : ds[j]? = some (.agg parts))
    (hu : P.underlying t = some (.struct fs)) : (DataW.weightsEach P (fs.toList.map (·.type)) parts).all (· ≤ reachBytes) = true :=
  List.all_eq_true.2 fun n hn => List.all_eq_true.1 h n (DataW.weights_mem_each ht hd n (by simpa [DataW.weights, hu] using hn))
theorem sized_rd {P : Program} {H : Type} {ts : List TypeId} {ds : List (DataW H)} (h : (DataW.weightsEach P ts ds).all (· ≤ reachBytes) = true) {j : Nat} {t e : TypeId} {y : DataW H} {α : Type} {xs : List α} (ht : ts[j]? = some t) (hd : ds[j]? = some y)
    (hu : P.underlying t = some (.slice e)) (hy : (y = .nil ∧ xs = []) ∨ ∃ el sp, y = .slice el sp ∧ el.length = xs.length) : xs.length * P.bytesOf e ≤ reachBytes := by
  rcases hy with ⟨_, rfl⟩ | ⟨el, sp, rfl, hl⟩
  · simp
  · have := sized_slice h ht hd hu
    rw [← hl]
    exact Nat.le_trans (Nat.mul_le_mul_right _ (Nat.le_add_right _ _)) this
/-- A struct of five numbers, by value. -/
theorem open_arc {P : Program} {t : TypeId} {fs : Array Field} (hs : P.underlying t = some (.struct fs)) (hτ : FlatAt P .arc t) {H : Type} {enc : TypeId × Value → H} {W : World} {base b0 : Nat} {r : Reach} {spare : Nat → Bool} {held : Bool} {v : Value} {d : DataW H} {p : List MemPlace}
    (hv : Value.okWide P W r b0 t v) (h : DataW.Trod enc P W base spare held t v d p) : ∃ x : ArcD, v = .agg x.cells.toArray ∧ FTy.arc.wf x := by
  obtain ⟨cs, rfl, hsz⟩ := okWide_struct hs hv
  obtain ⟨fuel, hf⟩ := h
  obtain ⟨x, hx, hw⟩ := hτ.2 enc W base spare held fuel _ _ hf
  refine ⟨x, ?_, hw⟩
  have : cs = x.cells.toArray := by apply Array.ext'; exact hx
  rw [this]
end Go.Proofs.Ytgbmhfbfcbjccaa
