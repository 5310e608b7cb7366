/- The engine's run through a region's operations in the text's order, calls by contract, and soundness. Conditions: none; plain definitions and theorems. -/
import Derived.Test.YtgbmhfbfcbjccaaEngS
namespace Go.Proofs.Ytgbmhfbfcbjccaa
set_option linter.unusedSimpArgs false
set_option linter.unusedVariables false
open Go.RowKit

def dOk (N : Fm) : Option Nat → Bool
  | none => true
  | some d => decide (d < N.n)
def eput (E : Env) : Option Nat → SV → Env
  | none, _ => E
  | some d, s => (d, s) :: E

def pureStep (C : Cfg) (N : Fm) (E : Env) (H : Hp) (o : Oper) : Option (Prop × Env × Hp) :=
  (st C.P E H o.op).map fun x => (dOk N o.dst = true ∧ x.1, eput E o.dst x.2, H)
def effStep (N : Fm) (E : Env) (dst : Option Nat) (x : Option (Prop × SV × Hp)) : Option (Prop × Env × Hp) :=
  x.map fun x => (dOk N dst = true ∧ x.1, eput E dst x.2.1, x.2.2)
def appArgs (E : Env) (args : Array Operand) (ts : Array TypeId) : Option (SV × SV × TypeId) :=
  match args.toList, ts.toList with
  | [x, y], [t, t'] =>
    match opv E x, opv E y with
    | some sx, some sy => if t = t' then some (sx, sy, t) else none
    | _, _ => none
  | _, _ => none

/-- One operation that is no call of a function. -/
def step (C : Cfg) (N : Fm) (E : Env) (H : Hp) (o : Oper) : Option (Prop × Env × Hp) :=
  match o.op with
  | .alloc t => match o.dst with
    | some d => effStep N E (some d) (efAlloc C E H d t)
    | none => none
  | .box t x => match o.dst, opv E x with
    | some d, some s => effStep N E (some d) (efBox E H d t s)
    | _, _ => none
  | .store t x y => match o.dst, opv E x, opv E y, tiOf C.P t with
    | none, some (.a p), some s, some ti => effStep N E none (efStore H ti p s)
    | _, _, _, _ => none
  | .buildSlice t n parts => match o.dst with
    | some d => effStep N E (some d) (efBuildS C E H d t n parts)
    | none => none
  | .makeSlice t l c => match o.dst, opv E l, opv E c with
    | some d, some sl, some sc => effStep N E (some d) (efMake C E H d t sl sc)
    | _, _, _ => none
  | .slice t x lo hi mx => match o.dst with
    | some d => effStep N E (some d) (efSlice C E H d t x lo hi mx)
    | none => none
  | .call ⟨.builtin .append, args, ts⟩ => match o.dst, appArgs E args ts with
    | some d, some (sx, sy, t) => effStep N E (some d) (efAppend C E H d t sx sy)
    | _, _ => none
  | .call ⟨.value _, _, _⟩ => none
  | .call ⟨.invoke _ _, _, _⟩ => none
  | _ => pureStep C N E H o

def callable (P : Program) (f : FuncId) : Bool :=
  match P.funcs[f]? with
  | some fn => !(fn.name == "runtime.NumGoroutine") && fn.body.isSome
  | none => false

/-- A call, by whatever is known of it. -/
def CallOK (C : Cfg) (A : Amb) (N : Fm) (E : Env) (H : Hp) (d : Option Nat) (f : FuncId) (args : List SV) (K : Env → Hp → Prop) : Prop :=
  callable C.P f = true ∧ dOk N d = true ∧ ∀ ρ w a, Holds A ρ w H → EnvOk N ρ E a → Calls C.P f (args.map (SV.den ρ)).toArray w fun e w' =>
    ∃ ρ' s H', e = .returned (s.den ρ') ∧ Holds A ρ' w' H' ∧ EnvOk N ρ' E a ∧ Keep E H ρ ρ' ∧ K (eput E d s) H'

def allSome : List (Option SV) → Option (List SV)
  | [] => some []
  | some s :: l => (allSome l).map (s :: ·)
  | none :: _ => none
def capsSV (l : List Nat) : List SV := l.map fun c => .a (.ptr c 0)
/-- A call of the loop's body, by whatever is known of it. -/
def YieldOK (C : Cfg) (A : Amb) (N : Fm) (E : Env) (H : Hp) (d : Option Nat) (l : Nat) (args : List SV) (K : Env → Hp → Prop) : Prop :=
  dOk N d = true ∧ ∀ ρ w a, Holds A ρ w H → EnvOk N ρ E a → YieldAt C.F (C.n - 1) C.P l (args.map (SV.den ρ)).toArray w fun e w' =>
    ∃ ρ' s H', e = .returned (s.den ρ') ∧ Holds A ρ' w' H' ∧ EnvOk N ρ' E a ∧ Keep E H ρ ρ' ∧ K (eput E d s) H'
def XCall (C : Cfg) (A : Amb) (N : Fm) (E : Env) (H : Hp) (o : Oper) (K : Env → Hp → Prop) : Prop :=
  match o.op with
  | .call ⟨.value f, args, _⟩ =>
    match opv E f, allSome (args.toList.map (opv E)) with
    | some (.a (.fn (.func f) caps)), some l => CallOK C A N E H o.dst f (l ++ capsSV caps) K
    | some (.a (.v (.func (.yield y) ⟨[]⟩ ⟨[]⟩))), some l => YieldOK C A N E H o.dst y l K
    | _, _ => False
  | _ => False

def stepK (x : Option (Prop × Env × Hp)) (f : Env → Hp → Prop) (g : Prop) : Prop :=
  match x with
  | some (vc, E, H) => vc ∧ f E H
  | none => g
theorem stepK_some (vc : Prop) (E : Env) (H : Hp) (f : Env → Hp → Prop) (g : Prop) : stepK (some (vc, E, H)) f g = (vc ∧ f E H) := rfl
theorem stepK_none (f : Env → Hp → Prop) (g : Prop) : stepK none f g = g := rfl
theorem stepK_congr {x x' : Option (Prop × Env × Hp)} {f : Env → Hp → Prop} {g : Prop} (h : x = x') : stepK x f g = stepK x' f g := by rw [h]
def gB (b want : Bool) (Y Z : Prop) : Prop := (b = want → Y) ∧ (b ≠ want → Z)
theorem gB_tt (Y Z : Prop) : gB true true Y Z = Y := by simp [gB]
theorem gB_ff (Y Z : Prop) : gB false false Y Z = Y := by simp [gB]
theorem gB_tf (Y Z : Prop) : gB true false Y Z = Z := by simp [gB]
theorem gB_ft (Y Z : Prop) : gB false true Y Z = Z := by simp [gB]
theorem gB_congr {b b' : Bool} {want : Bool} {Y Z : Prop} (h : b = b') : gB b want Y Z = gB b' want Y Z := by rw [h]

def runU (C : Cfg) (A : Amb) (N : Fm) (o : Oper) (rest : Env → Hp → Prop) (E : Env) (H : Hp) : Prop :=
  stepK (step C N E H o) rest (XCall C A N E H o rest)
def skipU (N : Fm) (o : Oper) (rest : Env → Hp → Prop) (E : Env) (H : Hp) : Prop :=
  dOk N o.dst = true ∧ rest (eput E o.dst undefSV) H
def nthO : List Oper → Nat → Option Oper
  | [], _ => none
  | o :: _, 0 => some o
  | _ :: l, n + 1 => nthO l n
theorem nthO_eq (l : List Oper) (n : Nat) : nthO l n = l[n]? := by
  induction l generalizing n with
  | nil => simp [nthO]
  | cons o l ih => cases n <;> simp [nthO, ih]
def gslot (ops : List Oper) (g : Nat) : Option Nat := (nthO ops g).bind (·.dst)
def guardK (ops : List Oper) (g : Nat) (want : Bool) (E : Env) (Y Z : Prop) : Prop :=
  match (gslot ops g).bind (lk E) with
  | some (.a (.v (.bool b))) => gB b want Y Z
  | some (.t _) => Z
  | _ => False
theorem guardK_def (ops : List Oper) (g : Nat) (want : Bool) (E : Env) (Y Z : Prop) (b : Bool) (h : (gslot ops g).bind (lk E) = some (.a (.v (.bool b)))) : guardK ops g want E Y Z = gB b want Y Z := by
  simp only [guardK, h]

def runOps (C : Cfg) (A : Amb) (N : Fm) (ops : List Oper) (K : Env → Hp → Prop) : List Oper → Env → Hp → Prop
  | [], E, H => K E H
  | o :: r, E, H =>
    match o.guard with
    | none => runU C A N o (runOps C A N ops K r) E H
    | some (g, want) => guardK ops g want E (runU C A N o (runOps C A N ops K r) E H) (skipU N o (runOps C A N ops K r) E H)

/-! ### Soundness -/
section
variable {A : Amb} {ρ : Vl} {w : World} {H : Hp} {E : Env} {N : Fm} {a : Act} {C : Cfg}

theorem eput_ok (hE : EnvOk N ρ E a) {d : Option Nat} (hd : dOk N d = true) (s : SV) : EnvOk N ρ (eput E d s) (a.put d (s.den ρ)) := by
  cases d with
  | none => exact hE
  | some d => exact hE.put (by simpa [dOk] using hd) s

/-- What a step leaves, if it is one. -/
theorem step_sound {o : Oper} {vc : Prop} {E' : Env} {H' : Hp} (h : Holds A ρ w H) (hE : EnvOk N ρ E a) (hs : step C N E H o = some (vc, E', H')) (hvc : vc) :
    ∃ ρ' v w', ((execOp a.eval o).run C.P w = .ok (.value v) w' ∨ ((execOp a.eval o).run C.P w = .ok .skip w' ∧ v = undef)) ∧ Holds A ρ' w' H' ∧ EnvOk N ρ' E' (a.put o.dst v) ∧ Keep E H ρ ρ' := by
  have eff : ∀ (d : Nat) (x : Option (Prop × SV × Hp)), o.dst = some d → effStep N E (some d) x = some (vc, E', H') →
      (∀ vc' s H'', x = some (vc', s, H'') → vc' → ∃ ρ' w', (execOp a.eval o).run C.P w = .ok (.value (s.den ρ')) w' ∧ Holds A ρ' w' H'' ∧ EnvOk N ρ' E a ∧ Keep E H ρ ρ') →
      ∃ ρ' v w', ((execOp a.eval o).run C.P w = .ok (.value v) w' ∨ ((execOp a.eval o).run C.P w = .ok .skip w' ∧ v = undef)) ∧ Holds A ρ' w' H' ∧ EnvOk N ρ' E' (a.put o.dst v) ∧ Keep E H ρ ρ' := by
    intro d x hd hx hsnd
    simp only [effStep, Option.map_eq_some_iff, Prod.mk.injEq] at hx
    obtain ⟨⟨vc', s, H''⟩, hx, rfl, rfl, rfl⟩ := hx
    obtain ⟨ρ', w', h1, h2, h3, h4⟩ := hsnd vc' s H'' hx hvc.2
    refine ⟨ρ', _, w', .inl h1, h2, ?_, h4⟩
    rw [hd]
    exact eput_ok h3 hvc.1 s
  have pur : pureStep C N E H o = some (vc, E', H') → ∃ ρ' v w', ((execOp a.eval o).run C.P w = .ok (.value v) w' ∨ ((execOp a.eval o).run C.P w = .ok .skip w' ∧ v = undef)) ∧ Holds A ρ' w' H' ∧ EnvOk N ρ' E' (a.put o.dst v) ∧ Keep E H ρ ρ' := by
    intro hx
    simp only [pureStep, Option.map_eq_some_iff, Prod.mk.injEq] at hx
    obtain ⟨⟨vc', s⟩, hx, rfl, rfl, rfl⟩ := hx
    exact ⟨ρ, _, w, .inl (st_sound hE h.satH hx hvc.2), h, eput_ok hE hvc.1 s, keep_refl _ _ _⟩
  unfold step at hs
  split at hs
  · rename_i t hop
    split at hs
    · rename_i d hd
      exact eff d _ hd hs fun vc' s H'' hx hv => efAlloc_sound h hE hop hx hv
    · simp at hs
  · rename_i t x hop
    split at hs
    · rename_i d s hd hx
      exact eff d _ hd hs fun vc' s H'' hx' hv => efBox_sound h hE hop hx hx' hv
    · simp at hs
  · rename_i t x y hop
    split at hs
    · rename_i p s ti hd hx hy ht
      simp only [effStep, Option.map_eq_some_iff, Prod.mk.injEq] at hs
      obtain ⟨⟨vc', s', H''⟩, hx', rfl, rfl, rfl⟩ := hs
      obtain ⟨w', h1, h2, h3⟩ := efStore_sound h hE hop ht hx hy hx' hvc.2
      refine ⟨ρ, undef, w', .inr ⟨h1, rfl⟩, h2, ?_, keep_refl _ _ _⟩
      rw [hd]
      exact hE
    · simp at hs
  · rename_i t n parts hop
    split at hs
    · rename_i d hd
      exact eff d _ hd hs fun vc' s H'' hx hv => efBuildS_sound h hE hop hx hv
    · simp at hs
  · rename_i t l c hop
    split at hs
    · rename_i d sl sc hd hl hc
      exact eff d _ hd hs fun vc' s H'' hx hv => efMake_sound h hE hop hl hc hx hv
    · simp at hs
  · rename_i t x lo hi mx hop
    split at hs
    · rename_i d hd
      exact eff d _ hd hs fun vc' s H'' hx hv => efSlice_sound h hE hop hx hv
    · simp at hs
  · rename_i args ts hop
    split at hs
    · rename_i d sx sy t hd happ
      unfold appArgs at happ
      split at happ
      case h_2 => simp at happ
      rename_i x y t1 t2 hargs hts
      split at happ
      case h_2 => simp at happ
      rename_i sx' sy' hx hy
      split at happ
      case isFalse => simp at happ
      rename_i htt
      subst htt
      simp only [Option.some.injEq, Prod.mk.injEq] at happ
      obtain ⟨rfl, rfl, rfl⟩ := happ
      have ha : args = #[x, y] := by apply Array.ext'; simpa using hargs
      have ht : ts = #[t1, t1] := by apply Array.ext'; simpa using hts
      subst ha; subst ht
      exact eff d _ hd hs fun vc' s H'' hx' hv => efAppend_sound h hE hop hx hy hx' hv
    · simp at hs
  · simp at hs
  · simp at hs
  · exact pur hs

theorem allSome_den (hE : EnvOk N ρ E a) {args : List Operand} {l : List SV} (h : allSome (args.map (opv E)) = some l) : args.map a.eval = l.map (SV.den ρ) := by
  induction args generalizing l with
  | nil => simp [allSome] at h; subst h; rfl
  | cons x args ih =>
    simp only [List.map_cons] at h
    cases hx : opv E x with
    | none => rw [hx] at h; simp [allSome] at h
    | some s =>
      rw [hx] at h
      simp only [allSome, Option.map_eq_some_iff] at h
      obtain ⟨l', hl', rfl⟩ := h
      simp only [List.map_cons, opv_den hE hx, ih hl']

theorem run_callFunc {P : Program} {f : FuncId} (hc : callable P f = true) (args : Array Value) : (callFunc f args).run P w = .ok (.enter f args) w := by
  unfold callable at hc
  split at hc
  · rename_i fn hf
    simp only [Bool.and_eq_true, Bool.not_eq_true'] at hc
    have hb : fn.body.isNone = false := by
      cases hb : fn.body with
      | none => rw [hb] at hc; simp at hc
      | some c => rfl
    unfold callFunc
    simp only [Sem.run_bind, run_program, Result.andThen_ok, hf, hc.1, hb, Bool.false_eq_true, if_false, Sem.run_pure, Sem.run_ite]
  · simp at hc

theorem runU_plain {o : Oper} {rest : Env → Hp → Prop} (hr : runU C A N o rest E H) : ∀ c, o.op ≠ .defer c := by
  intro c hc
  unfold runU at hr
  have hs : step C N E H o = none := by simp [step, hc, pureStep, st]
  rw [hs, stepK_none] at hr
  simp [XCall, hc] at hr
/-- One operation, whatever it is. -/
theorem runU_sound {o : Oper} {rest : Env → Hp → Prop} (hr : runU C A N o rest E H) (h : Holds A ρ w H) (hE : EnvOk N ρ E a) {next : Act → World → Prop} {Q : Exit → Act → World → Prop}
    (hn : ∀ ρ' w' a' E' H', Holds A ρ' w' H' → EnvOk N ρ' E' a' → Keep E H ρ ρ' → rest E' H' → next a' w') : o.wpIn C.F C.n C.P a w next Q := by
  unfold Oper.wpIn
  refine ⟨fun f _ => C.good.all f, ?_⟩
  rw [Oper.semAt_eq C.F.round a.eval o (runU_plain hr)]
  unfold runU at hr
  have hdep : ∀ {m : Nat}, C.F.depth.isSome = true → 1 ≤ m := fun h0 => by rw [C.good.dep] at h0; cases h0
  cases hs : step C N E H o with
  | some x =>
    obtain ⟨vc, E', H'⟩ := x
    rw [hs, stepK_some] at hr
    obtain ⟨hvc, hr⟩ := hr
    obtain ⟨ρ', v, w', hrun, h1, h2, h3⟩ := step_sound h hE hs hvc
    rcases hrun with hrun | ⟨hrun, rfl⟩
    · rw [hrun]; exact hn _ _ _ _ _ h1 h2 h3 hr
    · rw [hrun]; exact hn _ _ _ _ _ h1 h2 h3 hr
  | none =>
    rw [hs, stepK_none] at hr
    unfold XCall at hr
    split at hr
    case h_2 => exact hr.elim
    rename_i f args ts hop
    split at hr
    case h_3 => exact hr.elim
    · rename_i f' caps l hf hl
      obtain ⟨hc, hd, hcall⟩ := hr
      have hcall' := hcall ρ w a h hE
      unfold execOp
      have hfe := opv_den hE hf
      simp only [SV.den, At.den] at hfe
      have harg := allSome_den hE hl
      have harg' : args.map a.eval = (l.map (SV.den ρ)).toArray := by apply Array.ext'; simpa using harg
      simp only [hop, resolve, hfe, Deferred.ofValue, invoke, Sem.run_bind, Sem.run_pure, Result.andThen_ok, Array.empty_append, run_callFunc hc]
      have hcat : args.map a.eval ++ (caps.map fun c => shiftV (ρ c) 0).toArray = ((l ++ capsSV caps).map (SV.den ρ)).toArray := by
        rw [harg']
        simp [capsSV, SV.den, At.den, Function.comp_def]
      rw [hcat]
      refine ⟨hdep, (C.good.lift hcall').mono fun e w' he => ?_⟩
      obtain ⟨ρ', s, H', rfl, h1, h2, h3, h4⟩ := he
      exact hn _ _ _ _ _ h1 (eput_ok h2 hd s) h3 h4
    · rename_i y l hf hl
      obtain ⟨hd, hy⟩ := hr
      obtain ⟨fn, tmps, assign, body, hrun, hround⟩ := hy ρ w a h hE
      have hfe := opv_den hE hf
      simp only [SV.den, At.den] at hfe
      have harg := allSome_den hE hl
      have harg' : args.map a.eval = (l.map (SV.den ρ)).toArray := by apply Array.ext'; simpa using harg
      have he : (execOp a.eval o).run C.P w = .ok (.round y fn tmps assign body) w := by
        unfold execOp
        simp only [hop, resolve, hfe, Deferred.ofValue, invoke, Sem.run_bind, Sem.run_pure, Result.andThen_ok, Array.empty_append, harg', hrun]
      rw [he]
      refine ⟨hdep, hround.mono fun e w' he => ?_⟩
      obtain ⟨ρ', s, H', rfl, h1, h2, h3, h4⟩ := he
      exact hn _ _ _ _ _ h1 (eput_ok h2 hd s) h3 h4

theorem runOps_sound (ops : Array Oper) (K : Env → Hp → Prop) (Q : Exit → Act → World → Prop) (hK : ∀ ρ w a E H, Holds A ρ w H → EnvOk N ρ E a → K E H → Q .normal a w) :
    ∀ (l : List Oper) (ρ : Vl) (w : World) (a : Act) (E : Env) (H : Hp), runOps C A N ops.toList K l E H → Holds A ρ w H → EnvOk N ρ E a → wpListIn C.F C.n C.P ops Q l a w := by
  intro l
  induction l with
  | nil => intro ρ w a E H hr h hE; exact hK ρ w a E H h hE hr
  | cons o r ih =>
    intro ρ w a E H hr h hE
    unfold runOps at hr
    unfold wpListIn
    cases hg : o.guard with
    | none =>
      rw [hg] at hr
      rw [if_pos (by simp [Region.wanted, hg])]
      exact runU_sound hr h hE fun ρ' w' a' E' H' h1 h2 _ h3 => ih ρ' w' a' E' H' h3 h1 h2
    | some gw =>
      obtain ⟨g, want⟩ := gw
      rw [hg] at hr
      simp only at hr
      unfold guardK at hr
      have hy : ∀ s, (gslot ops.toList g).bind (lk E) = some s → yielded ops a.tmps g = match s.den ρ with | .bool b => some b | _ => none := by
        intro s hb
        unfold yielded
        cases hsl : gslot ops.toList g with
        | none => rw [hsl] at hb; simp at hb
        | some t =>
          rw [hsl] at hb
          simp only [Option.bind_some] at hb
          have := hE.at_ t _ hb
          unfold gslot at hsl
          rw [nthO_eq, Array.getElem?_toList] at hsl
          rw [hsl]
          simp only [Option.bind_some, this]
          cases s.den ρ <;> rfl
      split at hr
      case h_3 => exact hr.elim
      case h_2 =>
        rename_i l hb
        have hy := hy _ hb
        simp only [SV.den] at hy
        rw [if_neg (by simp [Region.wanted, hg, hy])]
        obtain ⟨hd, hk⟩ := hr
        exact ⟨fun f _ => C.good.all f, ih ρ w _ _ _ hk h (eput_ok hE hd undefSV)⟩
      rename_i b hb
      have hy := hy _ hb
      simp only [SV.den, At.den] at hy
      by_cases hbw : b = want
      · rw [if_pos (by simp [Region.wanted, hg, hy, hbw])]
        exact runU_sound (hr.1 hbw) h hE fun ρ' w' a' E' H' h1 h2 _ h3 => ih ρ' w' a' E' H' h3 h1 h2
      · rw [if_neg (by simp [Region.wanted, hg, hy, hbw])]
        obtain ⟨hd, hk⟩ := hr.2 hbw
        exact ⟨fun f _ => C.good.all f, ih ρ w _ _ _ hk h (eput_ok hE hd undefSV)⟩

/-! ### Code -/
def Post (A : Amb) (N : Fm) (Q : Exit → Env → Hp → Prop) (e : Exit) (a : Act) (w : World) : Prop := ∃ ρ E H, Holds A ρ w H ∧ EnvOk N ρ E a ∧ Q e E H
def X (C : Cfg) (A : Amb) (N : Fm) (c : Code) (E : Env) (H : Hp) (Q : Exit → Env → Hp → Prop) : Prop :=
  ∀ ρ w a, Holds A ρ w H → EnvOk N ρ E a → c.wpIn C.F C.n C.P (Post A N Q) a w

theorem X_mono {c : Code} {Q Q' : Exit → Env → Hp → Prop} (h : X C A N c E H Q) (hq : ∀ e E H, Q e E H → Q' e E H) : X C A N c E H Q' :=
  fun ρ w a h1 h2 => wpIn_mono (h ρ w a h1 h2) fun e a w ⟨ρ', E', H', g1, g2, g3⟩ => ⟨ρ', E', H', g1, g2, hq _ _ _ g3⟩
theorem X_region {id : Nat} {ops : Array Oper} {Q : Exit → Env → Hp → Prop} (h : runOps C A N ops.toList (Q .normal) ops.toList E H) : X C A N (.region id ops false) E H Q :=
  fun ρ w a h1 h2 => wpIn_region_list (runOps_sound ops (Q .normal) _ (fun ρ w a E H g1 g2 g3 => ⟨ρ, E, H, g1, g2, g3⟩) ops.toList ρ w a E H h h1 h2)
/-- Behind a first piece of code, whatever it leaves. -/
def Then (K : Env → Hp → Prop) (Q : Exit → Env → Hp → Prop) : Exit → Env → Hp → Prop
  | .normal, E, H => K E H
  | e, E, H => Q e E H
theorem X_seq {x y : Code} {Q : Exit → Env → Hp → Prop} (h : ∀ K : Env → Hp → Prop, (∀ E H, X C A N y E H Q → K E H) → X C A N x E H (Then K Q)) : X C A N (.seq x y) E H Q := by
  intro ρ w a h1 h2
  refine wpIn_seq (wpIn_mono (h (fun E H => X C A N y E H Q) (fun _ _ h => h) ρ w a h1 h2) fun e a w he => ?_)
  obtain ⟨ρ', E', H', g1, g2, g3⟩ := he
  cases e with
  | normal => exact g3 ρ' w a g1 g2
  | _ => exact ⟨ρ', E', H', g1, g2, g3⟩
/-- A region, and what follows. -/
theorem X_rs {id : Nat} {ops : Array Oper} {y : Code} {Q : Exit → Env → Hp → Prop} (h : ∀ K : Env → Hp → Prop, (∀ E H, X C A N y E H Q → K E H) → runOps C A N ops.toList K ops.toList E H) : X C A N (.seq (.region id ops false) y) E H Q :=
  X_seq fun K hK => X_region (h K hK)
/-- A region, the last one of a piece. -/
theorem X_r1 {id : Nat} {ops : Array Oper} {Q : Exit → Env → Hp → Prop} (h : ∀ K : Env → Hp → Prop, (∀ E H, Q .normal E H → K E H) → runOps C A N ops.toList K ops.toList E H) : X C A N (.region id ops false) E H Q :=
  X_region (h (Q .normal) fun _ _ h => h)
theorem X_skip {Q : Exit → Env → Hp → Prop} (h : Q .normal E H) : X C A N .skip E H Q := fun ρ w a h1 h2 => wpIn_skip ⟨ρ, E, H, h1, h2, h⟩
theorem X_ret {Q : Exit → Env → Hp → Prop} (h : Q .ret E H) : X C A N .ret E H Q := fun ρ w a h1 h2 => wpIn_ret ⟨ρ, E, H, h1, h2, h⟩
theorem X_exit {id : Nat} {Q : Exit → Env → Hp → Prop} (h : Q (.exit id) E H) : X C A N (.exit id) E H Q := fun ρ w a h1 h2 => wpIn_exit ⟨ρ, E, H, h1, h2, h⟩
theorem X_cond {c : Operand} {x y : Code} {b : Bool} {Q : Exit → Env → Hp → Prop} (hc : opv E c = some (.a (.v (.bool b)))) (ht : b = true → X C A N x E H Q) (hf : b = false → X C A N y E H Q) : X C A N (.cond c x y) E H Q := by
  intro ρ w a h1 h2
  have := opv_den h2 hc
  exact wpIn_cond_split this (fun hb => ht hb ρ w a h1 h2) (fun hb => hf hb ρ w a h1 h2)
def InBlock (id : Nat) (Q : Exit → Env → Hp → Prop) : Exit → Env → Hp → Prop
  | .exit id', E, H => if id' = id then Q .normal E H else Q (.exit id') E H
  | e, E, H => Q e E H
theorem X_block {id : Nat} {c : Code} {Q : Exit → Env → Hp → Prop} (h : X C A N c E H (InBlock id Q)) : X C A N (.block id c) E H Q := by
  intro ρ w a h1 h2
  refine wpIn_block (wpIn_mono (h ρ w a h1 h2) fun e a w he => ?_)
  obtain ⟨ρ', E', H', g1, g2, g3⟩ := he
  cases e with
  | exit id' =>
    simp only [InBlock] at g3
    simp only [Exit.inBlock]
    split
    · rename_i e; rw [if_pos e] at g3; exact ⟨ρ', E', H', g1, g2, g3⟩
    · rename_i e; rw [if_neg e] at g3; exact ⟨ρ', E', H', g1, g2, g3⟩
  | _ => exact ⟨ρ', E', H', g1, g2, g3⟩

end
end Go.Proofs.Ytgbmhfbfcbjccaa
