/- The engine's walks that end in whatever a function's caller wants; range over a function. Conditions: none; plain definitions and theorems. -/
import Derived.Test.YtgbmhfbfcbjccaaEngO
namespace Go.Proofs.Ytgbmhfbfcbjccaa
set_option linter.unusedSimpArgs false
set_option linter.unusedVariables false
open Go.RowKit

section
variable {C : Cfg} {A : Amb} {N : Fm} {E : Env} {H : Hp} {R : Exit → Act → World → Prop}
/-- A piece of code from a state that is known, to whatever is wanted behind it. -/
def XF (C : Cfg) (A : Amb) (N : Fm) (c : Code) (E : Env) (H : Hp) (R : Exit → Act → World → Prop) : Prop :=
  ∀ ρ w a, Holds A ρ w H → EnvOk N ρ E a → c.wpIn C.F C.n C.P R a w
/-- Behind a first piece: what follows, or a return. -/
def ThenF (A : Amb) (N : Fm) (K : Env → Hp → Prop) (R : Exit → Act → World → Prop) : Exit → Env → Hp → Prop
  | .normal, E, H => K E H
  | e, E, H => ∀ ρ w a, Holds A ρ w H → EnvOk N ρ E a → R e a w
theorem XF_s {x y : Code} (h : ∀ K : Env → Hp → Prop, (∀ E H, XF C A N y E H R → K E H) → X C A N x E H (ThenF A N K R)) : XF C A N (.seq x y) E H R := by
  intro ρ w a h1 h2
  refine wpIn_seq (wpIn_mono (h (fun E H => XF C A N y E H R) (fun _ _ h => h) ρ w a h1 h2) fun e a w he => ?_)
  obtain ⟨ρ', E', H', g1, g2, g3⟩ := he
  cases e with
  | normal => exact g3 ρ' w a g1 g2
  | _ => exact g3 ρ' w a g1 g2
theorem XF_of_X {c : Code} {Q : Exit → Env → Hp → Prop} (h : X C A N c E H Q) (hq : ∀ e E H, Q e E H → ∀ ρ w a, Holds A ρ w H → EnvOk N ρ E a → R e a w) : XF C A N c E H R := by
  intro ρ w a h1 h2
  refine wpIn_mono (h ρ w a h1 h2) fun e a w he => ?_
  obtain ⟨ρ', E', H', g1, g2, g3⟩ := he
  exact hq e E' H' g3 ρ' w a g1 g2
/-- Two pieces as one, and what follows. -/
theorem XF_ss {x y z : Code} (h : XF C A N (.seq x y) E H (Exit.then (z.wpIn C.F C.n C.P R) R)) : XF C A N (.seq (.seq x y) z) E H R :=
  fun ρ w a h1 h2 => wpIn_seq (h ρ w a h1 h2)
theorem XF_block {id : Nat} {c : Code} (h : XF C A N c E H (Exit.inBlock id R)) : XF C A N (.block id c) E H R :=
  fun ρ w a h1 h2 => wpIn_block (h ρ w a h1 h2)
theorem XF_sub {c : Code} (σ : List (Nat × Nat)) (E1 : Env) (H1 : Hp) (hs : Sub σ E H E1 H1) (h : XF C A N c E1 H1 R) : XF C A N c E H R := by
  intro ρ w a h1 h2
  obtain ⟨ρ', g1, g2⟩ := hs.ok h1 h2
  exact h ρ' w a g1 g2

/-- What lies below n0 is as it was: the blocks that may turn then. -/
def fromN (n0 : Nat) (w : World) (b : Nat) : Prop := n0 ≤ b ∧ b < w.heap.size
/-- Round a piece of an iterator's run. -/
def ambN (n0 : Nat) (w : World) (pin : List (Nat × Value)) : Amb := ⟨w, fromN n0 w, fun _ => False, pin⟩
theorem pers_below {n0 : Nat} {w w' : World} {F : World → Prop} (h : Pers (fromN n0 w) w F) (hb : Below n0 w w') : Pers (fromN n0 w') w' F := by
  refine Pers.mono h ⟨hb.os, hb.tape, hb.output, hb.size, fun b hlt hn => hb.block b ?_⟩ fun b hb' => ?_
  · unfold fromN at hn; omega
  · rcases Nat.lt_or_ge b w.heap.size with h1 | h1
    · exact .inl ⟨hb'.1, h1⟩
    · exact .inr h1
/-- A place of memory that is known to lie in one's way. -/
def JP (J : World → Prop) : PerP where
  p := fun M w v => v.oneCell' = true ∧ Pers M w J
  mono := fun h ha hm => ⟨h.1, Pers.mono h.2 ha hm⟩
  one := fun h => h.1

theorem XF_cond {c : Operand} {x y : Code} {b : Bool} (hc : opv E c = some (.a (.v (.bool b)))) (ht : b = true → XF C A N x E H R) (hf : b = false → XF C A N y E H R) : XF C A N (.cond c x y) E H R := by
  intro ρ w a h1 h2
  have := opv_den h2 hc
  simp only [SV.den, At.den] at this
  exact wpIn_cond_split this (fun hb => ht hb ρ w a h1 h2) (fun hb => hf hb ρ w a h1 h2)
theorem XF_sc {c : Operand} {x y z : Code} {b : Bool} (hc : opv E c = some (.a (.v (.bool b)))) (ht : b = true → XF C A N x E H (Exit.then (z.wpIn C.F C.n C.P R) R)) (hf : b = false → XF C A N y E H (Exit.then (z.wpIn C.F C.n C.P R) R)) : XF C A N (.seq (.cond c x y) z) E H R :=
  fun ρ w a h1 h2 => wpIn_seq (XF_cond hc ht hf ρ w a h1 h2)
theorem XF_sb {id : Nat} {x z : Code} (h : XF C A N x E H (Exit.inBlock id (Exit.then (z.wpIn C.F C.n C.P R) R))) : XF C A N (.seq (.block id x) z) E H R :=
  fun ρ w a h1 h2 => wpIn_seq (wpIn_block (h ρ w a h1 h2))
theorem XF_skip (h : ∀ ρ w a, Holds A ρ w H → EnvOk N ρ E a → R .normal a w) : XF C A N .skip E H R := fun ρ w a h1 h2 => wpIn_skip (h ρ w a h1 h2)
theorem XF_ret (h : ∀ ρ w a, Holds A ρ w H → EnvOk N ρ E a → R .ret a w) : XF C A N .ret E H R := fun ρ w a h1 h2 => wpIn_ret (h ρ w a h1 h2)
theorem XF_exit {id : Nat} (h : ∀ ρ w a, Holds A ρ w H → EnvOk N ρ E a → R (.exit id) a w) : XF C A N (.exit id) E H R := fun ρ w a h1 h2 => wpIn_exit (h ρ w a h1 h2)

/-- One operation of a region, and those behind it. -/
theorem listIn_step {ops : Array Oper} {Q : Exit → Act → World → Prop} {o : Oper} {r : List Oper} {ρ : Vl} {w : World} {a : Act} {rest : Env → Hp → Prop} (hg : o.guard = none) (hr : runU C A N o rest E H) (h : Holds A ρ w H) (hE : EnvOk N ρ E a)
    (hn : ∀ ρ' w' a' E' H', Holds A ρ' w' H' → EnvOk N ρ' E' a' → rest E' H' → wpListIn C.F C.n C.P ops Q r a' w') : wpListIn C.F C.n C.P ops Q (o :: r) a w := by
  unfold wpListIn
  rw [if_pos (by simp [Region.wanted, hg])]
  exact runU_sound hr h hE fun ρ' w' a' E' H' g1 g2 _ g3 => hn ρ' w' a' E' H' g1 g2 g3

/-- A call of the loop's body, whatever comes of it. -/
theorem yield_sound {o : Oper} {f : Operand} {args : Array Operand} {ts : Array TypeId} {y : Nat} {l : List SV} {ρ : Vl} {w : World} {a : Act} {next : Act → World → Prop} {Q : Exit → Act → World → Prop} {Ry : Ending → World → Prop}
    (hE : EnvOk N ρ E a) (hop : o.op = .call { callee := .value f, args := args, argTypes := ts }) (hf : opv E f = some (.a (.v (.func (.yield y) #[] #[])))) (hl : allSome (args.toList.map (opv E)) = some l)
    (hy : YieldAt C.F (C.n - 1) C.P y (l.map (SV.den ρ)).toArray w Ry) (hn : ∀ e w', Ry e w' → ∃ v, e = .returned v ∧ next (a.put o.dst v) w') : o.wpIn C.F C.n C.P a w next Q := by
  unfold Oper.wpIn
  refine ⟨fun f _ => C.good.all f, ?_⟩
  rw [Oper.semAt_eq C.F.round a.eval o (by intro c hc; rw [hop] at hc; cases hc)]
  have hdep : ∀ {m : Nat}, C.F.depth.isSome = true → 1 ≤ m := fun h0 => by rw [C.good.dep] at h0; cases h0
  obtain ⟨fn, tmps, assign, body, hrun, hround⟩ := hy
  have hfe := opv_den hE hf
  simp only [SV.den, At.den] at hfe
  have harg := allSome_den hE hl
  have harg' : args.map a.eval = (l.map (SV.den ρ)).toArray := by apply Array.ext'; simpa using harg
  have he : (execOp a.eval o).run C.P w = .ok (.round y fn tmps assign body) w := by
    unfold execOp
    simp only [hop, resolve, hfe, Deferred.ofValue, invoke, Sem.run_bind, Sem.run_pure, Result.andThen_ok, Array.empty_append, harg', hrun]
  rw [he]
  refine ⟨hdep, hround.mono fun e w' he => ?_⟩
  obtain ⟨v, rfl, hv⟩ := hn e w' he
  exact hv

/-- Nobody writes anything. -/
def amb0 (w : World) : Amb := ⟨w, fun _ => False, fun _ => False, []⟩
/-- What is read, in a world of which that is known. -/
theorem holds_amb0 {ρ : Vl} {w : World} (hnd : (H.map Prod.fst).Nodup) (hno : ∀ p ∈ H, p.2.own = false) (hs : ∀ p ∈ H, p.2.sat (fun _ _ => False) ρ w (ρ p.1)) : Holds (amb0 w) ρ w H := by
  have hm : ∀ b, ¬ Mine ρ H b := by
    rintro b ⟨p, hp, ho, _⟩
    rw [hno p hp] at ho; cases ho
  refine ⟨Agree.refl _ _, hnd, fun p hp => ?_, fun p hp q hq hop => (by rw [hno p hp] at hop; cases hop), fun b hb => absurd hb (hm b), fun _ hf => hf.elim, fun _ hf => hf.elim, fun p hp => (by simp [amb0] at hp), fun p hp => (by simp [amb0] at hp)⟩
  refine Ch.sat_pers (hs p hp) (hno p hp) (fun g => Agree.refl _ _) (fun g b hb => .inl ?_) (fun _ _ => rfl)
  rcases hb with ⟨_, hb⟩ | hb
  · exact hb
  · exact hm b hb
theorem rdSl_below {τ : FTy} {w w' : World} {v : Value} {xs : List τ.D} (h : RdSl τ w v xs) (hb : Below w.heap.size w w') : RdSl τ w' v xs := by
  obtain ⟨A, cap, hv, hm, hn, hc⟩ := h
  refine ⟨A, cap, hv, hm, hn, fun hp => ?_⟩
  obtain ⟨b, off, hA, hcell⟩ := hc hp
  refine ⟨b, off, hA, fun j u hu => ?_⟩
  have h1 := hcell j u hu
  have hlt : b < w.heap.size := by
    unfold World.cell? at h1
    cases hb2 : w.heap[b]? with
    | none => simp [hb2] at h1
    | some o => exact (Array.getElem?_eq_some_iff.1 hb2).1
  rw [World.cell?_of_block (hb.block b hlt)]
  exact h1
end

/-- What is read lies as it lay. -/
theorem sat_far {M : Bool → Nat → Prop} {ρ : Vl} {w W : World} {v : Value} {ch : Ch} (h : ch.sat M ρ w v) (hk : (∃ g l, ch = .rbox g l) ∨ ∃ g τ xs, ch = .rd g τ xs) (hb : Below w.heap.size w W) : ch.sat (fun _ _ => False) ρ W v := by
  have hb' : ∀ w', Agree (fun _ => False) W w' → Below w.heap.size w w' := fun w' ha => hb.trans ⟨ha.os, ha.tape, ha.output, ha.size, fun b hlt => ha.block b (Nat.lt_of_lt_of_le hlt hb.size) fun hf => hf⟩
  rcases hk with ⟨g, l, rfl⟩ | ⟨g, τ, xs, rfl⟩
  · obtain ⟨b, o, hv, hP⟩ := h
    refine ⟨b, o, hv, fun w' ha j u hu => ?_⟩
    have h1 := Pers.now hP j u hu
    have hlt : b < w.heap.size := by
      unfold World.cell? at h1
      cases hb2 : w.heap[b]? with
      | none => simp [hb2] at h1
      | some ob => exact (Array.getElem?_eq_some_iff.1 hb2).1
    rw [World.cell?_of_block ((hb' w' ha).block b hlt)]
    exact h1
  · intro w' ha
    exact rdSl_below (Pers.now h) (hb' w' ha)
def farB (H : Hp) : Bool := H.all fun p => match p.2 with | .rbox _ _ => true | .rd _ _ _ => true | _ => false
theorem holds_far {A : Amb} {ρ : Vl} {w W : World} {H : Hp} (h : Holds A ρ w H) (hk : farB H = true) (hb : Below w.heap.size w W) : Holds (amb0 W) ρ W H := by
  have hk' : ∀ p ∈ H, (∃ g l, p.2 = .rbox g l) ∨ ∃ g τ xs, p.2 = .rd g τ xs := fun p hp => by
    have := List.all_eq_true.1 hk p hp
    cases hc : p.2 with
    | rbox g l => exact .inl ⟨g, l, rfl⟩
    | rd g τ xs => exact .inr ⟨g, τ, xs, rfl⟩
    | box l ty => rw [hc] at this; cases this
    | row τ e xs => rw [hc] at this; cases this
    | per g F => rw [hc] at this; cases this
  refine holds_amb0 h.nodup (fun p hp => ?_) fun p hp => sat_far (h.sat p hp) (hk' p hp) hb
  rcases hk' p hp with ⟨g, l, e⟩ | ⟨g, τ, xs, e⟩ <;> rw [e] <;> rfl
theorem below_of_agree0 {w w' : World} (h : Agree (fun _ => False) w w') (n : Nat) (hn : n ≤ w.heap.size) : Below n w w' := ⟨h.os, h.tape, h.output, h.size, fun b hb => h.block b (Nat.lt_of_lt_of_le hb hn) fun hf => hf⟩
theorem grown_of_agree0 {w w' : World} (h : Agree (fun _ => False) w w') : w.grownBy w' none := ⟨h.os, h.tape, h.output, h.size, fun b hb _ => h.block b hb fun hf => hf⟩

theorem env_args {ρ : Vl} (args : List SV) (N : Nat) (hN : args.length ≤ N) : EnvOk ⟨N, []⟩ ρ (argE 0 args) { tmps := (args.map (SV.den ρ)).toArray ++ Array.replicate (N - (args.map (SV.den ρ)).toArray.size) undef, defers := [] } := by
  refine ⟨rfl, by simp; omega, fun t x hx => ?_⟩
  obtain ⟨i, rfl, hi⟩ := argE_lk ρ args 0 t x hx
  have hlt := (List.getElem?_eq_some_iff.1 hi).1
  rw [Nat.zero_add, Array.getElem?_append_left (by simpa using hlt)]
  simp [hi]
/-- A call, by a walk of the function's body. -/
theorem calls_of_XF {C : Cfg} {A : Amb} {ρ : Vl} {w : World} {H : Hp} {f : FuncId} {fn : Func} {c : Code} {args : List SV} {R : Ending → World → Prop} (hwide : C.F = Fence.wide) (N : Nat) (hf : C.P.funcs[f]? = some fn) (hb : fn.body = some c) (hn : fn.ntmps = N)
    (hN : args.length ≤ N) (h : Holds A ρ w H) (hx : XF C A ⟨N, []⟩ c (argE 0 args) H (bodyPost C.P fn R)) : Calls C.P f (args.map (SV.den ρ)).toArray w R := by
  subst hn
  have h1 := hx ρ w _ h (env_args args fn.ntmps hN)
  rw [hwide] at h1
  exact calls_of_wp hf hb (wpIn_wide.1 h1)

def lentB (H : Hp) : Bool := H.all fun p => match p.2 with | .rbox g _ => !g | .rd g _ _ => !g | _ => false
/-- What is read, and one slice that outlives what is lent. -/
theorem holds_ambN {n0 : Nat} {pin : List (Nat × Value)} {ρ : Vl} {W : World} {H : Hp} (hh : Holds (amb0 W) ρ W H) (hl : lentB H = true) {c : Nat} {τ : FTy} {xs : List τ.D} (hc : hk H c = some (.rd false τ xs)) (hls : Pers (fromN n0 W) W fun w => RdSl τ w (ρ c) xs)
    (hp1 : ∀ p ∈ pin, ρ p.1 = p.2) (hp2 : ∀ p ∈ pin, p.1 < 100) : Holds (ambN n0 W pin) ρ W (hset H c (.rd true τ xs)) := by
  have hno : ∀ p ∈ hset H c (.rd true τ xs), p.2.own = false := fun p hp => by
    rcases mem_hset hh.nodup hp with rfl | ⟨hp, _⟩
    · rfl
    · have := List.all_eq_true.1 hl p hp
      cases hk : p.2 with
      | rbox g l => rfl
      | rd g τ xs => rfl
      | box l ty => rw [hk] at this; cases this
      | row τ e xs => rw [hk] at this; cases this
      | per g F => rw [hk] at this; cases this
  have hm : ∀ b, ¬ Mine ρ (hset H c (.rd true τ xs)) b := by
    rintro b ⟨p, hp, ho, _⟩
    rw [hno p hp] at ho; cases ho
  have hm0 : ∀ b, ¬ Mine ρ H b := by
    rintro b ⟨p, hp, ho, _⟩
    have := List.all_eq_true.1 hl p hp
    cases hk : p.2 <;> rw [hk] at this ho <;> first | cases this | cases ho
  refine ⟨Agree.refl _ _, by rw [hset_fst]; exact hh.nodup, fun p hp => ?_, fun p hp q hq hop => (by rw [hno p hp] at hop; cases hop), fun b hb => absurd hb (hm b), fun _ hf => hf.elim, fun b hb => hb.2, hp1, hp2⟩
  have h0 : ∀ b, tot (ambN n0 W pin) ρ (hset H c (.rd true τ xs)) false b → tot (amb0 W) ρ H false b := fun b hb => by
    rcases hb with ⟨h, _⟩ | hb
    · cases h
    · exact absurd hb (hm b)
  rcases mem_hset hh.nodup hp with rfl | ⟨hp, hne⟩
  · refine Pers.mono hls (Agree.refl _ _) fun b hb => .inl ?_
    rcases hb with ⟨_, hb⟩ | hb
    · exact hb
    · exact absurd hb (hm b)
  · have hs := hh.sat p hp
    have := List.all_eq_true.1 hl p hp
    cases hk : p.2 with
    | rbox g l =>
      rw [hk] at hs this
      have hg : g = false := by simpa using this
      subst hg
      obtain ⟨b, o, hv, hP⟩ := hs
      exact ⟨b, o, hv, Pers.mono hP (Agree.refl _ _) fun b hb => .inl (h0 b hb)⟩
    | rd g τ xs =>
      rw [hk] at hs this
      have hg : g = false := by simpa using this
      subst hg
      exact Pers.mono hs (Agree.refl _ _) fun b hb => .inl (h0 b hb)
    | box l ty => rw [hk] at this; cases this
    | row τ e xs => rw [hk] at this; cases this
    | per g F => rw [hk] at this; cases this

/-- A part of a slice that is read: its value, and that it is a part in whatever world. -/
theorem slice_rd {C : Cfg} {A : Amb} {N : Fm} {ρ : Vl} {w : World} {E : Env} {H : Hp} {a : Act} {o : Oper} {t : TypeId} {x : Operand} {lo hi mx : Option Operand} {c : Nat} {ti : TI} {g : Bool} {τ : FTy} {xs : List τ.D} {l hh m : Int}
    (h : Holds A ρ w H) (hE : EnvOk N ρ E a) (ho : o.op = .slice t x lo hi mx) (hx : opv E x = some (.a (.ref c))) (ht : tiOf C.P t = some ti) (hc : hk H c = some (.rd g τ xs)) (hl : bndV E 0 lo = some l) (hhh : bndV E (xs.length : Int) hi = some hh)
    (hm : bndV E (xs.length : Int) mx = some m) (hmh : ¬ (mx.isSome = true ∧ hi.isNone = true)) (hk : ti.knd = 3) (hsz : szOf C.P ti.elem = τ.sz) (g1 : 0 ≤ l) (g2 : l ≤ hh) (g3 : hh ≤ m) (g4 : m ≤ (xs.length : Int)) :
    ∃ v', (execOp a.eval o).run C.P w = .ok (.value v') w ∧ ∀ W, RdSl τ W (ρ c) xs → RdSl τ W v' ((xs.take hh.toNat).drop l.toNat) := by
  have hxe := opv_den hE hx
  simp only [SV.den, At.den] at hxe
  have hu := under_slice ht hk
  have hsat := h.sat _ (hk_mem hc)
  obtain ⟨B, cap, hv, ⟨hn1, hn2⟩, _⟩ := Pers.now hsat
  obtain ⟨m', b1, b2, hb⟩ := run_bounds (P := C.P) (w := w) hE xs.length rfl hn2 hl hhh hm hmh g1 g2 g3 g4
  simp only at hv
  refine ⟨Value.slice (if m' = l.toNat then B else B.map (·.add (l.toNat * τ.sz))) (hh.toNat - l.toNat) (m' - l.toNat), ?_, fun W hr => ?_⟩
  · rw [hv] at hxe
    obtain ⟨ie, hie⟩ := info_of hsz
    have hcell : C.P.cellsOf ti.elem = τ.sz := hsz
    simp [execOp, ho, Instr.sliceAt, Instr.slice, hxe, run_underlying hu, hb, run_sizeOf w hie, hcell]
  · rw [hv] at hr
    exact rdSl_part hr (by omega) b1 b2 (by omega)

section
variable {C : Cfg} {A : Amb} {N : Fm}
/-- The first operations of a region. -/
theorem ops_prefix {ops : Array Oper} {Q : Exit → Act → World → Prop} (K : Env → Hp → Prop) (l2 : List Oper) (hK : ∀ ρ w a E H, Holds A ρ w H → EnvOk N ρ E a → K E H → wpListIn C.F C.n C.P ops Q l2 a w) :
    ∀ (l : List Oper) (ρ : Vl) (w : World) (a : Act) (E : Env) (H : Hp), (l.all fun o => o.guard.isNone) = true → runOps C A N ops.toList K l E H → Holds A ρ w H → EnvOk N ρ E a → wpListIn C.F C.n C.P ops Q (l ++ l2) a w := by
  intro l
  induction l with
  | nil => intro ρ w a E H _ hr h hE; exact hK ρ w a E H h hE hr
  | cons o r ih =>
    intro ρ w a E H hall hr h hE
    simp only [List.all_cons, Bool.and_eq_true, Option.isNone_iff_eq_none] at hall
    unfold runOps at hr
    rw [hall.1] at hr
    refine listIn_step hall.1 hr h hE fun ρ' w' a' E' H' h1 h2 h3 => ih ρ' w' a' E' H' (by simpa using hall.2) h3 h1 h2
/-- A region, up to its n-th operation. -/
theorem XF_split {E : Env} {H : Hp} {Q : Exit → Act → World → Prop} {id : Nat} {ops : Array Oper} (n : Nat) (l2 : List Oper) (hl : ops.toList = ops.toList.take n ++ l2) (hg : ((ops.toList.take n).all fun o => o.guard.isNone) = true)
    (h : ∀ K : Env → Hp → Prop, (∀ E H, (∀ ρ w a, Holds A ρ w H → EnvOk N ρ E a → wpListIn C.F C.n C.P ops Q l2 a w) → K E H) → runOps C A N ops.toList K (ops.toList.take n) E H) : XF C A N (.region id ops false) E H Q := by
  intro ρ w a h1 h2
  refine wpIn_region_list ?_
  rw [hl]
  refine ops_prefix (fun E H => ∀ ρ w a, Holds A ρ w H → EnvOk N ρ E a → wpListIn C.F C.n C.P ops Q l2 a w) l2 (fun ρ w a E H g1 g2 g3 => g3 ρ w a g1 g2) _ ρ w a E H hg ?_ h1 h2
  exact h _ fun _ _ h => h
/-- The last operations of a region. -/
theorem list_X {E : Env} {H : Hp} {Q : Exit → Act → World → Prop} {ops : Array Oper} {l : List Oper} {ρ : Vl} {w : World} {a : Act} (h1 : Holds A ρ w H) (h2 : EnvOk N ρ E a)
    (h : ∀ K : Env → Hp → Prop, (∀ E H, (∀ ρ w a, Holds A ρ w H → EnvOk N ρ E a → Q .normal a w) → K E H) → runOps C A N ops.toList K l E H) : wpListIn C.F C.n C.P ops Q l a w :=
  runOps_sound ops (fun E H => ∀ ρ w a, Holds A ρ w H → EnvOk N ρ E a → Q .normal a w) Q (fun ρ w a E H g1 g2 g3 => g3 ρ w a g1 g2) l ρ w a E H (h _ fun _ _ h => h) h1 h2
end
end Go.Proofs.Ytgbmhfbfcbjccaa
