/- The engine's pieces for iterators and ranges over them. Conditions: none; plain definitions and theorems. -/
import Derived.Test.YtgbmhfbfcbjccaaEngP
namespace Go.Proofs.Ytgbmhfbfcbjccaa
set_option linter.unusedSimpArgs false
set_option linter.unusedVariables false
open Go.RowKit

section
variable {C : Cfg} {A : Amb} {N : Fm} {E : Env} {H : Hp}
/-- One operation that yields a value, and those behind it. -/
theorem listIn_value {ops : Array Oper} {Q : Exit → Act → World → Prop} {o : Oper} {r : List Oper} {v : Value} {w w' : World} {a : Act} (hg : o.guard = none) (hd : ∀ c, o.op ≠ .defer c)
    (hr : (execOp a.eval o).run C.P w = .ok (.value v) w') (hn : wpListIn C.F C.n C.P ops Q r (a.put o.dst v) w') : wpListIn C.F C.n C.P ops Q (o :: r) a w := by
  unfold wpListIn
  rw [if_pos (by simp [Region.wanted, hg])]
  unfold Oper.wpIn
  refine ⟨fun f _ => C.good.all f, ?_⟩
  rw [Oper.semAt_eq C.F.round a.eval o hd, hr]
  exact hn
/-- A call of the loop's body, and the operations behind it. -/
theorem listIn_yield {ops : Array Oper} {Q : Exit → Act → World → Prop} {o : Oper} {r : List Oper} {f : Operand} {args : Array Operand} {ts : Array TypeId} {y : Nat} {l : List SV} {ρ : Vl} {w : World} {a : Act} {Ry : Ending → World → Prop}
    (hE : EnvOk N ρ E a) (hg : o.guard = none) (hop : o.op = .call { callee := .value f, args := args, argTypes := ts }) (hf : opv E f = some (.a (.v (.func (.yield y) #[] #[])))) (hl : allSome (args.toList.map (opv E)) = some l)
    (hy : YieldAt C.F (C.n - 1) C.P y (l.map (SV.den ρ)).toArray w Ry) (hn : ∀ e w', Ry e w' → ∃ v, e = .returned v ∧ wpListIn C.F C.n C.P ops Q r (a.put o.dst v) w') : wpListIn C.F C.n C.P ops Q (o :: r) a w := by
  unfold wpListIn
  rw [if_pos (by simp [Region.wanted, hg])]
  exact yield_sound hE hop hf hl hy hn

/-- A region, whatever is wanted behind it. -/
theorem XF_r1 {R : Exit → Act → World → Prop} {id : Nat} {ops : Array Oper} (h : ∀ K : Env → Hp → Prop, (∀ E H, (∀ ρ w a, Holds A ρ w H → EnvOk N ρ E a → R .normal a w) → K E H) → runOps C A N ops.toList K ops.toList E H) : XF C A N (.region id ops false) E H R :=
  fun ρ w a h1 h2 => wpIn_region_list (list_X h1 h2 h)

theorem holds_rd0 {ρ : Vl} {w : World} {c : Nat} {τ : FTy} {xs : List τ.D} (h : RdSl τ w (ρ c) xs) : Holds (amb0 w) ρ w [(c, .rd false τ xs)] :=
  holds_amb0 (by simp) (fun p hp => by simp only [List.mem_singleton] at hp; subst hp; rfl) fun p hp => by
    simp only [List.mem_singleton] at hp; subst hp
    exact fun w' ha => rdSl_below h (below_of_agree0 ha _ (Nat.le_refl _))
/-- Nobody writes anything; places that are known. -/
def ambP (w : World) (pin : List (Nat × Value)) : Amb := ⟨w, fun _ => False, fun _ => False, pin⟩
theorem holds_rdP {ρ : Vl} {w : World} {c : Nat} {τ : FTy} {xs : List τ.D} (v : Value) (h : RdSl τ w v xs) (hv : ρ c = v) (hc : c < 100) : Holds (ambP w [(c, v)]) ρ w [(c, .rd false τ xs)] := by
  subst hv
  have h0 := holds_rd0 (ρ := ρ) (c := c) h
  exact ⟨h0.frame, h0.nodup, h0.sat, h0.apart, h0.mine, h0.mw_m, h0.m_lt, fun p hp => by simp only [ambP, List.mem_singleton] at hp; subst hp; rfl, fun p hp => by simp only [ambP, List.mem_singleton] at hp; subst hp; exact hc⟩
theorem holds_nil0 (ρ : Vl) (w : World) : Holds (amb0 w) ρ w [] := holds_amb0 (by simp) (fun p hp => by simp at hp) fun p hp => by simp at hp

/-- A frame's slots, some of them. -/
def subR (ρ ρ' : Vl) (E : Env) : Env → Prop
  | [] => True
  | (t, s) :: r => (∃ y, lk E t = some y ∧ s.den ρ' = y.den ρ) ∧ subR ρ ρ' E r
theorem EnvOk.re {ρ ρ' : Vl} {E E' : Env} {a : Act} (h : EnvOk N ρ E a) (hs : subR ρ ρ' E E') : EnvOk N ρ' E' a := by
  refine ⟨h.defers, h.size, fun t x hx => ?_⟩
  induction E' with
  | nil => simp [lk] at hx
  | cons p r ih =>
    obtain ⟨k, s⟩ := p
    simp only [subR] at hs
    simp only [lk] at hx
    split at hx
    · rename_i e; subst e
      simp only [Option.some.injEq] at hx; subst hx
      obtain ⟨y, hy, e⟩ := hs.1
      rw [e]
      exact h.at_ k y hy
    · exact ih hs.2 hx
theorem below_agree0 {w w' W : World} {n0 : Nat} (hb : Below n0 W w) (ha : Agree (fun _ => False) w w') (hn : n0 ≤ w.heap.size) : Below n0 W w' := hb.trans (below_of_agree0 ha n0 hn)
end
end Go.Proofs.Ytgbmhfbfcbjccaa
