/- The engine's regions whose operations come up in any order. Conditions: none; plain definitions and theorems. -/
import Derived.Test.YtgbmhfbfcbjccaaEngK
namespace Go.Proofs.Ytgbmhfbfcbjccaa
set_option linter.unusedSimpArgs false
set_option linter.unusedVariables false
open Go.RowKit

section
variable {F : Fence} {m : Nat} {P : Program} {ops : Array Oper} {Q : Exit → Act → World → Prop} {S : World → Prop} {n : Nat}

def noDefer (ops : Array Oper) : Bool := ops.all fun o => match o.op with | .defer .. => false | _ => true
theorem noDefer_spec (h : noDefer ops = true) {j : Nat} {o : Oper} (hj : ops[j]? = some o) : ∀ c, o.op ≠ .defer c := by
  intro c hc
  unfold noDefer at h
  rw [Array.all_eq_true] at h
  obtain ⟨hlt, e⟩ := Array.getElem?_eq_some_iff.1 hj
  have := h j hlt
  rw [e, hc] at this
  simp at this

theorem yieldsIn {i : Nat} {o : Oper} {v : Value} {a : Act} (hG : Good F) (hi : ops[i]? = some o) (hd : ∀ c, o.op ≠ .defer c) (hy : YieldsIf P ops S o v a)
    {K : Act → World → Prop} {w : World} (hS : S w) (h : K (a.put o.dst v) w) : wpOpIn F m P ops Q i K a w := by
  unfold wpOpIn
  simp only [hi]
  rcases hy with ⟨hw, hv⟩ | ⟨hw, rfl⟩
  · rw [if_pos hw]
    unfold Oper.wpIn
    refine ⟨fun f _ => hG.all f, ?_⟩
    rw [Oper.semAt_eq _ _ _ hd, hv w hS]
    exact h
  · rw [if_neg (by simp [hw])]
    exact ⟨fun f _ => hG.all f, h⟩

theorem putIfIn {j : Nat} {oi oj : Oper} {v : Value} (hG : Good F) (hj : ops[j]? = some oj) (hap : oi.apart ops oj = true)
    (hsi : ∀ cs b, oi.op ≠ .select cs b) (hsj : ∀ cs b, oj.op ≠ .select cs b) (hd : ∀ c, oj.op ≠ .defer c)
    (hQ : ∀ c a w, Q (.panic c) (a.put oi.dst v) w → Q (.panic c) a w) {K : Act → World → Prop} {a : Act} {w : World}
    (hy : YieldsIf P ops S oi v a) (h : wpOpIn F m P ops Q j K (a.put oi.dst v) w) :
    wpOpIn F m P ops Q j (fun a' w' => YieldsIf P ops S oi v a' ∧ K (a'.put oi.dst v) w') a w := by
  obtain ⟨h1, h2, h3⟩ := Oper.apart_spec hap
  have keep : ∀ (a : Act), YieldsIf P ops S oi v a → ∀ u, YieldsIf P ops S oi v (a.put oj.dst u) := fun a hy u =>
    hy.of_same (execOp_put oi hsi a oj.dst u h3) (wanted_put oi a oj.dst u h3)
  have keepD : ∀ d, YieldsIf P ops S oi v { a with defers := d :: a.defers } := fun d => hy.of_same rfl rfl
  unfold wpOpIn at *
  simp only [hj] at *
  rw [wanted_put oj a oi.dst v h1] at h
  by_cases hw : Region.wanted oj (yielded ops a.tmps) = true
  · rw [if_pos hw] at h ⊢
    unfold Oper.wpIn at *
    refine ⟨fun f _ => hG.all f, ?_⟩
    have h := h.2
    rw [Oper.semAt_eq _ _ _ hd, execOp_put oj hsj a oi.dst v h1] at h
    rw [Oper.semAt_eq _ _ _ hd]
    generalize (execOp a.eval oj).run P w = r at *
    cases r with
    | ok x w' =>
      cases x <;> simp only [Oper.uponIn] at h ⊢
      case value u => exact ⟨keep a hy u, by rw [← Act.put_comm a v u h2]; exact h⟩
      case skip => exact ⟨keep a hy _, by rw [← Act.put_comm a v undef h2]; exact h⟩
      case defer d =>
        refine ⟨keep _ (keepD d) _, ?_⟩
        rw [← Act.put_comm _ v undef h2, ← Act.put_defers]
        exact h
      case enter f args =>
        refine ⟨h.1, CallsIn.mono h.2 fun e w'' he => ?_⟩
        cases e with
        | returned u => exact ⟨keep a hy u, by rw [← Act.put_comm a v u h2]; exact he⟩
        | panicked c => exact hQ _ _ _ he
        | outgrown => exact he
      case row row args => exact ⟨h.1, RowsIn.mono h.2 fun u w'' he => ⟨keep a hy u, by rw [← Act.put_comm a v u h2]; exact he⟩⟩
      case round l f tmps assign body =>
        refine ⟨h.1, RoundIn.mono h.2 fun e w'' he => ?_⟩
        cases e with
        | returned u => exact ⟨keep a hy u, by rw [← Act.put_comm a v u h2]; exact he⟩
        | panicked c => exact hQ _ _ _ he
        | outgrown => exact he
    | halt x w' =>
      cases x <;> simp only [Oper.uponIn] at h ⊢
      case panic u => exact hQ _ _ _ h
  · rw [if_neg hw] at h ⊢
    exact ⟨fun f _ => hG.all f, keep a hy _, by rw [← Act.put_comm a v undef h2]; exact h.2⟩

/-- Whatever comes up, and behind each of the first n operations S holds. -/
def wpG (F : Fence) (m : Nat) (P : Program) (ops : Array Oper) (Q : Exit → Act → World → Prop) (S : World → Prop) (n : Nat) : Nat → Array Bool → Act → World → Prop
  | 0, listed, a, w => Region.ready .any ops listed = [] ∧ Q .normal a w
  | f + 1, listed, a, w => (Region.ready .any ops listed = [] → Q .normal a w) ∧
    ∀ i ∈ Region.ready .any ops listed, wpOpIn F m P ops Q i (fun a' w' => (i < n → S w') ∧ wpG F m P ops Q S n f (listed.setIfInBounds i true) a' w') a w
theorem wpAny_of_G : ∀ (f : Nat) (listed : Array Bool) (a : Act) (w : World), wpG F m P ops Q S n f listed a w → wpAnyIn F m P .any ops Q f listed a w
  | 0, _, _, _, h => h
  | f + 1, _, _, _, h => ⟨h.1, fun i hi => wpOpIn_mono (fun a' w' h' => wpAny_of_G f _ a' w' h'.2) (h.2 i hi)⟩

/-- Each operation behind the first n waits for all of these. -/
def tailOK (ops : Array Oper) (n : Nat) : Bool :=
  (List.range ops.size).all fun j => decide (j < n) || (List.range n).all fun i => match ops[j]? with
    | some oj => oj.after.any fun e => Region.binds .any e && e.on == i
    | none => true
theorem tailOK_spec (h : tailOK ops n = true) {i j : Nat} {oj : Oper} (hj : ops[j]? = some oj) (hn : n ≤ j) (hi : i < n) : ∃ e ∈ oj.after, Region.binds .any e = true ∧ e.on = i := by
  have hlt := (Array.getElem?_eq_some_iff.1 hj).1
  have h1 := List.all_eq_true.1 h j (List.mem_range.2 hlt)
  simp only [Bool.or_eq_true, decide_eq_true_eq] at h1
  have h2 := List.all_eq_true.1 (h1.resolve_left (by omega)) i (List.mem_range.2 hi)
  rw [hj] at h2
  simp only [Array.any_eq_true, Bool.and_eq_true, beq_iff_eq] at h2
  obtain ⟨k, hk, h3, h4⟩ := h2
  exact ⟨oj.after[k], Array.getElem_mem hk, h3, h4⟩
theorem ready_tail (h : tailOK ops n = true) {listed : Array Bool} {i j : Nat} (hj : j ∈ Region.ready .any ops listed) (hn : n ≤ j) (hi : i < n) : listed.getD i false = true := by
  obtain ⟨_, oj, hoj, hall⟩ := mem_ready.1 hj
  obtain ⟨e, he, hb, rfl⟩ := tailOK_spec h hoj hn hi
  exact hall e he hb

theorem wpG_first {i : Nat} {oi : Oper} {v : Value} (hG : Good F) (hi : ops[i]? = some oi) (hin : i < n) (ht : tailOK ops n = true) (hnd : noDefer ops = true) (hsel : ∀ (j : Nat) (o : Oper) cs b, ops[j]? = some o → o.op ≠ .select cs b)
    (hQ : ∀ c a w, Q (.panic c) (a.put oi.dst v) w → Q (.panic c) a w) :
    ∀ (f : Nat) (listed : Array Bool) (a : Act) (w : World),
      (∀ j oj, ops[j]? = some oj → j ≠ i → listed.getD j true = false → (∀ e ∈ oj.after, Region.binds .any e = true → e.on ≠ i) → oi.apart ops oj = true) →
      i ∈ Region.ready .any ops listed → YieldsIf P ops S oi v a → S w →
      wpG F m P ops Q S n f (listed.setIfInBounds i true) (a.put oi.dst v) w → wpG F m P ops Q S n (f + 1) listed a w := by
  intro f
  induction f with
  | zero =>
    intro listed a w _ hr hy hS hw
    refine ⟨fun h => (by rw [h] at hr; cases hr), fun j hj => ?_⟩
    by_cases hji : j = i
    · subst hji; exact yieldsIn hG hi (noDefer_spec hnd hi) hy hS ⟨fun _ => hS, hw⟩
    · have := ready_mono hj hji
      rw [hw.1] at this; cases this
  | succ f ih =>
    intro listed a w hfree hr hy hS hw
    refine ⟨fun h => (by rw [h] at hr; cases hr), fun j hj => ?_⟩
    by_cases hji : j = i
    · subst hji; exact yieldsIn hG hi (noDefer_spec hnd hi) hy hS ⟨fun _ => hS, hw⟩
    · obtain ⟨hun, oj, hoj, hall⟩ := mem_ready.1 hj
      have hnl : listed.getD i false = false := by
        have h0 := (mem_ready.1 hr).1
        rcases Nat.lt_or_ge i listed.size with h' | h'
        · simp [h'] at h0 ⊢; exact h0
        · simp [Array.getElem?_eq_none h']
      have hjn : j < n := by
        rcases Nat.lt_or_ge j n with h | h
        · exact h
        · rw [ready_tail ht hj h hin] at hnl; cases hnl
      have hnot : ∀ e ∈ oj.after, Region.binds .any e = true → e.on ≠ i := fun e he hb heq => by
        have := hall e he hb
        rw [heq, hnl] at this; cases this
      have h2 := putIfIn hG hoj (hfree j oj hoj hji hun hnot) (fun cs b => hsel i oi cs b hi) (fun cs b => hsel j oj cs b hoj) (noDefer_spec hnd hoj) hQ hy (hw.2 j (ready_mono hj hji))
      refine wpOpIn_mono (fun a' w' h3 => ?_) h2
      obtain ⟨hy', hS', h4⟩ := h3
      refine ⟨hS', ih (listed.setIfInBounds j true) a' w' (fun k ok hk hki hunk hno => hfree k ok hk hki ?_ hno) (ready_mono hr (Ne.symm hji)) hy' (hS' hjn) ?_⟩
      · by_cases hjk : j = k
        · subst hjk; exact hun
        · rwa [getD_set_ne true hjk] at hunk
      · rwa [Array.setIfInBounds_comm _ _ hji]
end

/-! ### Plans of the order -/
inductive Plan where
  | done
  | take (i : Nat) (p : Plan)
  | alt (i : Nat) (p q : Plan)
  | stop
def Plan.ids : Plan → List Nat
  | .alt i _ q => i :: q.ids
  | _ => []
def Plan.depth : Plan → Nat
  | .done => 0
  | .take _ p => p.depth + 1
  | .alt _ p q => max (p.depth + 1) q.depth
  | .stop => 0
def Plan.ok (ops : Array Oper) (n : Nat) : Bool → Array Bool → Plan → Bool
  | b, listed, .done => !b && (Region.ready .any ops listed).isEmpty
  | b, listed, .take i p => !b && decide (i < n) && Region.free .any ops listed i && (Region.ready .any ops listed).contains i && Plan.ok ops n false (listed.setIfInBounds i true) p
  | b, listed, .alt i p q => (b || (Region.ready .any ops listed == i :: q.ids)) && Plan.ok ops n false (listed.setIfInBounds i true) p && Plan.ok ops n true listed q
  | b, _, .stop => b
def planOK (ops : Array Oper) (n : Nat) (p : Plan) : Bool :=
  Region.noSelect ops && noDefer ops && tailOK ops n && decide (p.depth ≤ ops.size) && Plan.ok ops n false (Array.replicate ops.size false) p

def keepsH : Hp → Hp → Prop
  | [], _ => True
  | (c, ch) :: r, H => hk H c = some ch ∧ keepsH r H
theorem keepsH_spec {Hs H : Hp} (h : keepsH Hs H) : ∀ p ∈ Hs, p ∈ H := by
  induction Hs with
  | nil => intro p hp; simp at hp
  | cons q r ih =>
    obtain ⟨c, ch⟩ := q
    intro p hp
    rcases List.mem_cons.1 hp with rfl | hp
    · exact hk_mem h.1
    · exact ih h.2 p hp

def takeU (C : Cfg) (N : Fm) (Hs : Hp) (o : Oper) (rest : Env → Hp → Prop) (E : Env) (H : Hp) : Prop :=
  stepK ((st C.P E Hs o.op).map fun x => (dOk N o.dst = true ∧ x.1, eput E o.dst x.2, H)) rest False
def guardG (ops : List Oper) (o : Oper) (Y Z : Env → Hp → Prop) (E : Env) (H : Hp) : Option (Nat × Bool) → Prop
  | none => Y E H
  | some (g, want) => gK ((gslot ops g).bind (lk E)) want Y Z E H
def runD (C : Cfg) (A : Amb) (N : Fm) (ops : List Oper) (Hs : Hp) (n : Nat) (K : Env → Hp → Prop) : Plan → Env → Hp → Prop
  | .done, E, H => K E H
  | .take i p, E, H => match nthO ops i with
    | none => False
    | some o => guardG ops o (takeU C N Hs o (runD C A N ops Hs n K p)) (skipU N o (runD C A N ops Hs n K p)) E H o.guard
  | .alt i p q, E, H => (match nthO ops i with
    | none => False
    | some o => guardG ops o (runU C A N o fun E' H' => (i < n → keepsH Hs H') ∧ runD C A N ops Hs n K p E' H') (skipU N o (runD C A N ops Hs n K p)) E H o.guard) ∧ runD C A N ops Hs n K q E H
  | .stop, _, _ => True

def restD (C : Cfg) (A : Amb) (N : Fm) (ops : List Oper) (Hs : Hp) (n : Nat) (K : Env → Hp → Prop) (i : Nat) (p : Plan) (E : Env) (H : Hp) : Prop := (i < n → keepsH Hs H) ∧ runD C A N ops Hs n K p E H
def takeO (C : Cfg) (N : Fm) (ops : List Oper) (Hs : Hp) (rest : Env → Hp → Prop) (E : Env) (H : Hp) : Option Oper → Prop
  | none => False
  | some o => guardG ops o (takeU C N Hs o rest) (skipU N o rest) E H o.guard
def altO (C : Cfg) (A : Amb) (N : Fm) (ops : List Oper) (rest rest' : Env → Hp → Prop) (E : Env) (H : Hp) : Option Oper → Prop
  | none => False
  | some o => guardG ops o (runU C A N o rest) (skipU N o rest') E H o.guard
section
variable (C : Cfg) (A : Amb) (N : Fm) (ops : List Oper) (Hs : Hp) (n : Nat) (K : Env → Hp → Prop) (i : Nat) (p q : Plan) (E : Env) (H : Hp) (o : Oper) (rest rest' Y Z : Env → Hp → Prop)
@[go_sem] theorem runD_done : runD C A N ops Hs n K .done E H = K E H := rfl
@[go_sem] theorem runD_stop : runD C A N ops Hs n K .stop E H = True := rfl
@[go_sem] theorem runD_take : runD C A N ops Hs n K (.take i p) E H = takeO C N ops Hs (runD C A N ops Hs n K p) E H (nthO ops i) := by
  rw [runD]; rfl
@[go_sem] theorem runD_alt : runD C A N ops Hs n K (.alt i p q) E H = (altO C A N ops (restD C A N ops Hs n K i p) (runD C A N ops Hs n K p) E H (nthO ops i) ∧ runD C A N ops Hs n K q E H) := by
  rw [runD]; rfl
@[go_sem] theorem takeO_some : takeO C N ops Hs rest E H (some o) = guardG ops o (takeU C N Hs o rest) (skipU N o rest) E H o.guard := rfl
@[go_sem] theorem altO_some : altO C A N ops rest rest' E H (some o) = guardG ops o (runU C A N o rest) (skipU N o rest') E H o.guard := rfl
@[go_sem] theorem guardG_none : guardG ops o Y Z E H none = Y E H := rfl
@[go_sem] theorem guardG_some (g : Nat) (want : Bool) : guardG ops o Y Z E H (some (g, want)) = gK ((gslot ops g).bind (lk E)) want Y Z E H := rfl
@[go_sem] theorem takeU_eq : takeU C N Hs o rest E H = stepK ((st C.P E Hs o.op).map fun x => (dOk N o.dst = true ∧ x.1, eput E o.dst x.2, H)) rest False := rfl
@[go_sem] theorem restD_eq : restD C A N ops Hs n K i p E H = ((i < n → keepsH Hs H) ∧ runD C A N ops Hs n K p E H) := rfl
end
def dropH (ex : List Nat) : Hp → Hp
  | [] => []
  | (c, ch) :: r => if ex.contains c then dropH ex r else (c, ch) :: dropH ex r
attribute [go_sem] shiftH SV.ren At.ren renL Pt.ren Ch.ren closed freshAll noOwn SV.ids Pt.ids At.ids idsL Ch.ids Ch.glob List.flatMap_nil List.flatMap_cons Option.isSome_some Option.isSome_none
attribute [go_sem] keepsH dropH List.contains_cons List.contains_nil true_implies false_implies

/-! ### Soundness -/
theorem sat_congr {M : Bool → Nat → Prop} {ρ ρ' : Vl} {w : World} {v : Value} {ch : Ch} (h : ch.sat M ρ' w v) (he : ∀ c, ch.men c = true → ρ' c = ρ c) : ch.sat M ρ w v := by
  cases ch with
  | box l ty =>
    have : denL ρ' l = denL ρ l := denL_upd fun c hc => he c hc
    simp only [Ch.sat] at h ⊢
    rw [← this]; exact h
  | rbox g l =>
    have : denL ρ' l = denL ρ l := denL_upd fun c hc => he c hc
    simp only [Ch.sat] at h ⊢
    rw [← this]; exact h
  | row τ e xs => exact h
  | rd g τ xs => exact h
  | per g F => exact h
theorem satH_congr {ρ ρ' : Vl} {w : World} {H : Hp} (h : SatH ρ' w H) (he : ∀ c, freshH c H = false → ρ' c = ρ c) : SatH ρ w H := by
  obtain ⟨M, hM⟩ := h
  refine ⟨M, fun p hp => ?_⟩
  have hf : ∀ c, (p.1 = c ∨ p.2.men c = true) → freshH c H = false := by
    intro c hc
    cases hfr : freshH c H with
    | false => rfl
    | true =>
      have := freshH_spec hfr p hp
      rcases hc with hc | hc
      · exact absurd hc this.1
      · rw [this.2] at hc; cases hc
  rw [← he p.1 (hf _ (.inl rfl))]
  exact sat_congr (hM p hp) fun c hc => he c (hf c (.inr hc))
theorem satH_sub {ρ : Vl} {w : World} {H Hs : Hp} (h : SatH ρ w H) (hs : ∀ p ∈ Hs, p ∈ H) : SatH ρ w Hs := by
  obtain ⟨M, hM⟩ := h
  exact ⟨M, fun p hp => hM p (hs p hp)⟩
theorem fresh_sub {c : Nat} {H Hs : Hp} (hs : ∀ p ∈ Hs, p ∈ H) (h : freshH c Hs = false) : freshH c H = false := by
  cases hf : freshH c H with
  | false => rfl
  | true =>
    have : freshH c Hs = true := List.all_eq_true.2 fun p hp => by
      have := freshH_spec hf p (hs p hp)
      simp [this.1, this.2]
    rw [this] at h; cases h

section
variable {A : Amb} {N : Fm} {C : Cfg} {ops : Array Oper} {n : Nat} {Hs : Hp} {K : Env → Hp → Prop} {ρ0 : Vl}
def drawQ (A : Amb) (N : Fm) (K : Env → Hp → Prop) : Exit → Act → World → Prop
  | .normal, a, w => ∃ ρ E H, Holds A ρ w H ∧ EnvOk N ρ E a ∧ K E H
  | _, _, _ => False

theorem yielded_of {ρ : Vl} {E : Env} {a : Act} (hE : EnvOk N ρ E a) {g : Nat} {s : SV} (hb : (gslot ops.toList g).bind (lk E) = some s) : yielded ops a.tmps g = match s.den ρ with | .bool b => some b | _ => none := by
  unfold yielded
  cases hsl : gslot ops.toList g with
  | none => rw [hsl] at hb; simp at hb
  | some t =>
    rw [hsl] at hb
    simp only [Option.bind_some] at hb
    have := hE.at_ t _ hb
    unfold gslot at hsl
    rw [nthO_eq, Array.getElem?_toList] at hsl
    rw [hsl]
    simp only [Option.bind_some, this]
    cases s.den ρ <;> rfl

/-- An operation under a guard: it is carried out, or it is not. -/
theorem guardG_cases {o : Oper} {Y Z : Env → Hp → Prop} {ρ : Vl} {E : Env} {H : Hp} {a : Act} (hE : EnvOk N ρ E a) (h : guardG ops.toList o Y Z E H o.guard) :
    (Region.wanted o (yielded ops a.tmps) = true ∧ Y E H) ∨ (Region.wanted o (yielded ops a.tmps) = false ∧ Z E H) := by
  cases hg : o.guard with
  | none => rw [hg] at h; exact .inl ⟨by simp [Region.wanted, hg], h⟩
  | some gw =>
    obtain ⟨g, want⟩ := gw
    rw [hg] at h
    simp only [guardG, gK] at h
    split at h
    · rename_i b hb
      have hy := yielded_of hE hb
      simp only [SV.den, At.den] at hy
      by_cases hbw : b = want
      · exact .inl ⟨by simp [Region.wanted, hg, hy, hbw], h.1 hbw⟩
      · exact .inr ⟨by simp [Region.wanted, hg, hy, hbw], h.2 hbw⟩
    · rename_i l hb
      have hy := yielded_of hE hb
      simp only [SV.den] at hy
      exact .inr ⟨by simp [Region.wanted, hg, hy], h⟩
    · exact h.elim

theorem runD_sound (hsel : Region.noSelect ops = true) (hnd : noDefer ops = true) (htl : tailOK ops n = true) : ∀ (p : Plan) (flag : Bool) (f : Nat) (listed : Array Bool) (ρ : Vl) (w : World) (a : Act) (E : Env) (H : Hp),
    Plan.ok ops n flag listed p = true → p.depth ≤ f → runD C A N ops.toList Hs n K p E H → Holds A ρ w H → EnvOk N ρ E a →
    ((∀ i, i < n → listed.getD i false = true) ∨ (keepsH Hs H ∧ ∀ c, freshH c Hs = false → ρ c = ρ0 c)) → (flag = true → ∀ i ∈ p.ids, i ∈ Region.ready .any ops listed) →
    (flag = false → wpG C.F C.n C.P ops (drawQ A N K) (fun w => SatH ρ0 w Hs) n f listed a w) ∧
    (flag = true → ∀ i ∈ p.ids, ∃ f', f = f' + 1 ∧ wpOpIn C.F C.n C.P ops (drawQ A N K) i (fun a' w' => (i < n → SatH ρ0 w' Hs) ∧ wpG C.F C.n C.P ops (drawQ A N K) (fun w => SatH ρ0 w Hs) n f' (listed.setIfInBounds i true) a' w') a w) := by
  intro p
  induction p with
  | done =>
    intro flag f listed ρ w a E H hok hd hr h hE hinv hrd
    refine ⟨fun _ => ?_, fun hf => by subst hf; simp [Plan.ok] at hok⟩
    simp only [Plan.ok, Bool.and_eq_true, List.isEmpty_iff] at hok
    have hq : drawQ A N K .normal a w := ⟨ρ, E, H, h, hE, hr⟩
    cases f with
    | zero => exact ⟨hok.2, hq⟩
    | succ f => exact ⟨fun _ => hq, by rw [hok.2]; simp⟩
  | stop =>
    intro flag f listed ρ w a E H hok hd hr h hE hinv hrd
    refine ⟨fun hf => by subst hf; simp [Plan.ok] at hok, fun _ i hi => by simp [Plan.ids] at hi⟩
  | take i p ih =>
    intro flag f listed ρ w a E H hok hd hr h hE hinv hrd
    refine ⟨fun _ => ?_, fun hf => by subst hf; simp [Plan.ok] at hok⟩
    simp only [Plan.ok, Bool.and_eq_true, decide_eq_true_eq] at hok
    obtain ⟨⟨⟨⟨_, hin⟩, hfree⟩, hready⟩, hokp⟩ := hok
    simp only [Plan.depth] at hd
    obtain ⟨f, rfl⟩ : ∃ f', f = f' + 1 := ⟨f - 1, by omega⟩
    unfold runD at hr
    split at hr
    case h_1 => exact hr.elim
    rename_i o ho
    rw [nthO_eq, Array.getElem?_toList] at ho
    have hready' : i ∈ Region.ready .any ops listed := by simpa using hready
    have hnl : ¬ ∀ k, k < n → listed.getD k false = true := fun hall => by
      have h1 := hall i hin
      have h0 := (mem_ready.1 hready').1
      rcases Nat.lt_or_ge i listed.size with h' | h'
      · simp [h'] at h0 h1; rw [h0] at h1; cases h1
      · simp [Array.getElem?_eq_none h'] at h1
    obtain ⟨hkeep, hρ⟩ := hinv.resolve_left hnl
    have hS : ∀ w', SatH ρ0 w' Hs → SatH ρ w' Hs := fun w' hw' => satH_congr hw' fun c hc => (hρ c hc).symm
    have hSw : SatH ρ0 w Hs := satH_congr (satH_sub h.satH (keepsH_spec hkeep)) hρ
    have fin : ∀ (v : Value) (E' : Env) (a' : Act), a' = a.put o.dst v → EnvOk N ρ E' a' → YieldsIf C.P ops (fun w => SatH ρ0 w Hs) o v a → runD C A N ops.toList Hs n K p E' H → wpG C.F C.n C.P ops (drawQ A N K) (fun w => SatH ρ0 w Hs) n (f + 1) listed a w := by
      intro v E' a' ha' hE' hy hr'
      subst ha'
      refine wpG_first C.good ho hin htl hnd (Region.noSelect_spec hsel) (fun c a w hq => hq.elim) f listed a w (Region.free_spec ho hfree) hready' hy hSw ?_
      exact (ih false f _ ρ w _ E' H hokp (by omega) hr' h hE' (.inr ⟨hkeep, hρ⟩) (by simp)).1 rfl
    rcases guardG_cases hE hr with ⟨hw, hr⟩ | ⟨hw, hr⟩
    · unfold takeU at hr
      cases hst : st C.P E Hs o.op with
      | none => rw [hst] at hr; exact hr.elim
      | some x =>
        rw [hst] at hr
        obtain ⟨vc, s⟩ := x
        simp only [Option.map_some, stepK] at hr
        obtain ⟨⟨hdd, hvc⟩, hr⟩ := hr
        exact fin (s.den ρ) _ _ rfl (eput_ok hE hdd s) (.inl ⟨hw, fun w' hw' => st_sound hE (hS w' hw') hst hvc⟩) hr
    · obtain ⟨hdd, hr⟩ := hr
      exact fin undef _ _ rfl (eput_ok hE hdd undefSV) (.inr ⟨hw, rfl⟩) hr
  | alt i p q ihp ihq =>
    intro flag f listed ρ w a E H hok hd hr h hE hinv hrd
    simp only [Plan.ok, Bool.and_eq_true, Bool.or_eq_true, beq_iff_eq] at hok
    obtain ⟨⟨hids, hokp⟩, hokq⟩ := hok
    simp only [Plan.depth] at hd
    obtain ⟨f, rfl⟩ : ∃ f', f = f' + 1 := ⟨f - 1, by omega⟩
    unfold runD at hr
    obtain ⟨hr, hrq⟩ := hr
    split at hr
    case h_1 => exact hr.elim
    rename_i o ho
    rw [nthO_eq, Array.getElem?_toList] at ho
    have hin : i ∈ Region.ready .any ops listed ∧ ∀ k ∈ q.ids, k ∈ Region.ready .any ops listed := by
      cases flag with
      | true =>
        have := hrd rfl
        exact ⟨this i (by simp [Plan.ids]), fun k hk => this k (by simp [Plan.ids, hk])⟩
      | false =>
        have := hids.resolve_left (by simp)
        rw [this]
        exact ⟨by simp, fun k hk => by simp [hk]⟩
    have hq := (ihq true (f + 1) listed ρ w a E H hokq (by omega) hrq h hE hinv fun _ => hin.2).2 rfl
    have hset : (∀ k, k < n → listed.getD k false = true) → ∀ k, k < n → (listed.setIfInBounds i true).getD k false = true := fun hall k hk => by
      by_cases hik : i = k
      · subst hik
        have := hall i hk
        have hlt : i < listed.size := by
          rcases Nat.lt_or_ge i listed.size with h' | h'
          · exact h'
          · simp [Array.getElem?_eq_none h'] at this
        simp [hlt]
      · rw [getD_set_ne false hik]; exact hall k hk
    have hlist : (∀ k, k < n → listed.getD k false = true) ∨ i < n ∨ i ∉ Region.ready .any ops listed := by
      by_cases hin : i < n
      · exact .inr (.inl hin)
      · by_cases hir : i ∈ Region.ready .any ops listed
        · exact .inl fun k hk => ready_tail htl hir (by omega) hk
        · exact .inr (.inr hir)
    have hone : i ∈ Region.ready .any ops listed → wpOpIn C.F C.n C.P ops (drawQ A N K) i (fun a' w' => (i < n → SatH ρ0 w' Hs) ∧ wpG C.F C.n C.P ops (drawQ A N K) (fun w => SatH ρ0 w Hs) n f (listed.setIfInBounds i true) a' w') a w := by
      intro hir
      have hSw : i < n → (keepsH Hs H ∧ ∀ c, freshH c Hs = false → ρ c = ρ0 c) := fun hin => hinv.resolve_left fun hall => by
        have h1 := hall i hin
        have h0 := (mem_ready.1 hir).1
        rcases Nat.lt_or_ge i listed.size with h' | h'
        · simp [h'] at h0 h1; rw [h0] at h1; cases h1
        · simp [Array.getElem?_eq_none h'] at h1
      unfold wpOpIn
      rw [ho]
      simp only
      rcases guardG_cases hE hr with ⟨hw, hr⟩ | ⟨hw, hr⟩
      · rw [if_pos hw]
        refine runU_sound hr h hE fun ρ' w' a' E' H' h1 h2 h3 h4 => ?_
        have hnew : i < n → (keepsH Hs H' ∧ ∀ c, freshH c Hs = false → ρ' c = ρ0 c) := fun hin => by
          obtain ⟨hk, hρ⟩ := hSw hin
          refine ⟨h4.1 hin, fun c hc => ?_⟩
          rw [h3 c fun hf => by have := fresh_sub (keepsH_spec hk) hc; rw [hf.2] at this; cases this]
          exact hρ c hc
        refine ⟨fun hin => satH_congr (satH_sub h1.satH (keepsH_spec (hnew hin).1)) (hnew hin).2, ?_⟩
        refine (ihp false f _ ρ' w' a' E' H' hokp (by omega) h4.2 h1 h2 ?_ (by simp)).1 rfl
        by_cases hin : i < n
        · exact .inr (hnew hin)
        · exact .inl (hset fun k hk => ready_tail htl hir (by omega) hk)
      · rw [if_neg (by simp [hw])]
        obtain ⟨hdd, hr⟩ := hr
        have hE' := eput_ok hE hdd undefSV
        refine ⟨fun f _ => C.good.all f, fun hin => satH_congr (satH_sub h.satH (keepsH_spec (hSw hin).1)) (hSw hin).2, (ihp false f _ ρ w _ _ H hokp (by omega) hr h hE' ?_ (by simp)).1 rfl⟩
        by_cases hin : i < n
        · exact .inr (hSw hin)
        · exact .inl (hset fun k hk => ready_tail htl hir (by omega) hk)
    have hir := hone hin.1
    refine ⟨fun hf => ?_, fun hf k hk => ?_⟩
    · subst hf
      have he := hids.resolve_left (by simp)
      refine ⟨fun h0 => (by rw [he] at h0; cases h0), fun k hk => ?_⟩
      rw [he] at hk
      rcases List.mem_cons.1 hk with rfl | hk
      · exact hir
      · obtain ⟨f', he', hk'⟩ := hq k hk
        have : f' = f := by omega
        subst this
        exact hk'
    · simp only [Plan.ids] at hk
      rcases List.mem_cons.1 hk with rfl | hk
      · exact ⟨f, rfl, hir⟩
      · exact hq k hk

/-- A region that asks the tape. -/
theorem X_draw {E : Env} {H : Hp} {id : Nat} {Q : Exit → Env → Hp → Prop} (hm : C.P.follows .mixedOrders = true) (n : Nat) (p : Plan) (Hs : Hp) (hp : planOK ops n p = true) (hk : keepsH Hs H)
    (h : runD C A N ops.toList Hs n (Q .normal) p E H) : X C A N (.region id ops true) E H Q := by
  intro ρ w a h1 h2
  simp only [planOK, Bool.and_eq_true, decide_eq_true_eq] at hp
  obtain ⟨⟨⟨⟨hsel, hnd⟩, htl⟩, hd⟩, hok⟩ := hp
  have hw : Holds A ρ { w with drawn := w.drawn + 1 } H := h1.calm (Agree.drew w)
  have := (runD_sound (K := Q .normal) (ρ0 := ρ) hsel hnd htl p false ops.size (Array.replicate ops.size false) ρ _ a E H hok hd h hw h2 (.inr ⟨hk, fun _ _ => rfl⟩) (by simp)).1 rfl
  refine wpIn_mono (wpIn_region_any hm (wpAny_of_G _ _ _ _ this)) fun e a w hq => ?_
  cases e with
  | normal =>
    obtain ⟨ρ', E', H', g1, g2, g3⟩ := hq
    exact ⟨ρ', E', H', g1, g2, g3⟩
  | _ => exact hq.elim
/-- Such a region, and what follows. -/
theorem X_ds {E : Env} {H : Hp} {id : Nat} {y : Code} {Q : Exit → Env → Hp → Prop} (hm : C.P.follows .mixedOrders = true) (n : Nat) (p : Plan) (ex : List Nat) {Hs : Hp} (hp : planOK ops n p = true) (_he : dropH ex H = Hs) (hk : keepsH Hs H)
    (h : ∀ K : Env → Hp → Prop, (∀ E H, X C A N y E H Q → K E H) → runD C A N ops.toList Hs n K p E H) : X C A N (.seq (.region id ops true) y) E H Q :=
  X_seq fun K hK => X_draw hm n p Hs hp hk (h K hK)
theorem X_dr1 {E : Env} {H : Hp} {id : Nat} {Q : Exit → Env → Hp → Prop} (hm : C.P.follows .mixedOrders = true) (n : Nat) (p : Plan) (ex : List Nat) {Hs : Hp} (hp : planOK ops n p = true) (_he : dropH ex H = Hs) (hk : keepsH Hs H)
    (h : ∀ K : Env → Hp → Prop, (∀ E H, Q .normal E H → K E H) → runD C A N ops.toList Hs n K p E H) : X C A N (.region id ops true) E H Q :=
  X_draw hm n p Hs hp hk (h (Q .normal) fun _ _ h => h)
/-- Such a region; what it leaves is one state, whatever the order. -/
theorem X_dcut {α : Type} {E : Env} {H : Hp} {id : Nat} {y : Code} {Q : Exit → Env → Hp → Prop} (J : α → Prop) (E1 : α → Env) (H1 : α → Hp) (hm : C.P.follows .mixedOrders = true) (n : Nat) (p : Plan) (ex : List Nat) {Hs : Hp} (hp : planOK ops n p = true)
    (_he : dropH ex H = Hs) (hk : keepsH Hs H) (h : ∀ K : Env → Hp → Prop, (∀ E H z σ, J z → Sub σ E H (E1 z) (H1 z) → K E H) → runD C A N ops.toList Hs n K p E H) (hn : ∀ z, J z → X C A N y (E1 z) (H1 z) Q) :
    X C A N (.seq (.region id ops true) y) E H Q :=
  X_cut J E1 H1 (fun K hK => X_draw hm n p Hs hp hk (h K fun E H z σ hJ hs => hK E H z σ hJ hs)) hn
end
end Go.Proofs.Ytgbmhfbfcbjccaa
