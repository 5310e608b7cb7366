/- The engine's functions by contract, and calls by contract. Conditions: none; plain definitions and theorems. -/
import Derived.Test.YtgbmhfbfcbjccaaEngI
namespace Go.Proofs.Ytgbmhfbfcbjccaa
set_option linter.unusedSimpArgs false
set_option linter.unusedVariables false
open Go.RowKit

/-! ### Results -/
def res1 (C : Cfg) (E : Env) (H : Hp) : ResultVar → Option Pt
  | .tmp t =>
    match lk E t with
    | some (.a x) => some (.a x)
    | some (.g l) => some (.g l)
    | _ => none
  | .cell p ty =>
    match lk E p, tiOf C.P ty with
    | some (.a (.ptr c o)), some ti =>
      match opLoad H ti (.ptr c o) with
      | some (_, .a x) => some (.a x)
      | some (_, .g l) => some (.g l)
      | _ => none
    | _, _ => none
def resL (C : Cfg) (E : Env) (H : Hp) : List ResultVar → Option (List Pt)
  | [] => some []
  | r :: l =>
    match res1 C E H r, resL C E H l with
    | some p, some ps => some (p :: ps)
    | _, _ => none
def ptsSV : List Pt → SV
  | [p] => p.sv
  | ps => .t ps
def resV (C : Cfg) (E : Env) (H : Hp) (rs : Array ResultVar) : Option SV := (resL C E H rs.toList).map ptsSV

section
variable {A : Amb} {ρ : Vl} {w : World} {H : Hp} {E : Env} {N : Fm} {a : Act} {C : Cfg}

theorem boxLoad_true {l : List At} {o : Nat} {ti : TI} {vc : Prop} {s : SV} (h : boxLoad l o ti = some (vc, s)) : vc := by
  unfold boxLoad at h
  split at h
  · simp only [Option.map_eq_some_iff, Prod.mk.injEq] at h
    obtain ⟨_, _, rfl, _⟩ := h; trivial
  · simp only [Option.map_eq_some_iff, Prod.mk.injEq] at h
    obtain ⟨_, _, rfl, _⟩ := h; trivial
theorem opLoad_ptr_true {c o : Nat} {ti : TI} {vc : Prop} {s : SV} (h : opLoad H ti (.ptr c o) = some (vc, s)) : vc := by
  simp only [opLoad] at h
  split at h
  · exact boxLoad_true h
  · exact boxLoad_true h
  · simp at h
def resRun (a : Act) : ResultVar → Sem Value
  | .tmp t => pure (a.tmps.getD t undef)
  | .cell q t => do loadVar t (← asAddr (a.tmps.getD q undef))

theorem res1_sound (hE : EnvOk N ρ E a) (hH : SatH ρ w H) {r : ResultVar} {p : Pt} (h : res1 C E H r = some p) :
    (resRun a r).run C.P w = .ok (p.den ρ) w := by
  unfold resRun
  cases r with
  | tmp t =>
    simp only [res1] at h
    split at h
    · rename_i x hx
      simp only [Option.some.injEq] at h; subst h
      have := hE.at_ t _ hx
      simp [Array.getD_eq_getD_getElem?, this, SV.den, Pt.den]
    · rename_i l hx
      simp only [Option.some.injEq] at h; subst h
      have := hE.at_ t _ hx
      simp [Array.getD_eq_getD_getElem?, this, SV.den, Pt.den]
    · simp at h
  | cell q t =>
    simp only [res1] at h
    split at h
    · rename_i c o ti hx ht
      have hq := hE.at_ q _ hx
      obtain ⟨b, o', hb⟩ := shiftV_form (ρ c) o
      have key : ∀ vc s, opLoad H ti (.ptr c o) = some (vc, s) → (loadVar t ⟨b, o', none⟩).run C.P w = .ok (s.den ρ) w := by
        intro vc s hl
        have := opLoad_sound (P := C.P) (t := t) hH ht hl (opLoad_ptr_true hl)
        simp only [At.den, hb, Instr.loadAt, Instr.sureAddr, Sem.run_bind, Sem.run_pure, Result.andThen_ok] at this
        exact this
      have hav : (asAddr (a.tmps.getD q undef)).run C.P w = .ok ⟨b, o', none⟩ w := by
        simp only [Array.getD_eq_getD_getElem?, hq, Option.getD_some, SV.den, At.den, hb]; rfl
      simp only [Sem.run_bind]
      rw [hav]
      simp only [Result.andThen_ok]
      split at h
      · rename_i vc x hl
        simp only [Option.some.injEq] at h; subst h
        exact key _ _ hl
      · rename_i vc l hl
        simp only [Option.some.injEq] at h; subst h
        exact key _ _ hl
      · simp at h
    · simp at h

theorem resL_sound (hE : EnvOk N ρ E a) (hH : SatH ρ w H) : ∀ {rs : List ResultVar} {ps : List Pt}, resL C E H rs = some ps →
    (rs.mapM (resRun a)).run C.P w = .ok (ps.map (Pt.den ρ)) w := by
  intro rs
  induction rs with
  | nil => intro ps h; simp [resL] at h; subst h; simp
  | cons r rs ih =>
    intro ps h
    simp only [resL] at h
    split at h
    · rename_i p ps' hp hps
      simp only [Option.some.injEq] at h; subst h
      have h1 := res1_sound (C := C) hE hH hp
      have h2 := ih hps
      simp only [List.mapM_cons, Sem.run_bind, List.map_cons]
      rw [h1]
      simp only [Result.andThen_ok]
      rw [h2]
      simp
    · simp at h

theorem resV_sound (hE : EnvOk N ρ E a) (hH : SatH ρ w H) {fn : Func} {s : SV} (h : resV C E H fn.results = some s) : (results fn a.tmps).run C.P w = .ok (s.den ρ) w := by
  simp only [resV, Option.map_eq_some_iff] at h
  obtain ⟨ps, hps, rfl⟩ := h
  have h1 := resL_sound (C := C) hE hH hps
  have e : results fn a.tmps = (do let vs ← fn.results.mapM (resRun a); pure (if h : vs.size = 1 then vs[0] else .tuple vs)) := by
    unfold results resRun
    rfl
  rw [e, Array.mapM_eq_mapM_toList]
  simp only [Sem.run_bind, Sem.run_map, h1, Result.andThen_ok, Sem.run_pure]
  congr 1
  match ps with
  | [] => simp [ptsSV, SV.den]
  | [p] => simp [ptsSV, Pt.sv_den]
  | p :: q :: r => simp [ptsSV, SV.den]
end

/-! ### Functions by contract -/
/-- Called with these, the function answers by one of those values, and leaves what they speak of; nothing that was there turns. -/
def Fn (C : Cfg) (f : FuncId) (args : List SV) (H0 : Hp) {α : Type} (φ : α → Prop) (s1 : α → SV) (H1 : α → Hp) : Prop :=
  callable C.P f = true ∧ ∀ A ρ w, A.w0 = w → (∀ b, ¬ A.mw b) → A.pin = [] → Holds A ρ w H0 → Calls C.P f (args.map (SV.den ρ)).toArray w fun e w' =>
    ∃ x ρ', φ x ∧ e = .returned ((s1 x).den ρ') ∧ Holds A ρ' w' (H1 x)

def argE : Nat → List SV → Env
  | _, [] => []
  | k, s :: r => (k, s) :: argE (k + 1) r
/-- A value and what it speaks of, as another one. -/
def Ent (s : SV) (H : Hp) (s' : SV) (H' : Hp) : Prop := ∀ A ρ w, (∀ b, ¬ A.mw b) → A.pin = [] → Holds A ρ w H → ∃ ρ', s.den ρ = s'.den ρ' ∧ Holds A ρ' w H'
theorem ent_sub {s s' : SV} {H H' : Hp} (σ : List (Nat × Nat)) (h : Sub σ [(0, s)] H [(0, s')] H') : Ent s H s' H' := by
  intro A ρ w hmw hpin g1
  obtain ⟨k1, k2, k3, k4, k5⟩ := h
  simp only [subE, lk, if_true, Option.some.injEq] at k1
  refine ⟨fun c => ρ (rnL σ c), ?_, ?_⟩
  · rw [k1.1, SV.den_ren]
  · refine g1.view k2 k3 k4 g1.frame (fun b hb => .inl ⟨rfl, hb⟩) (fun b hb => ?_) g1.mw_m g1.m_lt (fun p hp => ?_) g1.pin_lt
    · obtain ⟨p, hp, ho, hbb⟩ := hb
      obtain ⟨ch', hk', hpr⟩ := subH_spec k2 p hp
      exact g1.mine b ⟨_, hk_mem hk', prov_own hpr (by rw [Ch.own_ren]; exact ho), hbb⟩
    · rw [rnL_low k5 (g1.pin_lt p hp)]; exact g1.pin p hp
theorem ent_trans {s s' s'' : SV} {H H' H'' : Hp} (h : Ent s H s' H') (k : Ent s' H' s'' H'') : Ent s H s'' H'' := by
  intro A ρ w hmw hpin g
  obtain ⟨ρ1, e1, g1⟩ := h A ρ w hmw hpin g
  obtain ⟨ρ2, e2, g2⟩ := k A ρ1 w hmw hpin g1
  exact ⟨ρ2, e1.trans e2, g2⟩
theorem ent_toRd {s : SV} {H : Hp} {c : Nat} {τ : FTy} {e : TypeId} {xs : List τ.D} (hc : hk H c = some (.row τ e xs)) : Ent s H s (hset H c (.rd true τ xs)) :=
  fun _ ρ _ hmw _ g => ⟨ρ, rfl, g.toRd hmw hc⟩
/-- At the end: the results are those of some x. -/
def RetQ (C : Cfg) (fn : Func) {α : Type} (φ : α → Prop) (s1 : α → SV) (H1 : α → Hp) : Exit → Env → Hp → Prop
  | .normal, E, H => ∃ x s, φ x ∧ resV C E H fn.results = some s ∧ Ent s H (s1 x) (H1 x)
  | .ret, E, H => ∃ x s, φ x ∧ resV C E H fn.results = some s ∧ Ent s H (s1 x) (H1 x)
  | _, _, _ => False

theorem argE_lk (ρ : Vl) : ∀ (l : List SV) (k t : Nat) (x : SV), lk (argE k l) t = some x → ∃ i, t = k + i ∧ l[i]? = some x := by
  intro l
  induction l with
  | nil => intro k t x h; simp [argE, lk] at h
  | cons s r ih =>
    intro k t x h
    simp only [argE, lk] at h
    split at h
    · rename_i e; subst e
      exact ⟨0, rfl, by simpa using h⟩
    · obtain ⟨i, rfl, hi⟩ := ih (k + 1) t x h
      exact ⟨i + 1, by omega, by simpa using hi⟩

theorem Fn_of_X' {C : Cfg} {f : FuncId} {fn : Func} {c : Code} {args args' : List SV} {H0 : Hp} {α β : Type} {φ : α → Prop} {s1 : α → SV} {H1 : α → Hp} (J : β → Prop) (H0' : β → Hp)
    (hwide : C.F = Fence.wide) (N : Nat) (hf : C.P.funcs[f]? = some fn) (hb : fn.body = some c) (hn : fn.ntmps = N) (hc : callable C.P f = true) (hN : args'.length ≤ N)
    (hopen : ∀ A ρ w, Holds A ρ w H0 → ∃ y ρ', J y ∧ args'.map (SV.den ρ') = args.map (SV.den ρ) ∧ Holds A ρ' w (H0' y))
    (hX : ∀ A, (∀ b, ¬ A.mw b) → A.pin = [] → ∀ y, J y → X C A ⟨N, []⟩ c (argE 0 args') (H0' y) (RetQ C fn φ s1 H1)) : Fn C f args H0 φ s1 H1 := by
  subst hn
  refine ⟨hc, fun A ρ0 w hw hmw hpin h0 => ?_⟩
  obtain ⟨y, ρ, hJ, hden, h⟩ := hopen A ρ0 w h0
  rw [← hden]
  have hE : EnvOk ⟨fn.ntmps, []⟩ ρ (argE 0 args') { tmps := (args'.map (SV.den ρ)).toArray ++ Array.replicate (fn.ntmps - (args'.map (SV.den ρ)).toArray.size) undef, defers := [] } := by
    refine ⟨rfl, by simp; omega, fun t x hx => ?_⟩
    obtain ⟨i, rfl, hi⟩ := argE_lk ρ args' 0 t x hx
    have hlt := (List.getElem?_eq_some_iff.1 hi).1
    rw [Nat.zero_add, Array.getElem?_append_left (by simpa using hlt)]
    simp [hi]
  have hx := hX A hmw hpin y hJ ρ w _ h hE
  rw [hwide] at hx
  refine calls_of_wp hf hb (wp_mono (wpIn_wide.1 hx) fun e a w' he => ?_)
  obtain ⟨ρ', E', H', g1, g2, g3⟩ := he
  have key : (∃ x s, φ x ∧ resV C E' H' fn.results = some s ∧ Ent s H' (s1 x) (H1 x)) → a.defers = [] ∧ ∃ v, (results fn a.tmps).run C.P w' = .ok v w' ∧
      ∃ x ρ', φ x ∧ Ending.returned v = .returned ((s1 x).den ρ') ∧ Holds A ρ' w' (H1 x) := by
    rintro ⟨x, s, hx, hs, hent⟩
    obtain ⟨ρ2, e2, g4⟩ := hent A ρ' w' hmw hpin g1
    exact ⟨g2.defers, s.den ρ', resV_sound (C := C) g2 g1.satH hs, x, ρ2, hx, by rw [e2], g4⟩
  cases e with
  | normal => exact key g3
  | ret => exact key g3
  | _ => exact g3.elim
theorem Fn_of_X {C : Cfg} {f : FuncId} {fn : Func} {c : Code} {args : List SV} {H0 : Hp} {α : Type} {φ : α → Prop} {s1 : α → SV} {H1 : α → Hp}
    (hwide : C.F = Fence.wide) (N : Nat) (hf : C.P.funcs[f]? = some fn) (hb : fn.body = some c) (hn : fn.ntmps = N) (hc : callable C.P f = true) (hN : args.length ≤ N)
    (hX : ∀ A, (∀ b, ¬ A.mw b) → A.pin = [] → X C A ⟨N, []⟩ c (argE 0 args) H0 (RetQ C fn φ s1 H1)) : Fn C f args H0 φ s1 H1 :=
  Fn_of_X' (fun _ : Unit => True) (fun _ => H0) hwide N hf hb hn hc hN (fun A ρ w h => ⟨(), ρ, trivial, rfl, h⟩) fun A h1 h2 _ _ => hX A h1 h2

/-! ### Calls by contract -/
def At.ids : At → List Nat
  | .v _ => []
  | .ref c => [c]
  | .ptr c _ => [c]
  | .elem c _ _ _ => [c]
  | .fn _ l => l
def idsL (l : List At) : List Nat := l.flatMap At.ids
def Pt.ids : Pt → List Nat
  | .a x => x.ids
  | .g l => idsL l
def SV.ids : SV → List Nat
  | .a x => x.ids
  | .g l => idsL l
  | .t l => l.flatMap Pt.ids
def Ch.ids : Ch → List Nat
  | .box l _ => idsL l
  | .rbox _ l => idsL l
  | _ => []
def Ch.glob : Ch → Bool
  | .rd g _ _ => g
  | .rbox g _ => g
  | .per g _ => g
  | _ => true
/-- Values and chunks that speak of these chunks alone; what is only read is so for good. -/
def closed (s : SV) (H : Hp) : Bool := s.ids.all (fun c => (hk H c).isSome) && H.all fun p => p.2.glob && p.2.ids.all fun c => (hk H c).isSome
def shiftH (b : Nat) (H : Hp) : Hp := H.map fun p => (p.1 + b, p.2.ren (· + b))
def freshAll (b : Nat) (E : Env) (H H1 : Hp) : Bool := H1.all fun p => freshE (p.1 + b) E && freshH (p.1 + b) H
def noOwn (H : Hp) : Bool := H.all fun p => !p.2.own

theorem At.men_ids {c : Nat} {x : At} (h : x.men c = true) : c ∈ x.ids := by
  cases x <;> simp_all [At.men, At.ids]
theorem menL_ids {c : Nat} {l : List At} (h : menL c l = true) : c ∈ idsL l := by
  simp only [menL, List.any_eq_true] at h
  obtain ⟨x, hx, hm⟩ := h
  exact List.mem_flatMap.2 ⟨x, hx, At.men_ids hm⟩
theorem Pt.men_ids {c : Nat} {x : Pt} (h : x.men c = true) : c ∈ x.ids := by
  cases x with
  | a x => exact At.men_ids h
  | g l => exact menL_ids h
theorem SV.men_ids {c : Nat} {x : SV} (h : x.men c = true) : c ∈ x.ids := by
  cases x with
  | a x => exact At.men_ids h
  | g l => exact menL_ids h
  | t l =>
    simp only [SV.men, List.any_eq_true] at h
    obtain ⟨p, hp, hm⟩ := h
    exact List.mem_flatMap.2 ⟨p, hp, Pt.men_ids hm⟩
theorem Ch.men_ids {c : Nat} {x : Ch} (h : x.men c = true) : c ∈ x.ids := by
  cases x <;> simp only [Ch.men] at h
  · exact menL_ids h
  · simp at h
  · simp at h
  · exact menL_ids h
  · simp at h

theorem hk_isSome {H : Hp} {c : Nat} (h : (hk H c).isSome = true) : c ∈ H.map Prod.fst := by
  obtain ⟨ch, hc⟩ := Option.isSome_iff_exists.1 h
  exact List.mem_map.2 ⟨_, hk_mem hc, rfl⟩

/-- What a call has left, beside what was known. -/
theorem Holds.merge {A A1 : Amb} {ρ ρ1 ρ2 : Vl} {w w1 : World} {H H1 : Hp} {b : Nat} (h : Holds A ρ w H) (h1 : Holds A1 ρ1 w1 H1) (hw0 : A1.w0 = w) (hm : ∀ b, A1.m b ↔ tot A ρ H true b) (hmw : ∀ b, ¬ A1.mw b)
    (hb : 100 ≤ b) (hcl : ∀ p ∈ H1, p.2.glob = true ∧ ∀ c ∈ p.2.ids, c ∈ H1.map Prod.fst) (hfr : ∀ p ∈ H1, freshH (p.1 + b) H = true)
    (h2 : ∀ c ∈ H1.map Prod.fst, ρ2 (c + b) = ρ1 c) (h2' : ∀ c, (∀ p ∈ H1, p.1 + b ≠ c) → ρ2 c = ρ c) : Holds A ρ2 w1 (shiftH b H1 ++ H) := by
  have hag : Agree (fun _ => False) w w1 := by
    have := h1.frame
    rw [hw0] at this
    exact this.mono fun i _ hi => hmw i hi
  have hne : ∀ q ∈ H, ∀ p ∈ H1, p.1 + b ≠ q.1 ∧ q.2.men (p.1 + b) = false := fun q hq p hp => by
    have := freshH_spec (hfr p hp) q hq
    exact ⟨fun e => this.1 e.symm, this.2⟩
  have hρH : ∀ q ∈ H, ρ2 q.1 = ρ q.1 := fun q hq => h2' _ fun p hp => (hne q hq p hp).1
  have hmem : ∀ q ∈ shiftH b H1, ∃ p ∈ H1, q = (p.1 + b, p.2.ren (· + b)) := fun q hq => by
    obtain ⟨p, hp, rfl⟩ := List.mem_map.1 hq
    exact ⟨p, hp, rfl⟩
  have hρ1 : ∀ p ∈ H1, ρ2 (p.1 + b) = ρ1 p.1 := fun p hp => h2 _ (List.mem_map.2 ⟨p, hp, rfl⟩)
  have hmine : ∀ x, Mine ρ2 (shiftH b H1 ++ H) x → Mine ρ1 H1 x ∨ Mine ρ H x := by
    rintro x ⟨q, hq, ho, hbx⟩
    rcases List.mem_append.1 hq with hq | hq
    · obtain ⟨p, hp, rfl⟩ := hmem q hq
      simp only [Ch.own_ren] at ho
      simp only [hρ1 p hp] at hbx
      exact .inl ⟨p, hp, ho, hbx⟩
    · rw [hρH q hq] at hbx
      exact .inr ⟨q, hq, ho, hbx⟩
  have hmine1 : ∀ x, Mine ρ1 H1 x → w.heap.size ≤ x := fun x hx => by
    rcases h1.mine x hx with h0 | h0
    · rw [hw0] at h0; exact h0
    · exact absurd h0 (hmw x)
  refine ⟨h.frame.trans (hag.mono fun _ _ hf => hf.elim), ?_, ?_, ?_, ?_, h.mw_m, h.m_lt, fun p hp => ?_, h.pin_lt⟩
  · rw [List.map_append, List.nodup_append]
    refine ⟨?_, h.nodup, ?_⟩
    · have := h1.nodup
      simp only [shiftH, List.map_map]
      have e : (H1.map (Prod.fst ∘ fun p : Nat × Ch => (p.1 + b, p.2.ren (· + b)))) = (H1.map Prod.fst).map (· + b) := by simp [Function.comp_def]
      rw [e]
      exact List.Pairwise.map _ (fun x y hxy e => hxy (by omega)) this
    · intro x hx y hy e
      obtain ⟨q, hq, rfl⟩ := List.mem_map.1 hx
      obtain ⟨q', hq', rfl⟩ := List.mem_map.1 hy
      obtain ⟨p, hp, rfl⟩ := hmem q hq
      exact (hne q' hq' p hp).1 e
  · intro q hq
    rcases List.mem_append.1 hq with hq | hq
    · obtain ⟨p, hp, rfl⟩ := hmem q hq
      simp only
      rw [Ch.sat_ren, hρ1 p hp]
      have hsp := h1.sat p hp
      have hids : ∀ c, p.2.men c = true → ρ2 (c + b) = ρ1 c := fun c hc => h2 c ((hcl p hp).2 c (Ch.men_ids hc))
      by_cases ho : p.2.own = true
      · exact Ch.sat_own hsp ho (fun _ _ => rfl) hids
      · have hg := (hcl p hp).1
        have htr : ∀ x, tot A ρ2 (shiftH b H1 ++ H) true x → tot A1 ρ1 H1 true x := by
          rintro x (⟨_, hx⟩ | hx)
          · exact .inl ⟨rfl, (hm x).2 (.inl ⟨rfl, hx⟩)⟩
          · rcases hmine x hx with h0 | h0
            · exact .inr h0
            · exact .inl ⟨rfl, (hm x).2 (.inr h0)⟩
        cases hch : p.2 with
        | box l ty => rw [hch] at ho; simp [Ch.own] at ho
        | row τ e xs => rw [hch] at ho; simp [Ch.own] at ho
        | rd g τ xs =>
          rw [hch] at hsp hg
          simp only [Ch.glob] at hg; subst hg
          exact Pers.mono hsp (Agree.refl _ _) fun x hx => .inl (htr x hx)
        | rbox g l =>
          rw [hch] at hsp hg hids
          simp only [Ch.glob] at hg; subst hg
          obtain ⟨b', o, hv, hP⟩ := hsp
          refine ⟨b', o, hv, ?_⟩
          rw [denL_upd (l := l) (ρ := ρ1) (ρ' := fun c => ρ2 (c + b)) (by simpa [Ch.men] using hids)]
          exact Pers.mono hP (Agree.refl _ _) fun x hx => .inl (htr x hx)
        | per g F =>
          rw [hch] at hsp hg
          simp only [Ch.glob] at hg; subst hg
          exact F.mono hsp (Agree.refl _ _) fun x hx => .inl (htr x hx)
    · rw [hρH q hq]
      have hsq := h.sat q hq
      have hmen : ∀ c, q.2.men c = true → ρ2 c = ρ c := fun c hc => h2' c fun p hp e => by
        subst e; rw [(hne q hq p hp).2] at hc; cases hc
      by_cases ho : q.2.own = true
      · exact Ch.sat_own hsq ho (fun x hx => hag.block x (Ch.own_lt hsq ho hx) fun hf => hf) hmen
      · refine Ch.sat_pers hsq (by simpa using ho) (fun g => hag.mono fun _ _ hf => hf.elim) (fun g x hx => ?_) hmen
        rcases hx with hx | hx
        · exact .inl (.inl hx)
        · rcases hmine x hx with h0 | h0
          · exact .inr (hmine1 x h0)
          · exact .inl (.inr h0)
  · have cross : ∀ p ∈ H1, ∀ q ∈ H, p.2.own = true → q.2.own = true → ∀ x, blk (ρ1 p.1) = some x → blk (ρ q.1) ≠ some x := by
      intro p hp q hq hop hoq x hx hx'
      have h0 := hmine1 x ⟨p, hp, hop, hx⟩
      have := Ch.own_lt (h.sat q hq) hoq hx'
      omega
    intro p hp q hq hop hoq hpq x hx
    rcases List.mem_append.1 hp with hp | hp <;> rcases List.mem_append.1 hq with hq | hq
    · obtain ⟨p', hp', rfl⟩ := hmem p hp
      obtain ⟨q', hq', rfl⟩ := hmem q hq
      simp only [Ch.own_ren] at hop hoq
      simp only [hρ1 p' hp'] at hx
      simp only [hρ1 q' hq']
      exact h1.apart p' hp' q' hq' hop hoq (fun e => hpq (by simp [e])) x hx
    · obtain ⟨p', hp', rfl⟩ := hmem p hp
      simp only [Ch.own_ren] at hop
      simp only [hρ1 p' hp'] at hx
      rw [hρH q hq]
      exact cross p' hp' q hq hop hoq x hx
    · obtain ⟨q', hq', rfl⟩ := hmem q hq
      simp only [Ch.own_ren] at hoq
      simp only [hρ1 q' hq']
      rw [hρH p hp] at hx
      exact fun hx' => cross q' hq' p hp hoq hop x hx' hx
    · rw [hρH p hp] at hx; rw [hρH q hq]
      exact h.apart p hp q hq hop hoq hpq x hx
  · intro x hx
    rcases hmine x hx with h0 | h0
    · exact .inl (Nat.le_trans h.frame.size (hmine1 x h0))
    · exact h.mine x h0
  · rw [h2' _ fun q hq e => by have := h.pin_lt p hp; omega]
    exact h.pin p hp

/-- A call of a function that has a contract. -/
theorem callOK {C : Cfg} {A : Amb} {N : Fm} {E : Env} {H : Hp} {d : Option Nat} {f : FuncId} {args args0 : List SV} {K : Env → Hp → Prop} {H0 : Hp} {α : Type} {φ : α → Prop} {s1 : α → SV} {H1 : α → Hp}
    (hfn : Fn C f args0 H0 φ s1 H1) (σ : List (Nat × Nat)) (b : Nat) (hb : 100 ≤ b) (hd : dOk N d = true) (hargs : args = args0.map (SV.ren (rnL σ))) (hsub : subH (rnL σ) H H0) (hnd : nodupB (H0.map Prod.fst) = true) (hno : noOwn H0 = true)
    (hK : ∀ x, φ x → closed (s1 x) (H1 x) = true ∧ freshAll b E H (H1 x) = true ∧ K (eput E d ((s1 x).ren (· + b))) (shiftH b (H1 x) ++ H)) : CallOK C A N E H d f args K := by
  refine ⟨hfn.1, hd, fun ρ w a h hE => ?_⟩
  have hnoown : ∀ p ∈ H0, p.2.own = false := fun p hp => by simpa using List.all_eq_true.1 hno p hp
  have hnomine : ∀ x, ¬ Mine (fun c => ρ (rnL σ c)) H0 x := by
    rintro x ⟨p, hp, ho, _⟩
    rw [hnoown p hp] at ho; cases ho
  let A1 : Amb := ⟨w, tot A ρ H true, fun _ => False, []⟩
  have hview : Holds A1 (fun c => ρ (rnL σ c)) w H0 := h.view (A1 := A1) hsub hnd (by
      simp only [sepIds, List.all_eq_true]
      intro q hq
      simp [hnoown q hq]) (Agree.refl _ _) (fun b hb => hb) (fun x hx => absurd hx (hnomine x)) (fun _ hf => hf.elim)
      (fun x hx => by
        rcases hx with ⟨_, hx⟩ | hx
        · exact h.tot_lt (.inl hx)
        · exact h.tot_lt (.inr hx)) (fun p hp => by simp [A1] at hp) (fun p hp => by simp [A1] at hp)
  have hcalls := hfn.2 A1 _ w rfl (fun _ hf => hf) rfl hview
  have he : (args.map (SV.den ρ)).toArray = (args0.map (SV.den fun c => ρ (rnL σ c))).toArray := by
    rw [hargs, List.map_map]
    congr 1
    exact List.map_congr_left fun x _ => SV.den_ren ρ (rnL σ) x
  rw [he]
  refine Calls.mono hcalls fun e w' hr => ?_
  obtain ⟨x, ρ1, hx, rfl, hH1⟩ := hr
  obtain ⟨hcl, hfr, hk⟩ := hK x hx
  simp only [closed, Bool.and_eq_true, List.all_eq_true] at hcl
  obtain ⟨hcs, hch⟩ := hcl
  have hfr' : ∀ p ∈ H1 x, freshE (p.1 + b) E = true ∧ freshH (p.1 + b) H = true := fun p hp => by
    have := List.all_eq_true.1 hfr p hp
    simpa using this
  classical
  let ρ2 : Vl := fun c => if ∃ p ∈ H1 x, p.1 + b = c then ρ1 (c - b) else ρ c
  have h2 : ∀ c ∈ (H1 x).map Prod.fst, ρ2 (c + b) = ρ1 c := by
    intro c hc
    obtain ⟨p, hp, rfl⟩ := List.mem_map.1 hc
    simp only [ρ2]
    rw [if_pos ⟨p, hp, rfl⟩]
    congr 1; omega
  have h2' : ∀ c, (∀ p ∈ H1 x, p.1 + b ≠ c) → ρ2 c = ρ c := by
    intro c hc
    simp only [ρ2]
    rw [if_neg]
    rintro ⟨p, hp, e⟩
    exact hc p hp e
  refine ⟨ρ2, (s1 x).ren (· + b), shiftH b (H1 x) ++ H, ?_, ?_, ?_, ?_, hk⟩
  · rw [SV.den_ren]
    congr 1
    refine (SV.den_upd fun c hc => ?_).symm
    exact h2 c (hk_isSome (hcs c (SV.men_ids hc)))
  · refine h.merge hH1 rfl (fun _ => Iff.rfl) (fun _ hf => hf) hb (fun p hp => ?_) (fun p hp => (hfr' p hp).2) h2 h2'
    have := hch p hp
    exact ⟨this.1, fun c hc => hk_isSome (this.2 c hc)⟩
  · refine hE.upd fun p hp c hc => h2' c fun q hq e => ?_
    have := freshE_spec (hfr' q hq).1 p hp
    rw [e] at this
    rw [hc] at this; cases this
  · exact fun c hc => h2' c fun q hq e => hc (e ▸ hfr' q hq)

end Go.Proofs.Ytgbmhfbfcbjccaa
