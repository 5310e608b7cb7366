/- The engine's functions that write what is lent to them. Conditions: none; plain definitions and theorems. -/
import Derived.Test.YtgbmhfbfcbjccaaEngM
namespace Go.Proofs.Ytgbmhfbfcbjccaa
set_option linter.unusedSimpArgs false
set_option linter.unusedVariables false
open Go.RowKit

theorem mem_dropH {ex : List Nat} {H : Hp} {q : Nat × Ch} : q ∈ dropH ex H ↔ q ∈ H ∧ q.1 ∉ ex := by
  induction H with
  | nil => simp [dropH]
  | cons p r ih =>
    obtain ⟨c, ch⟩ := p
    simp only [dropH]
    split
    · rename_i hc
      rw [ih]
      have hc' : c ∈ ex := by simpa using hc
      constructor
      · rintro ⟨h1, h2⟩; exact ⟨List.mem_cons_of_mem _ h1, h2⟩
      · rintro ⟨h1, h2⟩
        rcases List.mem_cons.1 h1 with rfl | h1
        · exact absurd hc' h2
        · exact ⟨h1, h2⟩
    · rename_i hc
      have hc' : c ∉ ex := by simpa using hc
      rw [List.mem_cons, List.mem_cons, ih]
      constructor
      · rintro (rfl | ⟨h1, h2⟩)
        · exact ⟨.inl rfl, hc'⟩
        · exact ⟨.inr h1, h2⟩
      · rintro ⟨rfl | h1, h2⟩
        · exact .inl rfl
        · exact .inr ⟨h1, h2⟩
theorem dropH_sub (ex : List Nat) (H : Hp) : ((dropH ex H).map Prod.fst).Sublist (H.map Prod.fst) := by
  induction H with
  | nil => exact List.Sublist.refl _
  | cons p r ih =>
    obtain ⟨c, ch⟩ := p
    simp only [dropH]
    split
    · exact ih.cons _
    · exact ih.cons_cons _

def renH (f : Nat → Nat) (H : Hp) : Hp := H.map fun p => (f p.1, p.2.ren f)

theorem fresh_in {H : Hp} {q : Nat × Ch} (hq : q ∈ H) : freshH q.1 H = false := by
  cases hf : freshH q.1 H with
  | false => rfl
  | true => exact absurd rfl (freshH_spec hf q hq).1
theorem fresh_men {H : Hp} {q : Nat × Ch} (hq : q ∈ H) {c : Nat} (hc : q.2.men c = true) : freshH c H = false := by
  cases hf : freshH c H with
  | false => rfl
  | true => rw [(freshH_spec hf q hq).2] at hc; cases hc

/-- What a call has left that has written what was lent to it. -/
theorem Holds.mergeM {A A1 : Amb} {ρ ρ1 ρ2 : Vl} {w w1 : World} {H H1 : Hp} {f : Nat → Nat} {lent : List Nat} (h : Holds A ρ w H) (h1 : Holds A1 ρ1 w1 H1) (hw0 : A1.w0 = w) (hm : ∀ b, A1.m b ↔ tot A ρ H true b)
    (hmw : ∀ b, A1.mw b → ∃ q ∈ H, q.1 ∈ lent ∧ q.2.own = true ∧ blk (ρ q.1) = some b)
    (hnd : (H1.map fun p => f p.1).Nodup) (hgl : ∀ p ∈ H1, p.2.glob = true) (hrest : ∀ p ∈ H1, ∀ q ∈ dropH lent H, f p.1 ≠ q.1)
    (h2 : ∀ p ∈ H1, ρ2 (f p.1) = ρ1 p.1) (h2m : ∀ p ∈ H1, ∀ c, p.2.men c = true → ρ2 (f c) = ρ1 c) (h2' : ∀ c, freshH c H = false → ρ2 c = ρ c) (hlow : ∀ c, c < 100 → ρ2 c = ρ c) :
    Holds A ρ2 w1 (renH f H1 ++ dropH lent H) := by
  have hag : Agree A1.mw w w1 := by have := h1.frame; rwa [hw0] at this
  have hmwM : ∀ b, A1.mw b → Mine ρ H b := fun b hb => by
    obtain ⟨q, hq, _, ho, hbq⟩ := hmw b hb
    exact ⟨q, hq, ho, hbq⟩
  have hρH : ∀ q ∈ H, ρ2 q.1 = ρ q.1 := fun q hq => h2' _ (fresh_in hq)
  have hmem : ∀ q ∈ renH f H1, ∃ p ∈ H1, q = (f p.1, p.2.ren f) := fun q hq => by
    obtain ⟨p, hp, rfl⟩ := List.mem_map.1 hq
    exact ⟨p, hp, rfl⟩
  have hmine : ∀ x, Mine ρ2 (renH f H1 ++ dropH lent H) x → Mine ρ1 H1 x ∨ Mine ρ H x := by
    rintro x ⟨q, hq, ho, hbx⟩
    rcases List.mem_append.1 hq with hq | hq
    · obtain ⟨p, hp, rfl⟩ := hmem q hq
      simp only [Ch.own_ren] at ho
      simp only [h2 p hp] at hbx
      exact .inl ⟨p, hp, ho, hbx⟩
    · have hqH := (mem_dropH.1 hq).1
      rw [hρH q hqH] at hbx
      exact .inr ⟨q, hqH, ho, hbx⟩
  have hmine1 : ∀ x, Mine ρ1 H1 x → w.heap.size ≤ x ∨ A1.mw x := fun x hx => by
    rcases h1.mine x hx with h0 | h0
    · rw [hw0] at h0; exact .inl h0
    · exact .inr h0
  have hfr : Agree A.mw A.w0 w1 := by
    refine ⟨hag.os.trans h.frame.os, hag.tape.trans h.frame.tape, hag.output.trans h.frame.output, Nat.le_trans h.frame.size hag.size, fun b hb hn => ?_⟩
    refine (hag.block b (Nat.lt_of_lt_of_le hb h.frame.size) fun hf => ?_).trans (h.frame.block b hb hn)
    rcases h.mine b (hmwM b hf) with h0 | h0
    · omega
    · exact hn h0
  refine ⟨hfr, ?_, ?_, ?_, ?_, h.mw_m, h.m_lt, fun p hp => ?_, h.pin_lt⟩
  · rw [List.map_append, List.nodup_append]
    refine ⟨?_, (dropH_sub lent H).nodup h.nodup, ?_⟩
    · simpa [renH, Function.comp_def] using hnd
    · intro x hx y hy e
      obtain ⟨q, hq, rfl⟩ := List.mem_map.1 hx
      obtain ⟨q', hq', rfl⟩ := List.mem_map.1 hy
      obtain ⟨p, hp, rfl⟩ := hmem q hq
      exact hrest p hp q' hq' e
  · intro q hq
    rcases List.mem_append.1 hq with hq | hq
    · obtain ⟨p, hp, rfl⟩ := hmem q hq
      simp only
      rw [Ch.sat_ren, h2 p hp]
      have hsp := h1.sat p hp
      have hids : ∀ c, p.2.men c = true → ρ2 (f c) = ρ1 c := h2m p hp
      by_cases ho : p.2.own = true
      · exact Ch.sat_own hsp ho (fun _ _ => rfl) hids
      · have hg := hgl p hp
        have htr : ∀ x, tot A ρ2 (renH f H1 ++ dropH lent H) true x → tot A1 ρ1 H1 true x := by
          rintro x (⟨_, hx⟩ | hx)
          · exact .inl ⟨rfl, (hm x).2 (.inl ⟨rfl, hx⟩)⟩
          · rcases hmine x hx with h0 | h0
            · exact .inr h0
            · exact .inl ⟨rfl, (hm x).2 (.inr h0)⟩
        cases hch : p.2 with
        | box l ty => rw [hch] at ho; simp [Ch.own] at ho
        | row τ e xs => rw [hch] at ho; simp [Ch.own] at ho
        | rd g τ xs =>
          rw [hch] at hsp hg
          simp only [Ch.glob] at hg; subst hg
          exact Pers.mono hsp (Agree.refl _ _) fun x hx => .inl (htr x hx)
        | rbox g l =>
          rw [hch] at hsp hg hids
          simp only [Ch.glob] at hg; subst hg
          obtain ⟨b', o, hv, hP⟩ := hsp
          refine ⟨b', o, hv, ?_⟩
          rw [denL_upd (l := l) (ρ := ρ1) (ρ' := fun c => ρ2 (f c)) (by simpa [Ch.men] using hids)]
          exact Pers.mono hP (Agree.refl _ _) fun x hx => .inl (htr x hx)
        | per g F =>
          rw [hch] at hsp hg
          simp only [Ch.glob] at hg; subst hg
          exact F.mono hsp (Agree.refl _ _) fun x hx => .inl (htr x hx)
    · obtain ⟨hqH, hql⟩ := mem_dropH.1 hq
      rw [hρH q hqH]
      have hsq := h.sat q hqH
      have hmen : ∀ c, q.2.men c = true → ρ2 c = ρ c := fun c hc => h2' c (fresh_men hqH hc)
      by_cases ho : q.2.own = true
      · refine Ch.sat_own hsq ho (fun x hx => hag.block x (Ch.own_lt hsq ho hx) fun hf => ?_) hmen
        obtain ⟨p, hp, hpl, hpo, hpb⟩ := hmw x hf
        exact h.apart q hqH p hp ho hpo (fun e => hql (e ▸ hpl)) x hx hpb
      · refine Ch.sat_pers hsq (by simpa using ho) (fun g => hag.mono fun b _ hf => .inr (hmwM b hf)) (fun g x hx => ?_) hmen
        rcases hx with hx | hx
        · exact .inl (.inl hx)
        · rcases hmine x hx with h0 | h0
          · rcases hmine1 x h0 with h0 | h0
            · exact .inr h0
            · exact .inl (.inr (hmwM x h0))
          · exact .inl (.inr h0)
  · have cross : ∀ p ∈ H1, ∀ q ∈ dropH lent H, p.2.own = true → q.2.own = true → ∀ x, blk (ρ1 p.1) = some x → blk (ρ q.1) ≠ some x := by
      intro p hp q hq hop hoq x hx hx'
      obtain ⟨hqH, hql⟩ := mem_dropH.1 hq
      rcases hmine1 x ⟨p, hp, hop, hx⟩ with h0 | h0
      · have := Ch.own_lt (h.sat q hqH) hoq hx'
        omega
      · obtain ⟨p', hp', hpl, hpo, hpb⟩ := hmw x h0
        exact h.apart q hqH p' hp' hoq hpo (fun e => hql (e ▸ hpl)) x hx' hpb
    intro p hp q hq hop hoq hpq x hx
    rcases List.mem_append.1 hp with hp | hp <;> rcases List.mem_append.1 hq with hq | hq
    · obtain ⟨p', hp', rfl⟩ := hmem p hp
      obtain ⟨q', hq', rfl⟩ := hmem q hq
      simp only [Ch.own_ren] at hop hoq
      simp only [h2 p' hp'] at hx
      simp only [h2 q' hq']
      exact h1.apart p' hp' q' hq' hop hoq (fun e => hpq (by simp [e])) x hx
    · obtain ⟨p', hp', rfl⟩ := hmem p hp
      simp only [Ch.own_ren] at hop
      simp only [h2 p' hp'] at hx
      rw [hρH q (mem_dropH.1 hq).1]
      exact cross p' hp' q hq hop hoq x hx
    · obtain ⟨q', hq', rfl⟩ := hmem q hq
      simp only [Ch.own_ren] at hoq
      simp only [h2 q' hq']
      rw [hρH p (mem_dropH.1 hp).1] at hx
      exact fun hx' => cross q' hq' p hp hoq hop x hx' hx
    · have hpH := (mem_dropH.1 hp).1
      have hqH := (mem_dropH.1 hq).1
      rw [hρH p hpH] at hx; rw [hρH q hqH]
      exact h.apart p hpH q hqH hop hoq hpq x hx
  · intro x hx
    rcases hmine x hx with h0 | h0
    · rcases hmine1 x h0 with h0 | h0
      · exact .inl (Nat.le_trans h.frame.size h0)
      · exact h.mine x (hmwM x h0)
    · exact h.mine x h0
  · rw [hlow p.1 (h.pin_lt p hp)]
    exact h.pin p hp

/-! ### Functions that write what is lent to them -/
def MFn (C : Cfg) (f : FuncId) (args : List SV) (H0 : Hp) {α : Type} (φ : α → Prop) (s1 : α → SV) (H1 : α → Hp) : Prop :=
  callable C.P f = true ∧ ∀ A ρ w, A.w0 = w → (∀ b, A.mw b → Mine ρ H0 b) → A.pin = H0.map (fun p => (p.1, ρ p.1)) → Holds A ρ w H0 → Calls C.P f (args.map (SV.den ρ)).toArray w fun e w' =>
    ∃ x ρ', φ x ∧ e = .returned ((s1 x).den ρ') ∧ Holds A ρ' w' (H1 x)

def EntM (s : SV) (H : Hp) (s' : SV) (H' : Hp) : Prop := ∀ A ρ w, Holds A ρ w H → ∃ ρ', s.den ρ = s'.den ρ' ∧ Holds A ρ' w H'
theorem entM_sub {s s' : SV} {H H' : Hp} (σ : List (Nat × Nat)) (h : Sub σ [(0, s)] H [(0, s')] H') : EntM s H s' H' := by
  intro A ρ w g1
  obtain ⟨k1, k2, k3, k4, k5⟩ := h
  refine ⟨fun c => ρ (rnL σ c), ?_, ?_⟩
  · have := k1.1
    simp only [lk, if_true, Option.some.injEq] at this
    rw [this, SV.den_ren]
  · refine g1.view k2 k3 k4 g1.frame (fun b hb => .inl ⟨rfl, hb⟩) (fun b hb => ?_) g1.mw_m g1.m_lt (fun p hp => ?_) g1.pin_lt
    · obtain ⟨p, hp, ho, hbb⟩ := hb
      obtain ⟨ch', hk', hpr⟩ := subH_spec k2 p hp
      exact g1.mine b ⟨_, hk_mem hk', prov_own hpr (by rw [Ch.own_ren]; exact ho), hbb⟩
    · rw [rnL_low k5 (g1.pin_lt p hp)]; exact g1.pin p hp
/-- At the end: the results are those of some x. -/
def RetM (C : Cfg) (fn : Func) {α : Type} (φ : α → Prop) (s1 : α → SV) (H1 : α → Hp) : Exit → Env → Hp → Prop
  | .normal, E, H => ∃ x s, φ x ∧ resV C E H fn.results = some s ∧ EntM s H (s1 x) (H1 x)
  | .ret, E, H => ∃ x s, φ x ∧ resV C E H fn.results = some s ∧ EntM s H (s1 x) (H1 x)
  | _, _, _ => False
def retH {α : Type} (φ : α → Prop) (s1 : α → SV) (H1 : α → Hp) (H : Hp) : Option SV → Prop
  | some s => ∃ x, φ x ∧ EntM s H (s1 x) (H1 x)
  | none => False
section
variable (C : Cfg) (fn : Func) {α : Type} (φ : α → Prop) (s1 : α → SV) (H1 : α → Hp) (E : Env) (H : Hp)
@[go_sem] theorem retM_ret : RetM C fn φ s1 H1 .ret E H = retH φ s1 H1 H ((resL C E H fn.results.toList).map ptsSV) := by
  simp only [RetM, resV]
  generalize (resL C E H fn.results.toList).map ptsSV = o
  cases o <;> simp [retH]
@[go_sem] theorem retM_normal : RetM C fn φ s1 H1 .normal E H = retH φ s1 H1 H ((resL C E H fn.results.toList).map ptsSV) := by
  simp only [RetM, resV]
  generalize (resL C E H fn.results.toList).map ptsSV = o
  cases o <;> simp [retH]
@[go_sem] theorem retH_some (s : SV) : retH φ s1 H1 H (some s) = ∃ x, φ x ∧ EntM s H (s1 x) (H1 x) := rfl
end
theorem retM_n {C : Cfg} {fn : Func} {α : Type} {φ : α → Prop} {s1 : α → SV} {H1 : α → Hp} {E : Env} {H : Hp} (h : retH φ s1 H1 H ((resL C E H fn.results.toList).map ptsSV)) : RetM C fn φ s1 H1 .normal E H := by rw [retM_normal]; exact h

theorem MFn_of_X {C : Cfg} {f : FuncId} {fn : Func} {c : Code} {args : List SV} {H0 : Hp} {α : Type} {φ : α → Prop} {s1 : α → SV} {H1 : α → Hp}
    (hwide : C.F = Fence.wide) (N : Nat) (hf : C.P.funcs[f]? = some fn) (hb : fn.body = some c) (hn : fn.ntmps = N) (hc : callable C.P f = true) (hN : args.length ≤ N)
    (hX : ∀ A, X C A ⟨N, []⟩ c (argE 0 args) H0 (RetM C fn φ s1 H1)) : MFn C f args H0 φ s1 H1 := by
  subst hn
  refine ⟨hc, fun A ρ w hw hmw hpin h => ?_⟩
  have hE : EnvOk ⟨fn.ntmps, []⟩ ρ (argE 0 args) { tmps := (args.map (SV.den ρ)).toArray ++ Array.replicate (fn.ntmps - (args.map (SV.den ρ)).toArray.size) undef, defers := [] } := by
    refine ⟨rfl, by simp; omega, fun t x hx => ?_⟩
    obtain ⟨i, rfl, hi⟩ := argE_lk ρ args 0 t x hx
    have hlt := (List.getElem?_eq_some_iff.1 hi).1
    rw [Nat.zero_add, Array.getElem?_append_left (by simpa using hlt)]
    simp [hi]
  have hx := hX A ρ w _ h hE
  rw [hwide] at hx
  refine calls_of_wp hf hb (wp_mono (wpIn_wide.1 hx) fun e a w' he => ?_)
  obtain ⟨ρ', E', H', g1, g2, g3⟩ := he
  have key : (∃ x s, φ x ∧ resV C E' H' fn.results = some s ∧ EntM s H' (s1 x) (H1 x)) → a.defers = [] ∧ ∃ v, (results fn a.tmps).run C.P w' = .ok v w' ∧
      ∃ x ρ', φ x ∧ Ending.returned v = .returned ((s1 x).den ρ') ∧ Holds A ρ' w' (H1 x) := by
    rintro ⟨x, s, hx, hs, hent⟩
    obtain ⟨ρ2, e2, g4⟩ := hent A ρ' w' g1
    exact ⟨g2.defers, s.den ρ', resV_sound (C := C) g2 g1.satH hs, x, ρ2, hx, by rw [e2], g4⟩
  cases e with
  | normal => exact key g3
  | ret => exact key g3
  | _ => exact g3.elim

/-- Where the callee's places lie at the caller's. -/
def fM (σ : List (Nat × Nat)) (b c : Nat) : Nat := if c < 100 then rnL σ c else c + b
def ownIds : Hp → List Nat
  | [] => []
  | (c, ch) :: r => if ch.own = true then c :: ownIds r else ownIds r
def low100 (H : Hp) : Bool := H.all fun p => decide (p.1 < 100)
def isOwn : Option Ch → Bool
  | some ch => ch.own
  | none => false
def mOK (σ : List (Nat × Nat)) (b : Nat) (E : Env) (H H0 : Hp) (s : SV) (H1 : Hp) : Bool :=
  (s.ids.all fun c => (hk H1 c).isSome || (hk H0 c).isSome) && nodupB (H1.map fun p => fM σ b p.1) &&
  H1.all fun p => p.2.glob && (p.2.ids.all fun c => (hk H1 c).isSome || (hk H0 c).isSome) && (if p.1 < 100 then isOwn (hk H0 p.1) else freshE (p.1 + b) E && freshH (p.1 + b) H)

theorem hk_none' {H : Hp} {c : Nat} (h : hk H c = none) : c ∉ H.map Prod.fst := by
  induction H with
  | nil => simp
  | cons p r ih =>
    obtain ⟨k, ch⟩ := p
    simp only [hk] at h
    split at h
    · cases h
    · rename_i hne
      simp only [List.map_cons, List.mem_cons, not_or]
      exact ⟨fun e => hne e.symm, ih h⟩
theorem ownIds_mem {H : Hp} {c : Nat} : c ∈ ownIds H ↔ ∃ q ∈ H, q.1 = c ∧ q.2.own = true := by
  induction H with
  | nil => simp [ownIds]
  | cons p r ih =>
    obtain ⟨k, ch⟩ := p
    simp only [ownIds]
    split
    · rename_i ho
      rw [List.mem_cons, ih]
      constructor
      · rintro (rfl | ⟨q, hq, e, hqo⟩)
        · exact ⟨_, List.mem_cons_self, rfl, ho⟩
        · exact ⟨q, List.mem_cons_of_mem _ hq, e, hqo⟩
      · rintro ⟨q, hq, e, hqo⟩
        rcases List.mem_cons.1 hq with rfl | hq
        · exact .inl e.symm
        · exact .inr ⟨q, hq, e, hqo⟩
    · rename_i ho
      rw [ih]
      constructor
      · rintro ⟨q, hq, e, hqo⟩; exact ⟨q, List.mem_cons_of_mem _ hq, e, hqo⟩
      · rintro ⟨q, hq, e, hqo⟩
        rcases List.mem_cons.1 hq with rfl | hq
        · exact absurd hqo ho
        · exact ⟨q, hq, e, hqo⟩

/-- A call of a function that writes what is lent to it. -/
theorem callM {C : Cfg} {A : Amb} {N : Fm} {E : Env} {H : Hp} {d : Option Nat} {f : FuncId} {args args0 : List SV} {K : Env → Hp → Prop} {H0 : Hp} {α : Type} {φ : α → Prop} {s1 : α → SV} {H1 : α → Hp}
    (hfn : MFn C f args0 H0 φ s1 H1) (σ : List (Nat × Nat)) (b : Nat) (hd : dOk N d = true) (hargs : args = args0.map (SV.ren (rnL σ))) (hsub : subH (rnL σ) H H0) (hnd : nodupB (H0.map Prod.fst) = true)
    (hsep : sepIds (rnL σ) H0 = true) (hlow : low100 H0 = true)
    (hK : ∀ x, φ x → mOK σ b E H H0 (s1 x) (H1 x) = true ∧ K (eput E d ((s1 x).ren (fM σ b))) (renH (fM σ b) (H1 x) ++ dropH ((ownIds H0).map (rnL σ)) H)) : CallOK C A N E H d f args K := by
  refine ⟨hfn.1, hd, fun ρ w a h hE => ?_⟩
  have hl : ∀ p ∈ H0, p.1 < 100 := fun p hp => by simpa using List.all_eq_true.1 hlow p hp
  have hspec := subH_spec hsub
  have hMine : ∀ x, Mine (fun c => ρ (rnL σ c)) H0 x → ∃ q ∈ H, q.1 ∈ (ownIds H0).map (rnL σ) ∧ q.2.own = true ∧ blk (ρ q.1) = some x := by
    rintro x ⟨p, hp, ho, hb⟩
    obtain ⟨ch', hk', hpr⟩ := hspec p hp
    exact ⟨_, hk_mem hk', List.mem_map.2 ⟨p.1, ownIds_mem.2 ⟨p, hp, rfl, ho⟩, rfl⟩, prov_own hpr (by rw [Ch.own_ren]; exact ho), hb⟩
  let A1 : Amb := ⟨w, tot A ρ H true, Mine (fun c => ρ (rnL σ c)) H0, H0.map (fun p => (p.1, ρ (rnL σ p.1)))⟩
  have hview : Holds A1 (fun c => ρ (rnL σ c)) w H0 := h.view (A1 := A1) hsub hnd hsep (Agree.refl _ _) (fun b hb => hb) (fun x hx => .inr hx)
      (fun x hx => by
        obtain ⟨q, hq, _, ho, hb⟩ := hMine x hx
        exact .inr ⟨q, hq, ho, hb⟩)
      (fun x hx => by
        rcases hx with ⟨_, hx⟩ | hx
        · exact h.tot_lt (.inl hx)
        · exact h.tot_lt (.inr hx))
      (fun p hp => by obtain ⟨q, hq, rfl⟩ := List.mem_map.1 hp; rfl) (fun p hp => by obtain ⟨q, hq, rfl⟩ := List.mem_map.1 hp; exact hl q hq)
  have hcalls := hfn.2 A1 _ w rfl (fun _ hb => hb) rfl hview
  have he : (args.map (SV.den ρ)).toArray = (args0.map (SV.den fun c => ρ (rnL σ c))).toArray := by
    rw [hargs, List.map_map]
    congr 1
    exact List.map_congr_left fun x _ => SV.den_ren ρ (rnL σ) x
  rw [he]
  refine Calls.mono hcalls fun e w' hr => ?_
  obtain ⟨x, ρ1, hx, rfl, hH1⟩ := hr
  obtain ⟨hok, hkk⟩ := hK x hx
  simp only [mOK, Bool.and_eq_true, List.all_eq_true, Bool.or_eq_true] at hok
  obtain ⟨⟨hs, hnd1⟩, hall⟩ := hok
  have hnd1' := nodupB_spec hnd1
  classical
  let ρ2 : Vl := fun c => if ∃ p ∈ H1 x, 100 ≤ p.1 ∧ p.1 + b = c then ρ1 (c - b) else ρ c
  have hnew : ∀ c, (¬ ∃ p ∈ H1 x, 100 ≤ p.1 ∧ p.1 + b = c) → ρ2 c = ρ c := fun c hc => by simp only [ρ2]; rw [if_neg hc]
  have hfr : ∀ p ∈ H1 x, 100 ≤ p.1 → freshE (p.1 + b) E = true ∧ freshH (p.1 + b) H = true := fun p hp h100 => by
    have := (hall p hp).2
    rw [if_neg (by omega)] at this
    simpa using this
  have h2' : ∀ c, freshH c H = false → ρ2 c = ρ c := fun c hc => hnew c fun ⟨p, hp, h100, e⟩ => by
    rw [← e, (hfr p hp h100).2] at hc; cases hc
  have hpin1 : ∀ c, (hk H0 c).isSome = true → ρ1 c = ρ (rnL σ c) := fun c hc => by
    obtain ⟨q, hq, rfl⟩ := List.mem_map.1 (hk_isSome hc)
    exact hH1.pin (q.1, ρ (rnL σ q.1)) (List.mem_map.2 ⟨q, hq, rfl⟩)
  have hlowc : ∀ c, (hk H0 c).isSome = true → ρ2 (fM σ b c) = ρ1 c := fun c hc => by
    obtain ⟨q, hq, rfl⟩ := List.mem_map.1 (hk_isSome hc)
    rw [hpin1 q.1 hc]
    obtain ⟨ch', hk', _⟩ := hspec q hq
    have := h2' (rnL σ q.1) (fresh_in (hk_mem hk'))
    simp only [fM, hl q hq, if_true]
    exact this
  have h2all : ∀ c, ((hk (H1 x) c).isSome = true ∨ (hk H0 c).isSome = true) → ρ2 (fM σ b c) = ρ1 c := by
    rintro c (hc | hc)
    · obtain ⟨p, hp, rfl⟩ := List.mem_map.1 (hk_isSome hc)
      by_cases h100 : p.1 < 100
      · have := (hall p hp).2
        rw [if_pos h100] at this
        refine hlowc p.1 ?_
        unfold isOwn at this
        split at this
        · rename_i e; rw [e]; rfl
        · cases this
      · simp only [fM, h100, if_false, ρ2]
        rw [if_pos ⟨p, hp, by omega, rfl⟩]
        congr 1; omega
    · exact hlowc c hc
  have hnf : ∀ c, frsh c E H ∨ True → (∃ p ∈ H1 x, 100 ≤ p.1 ∧ p.1 + b = c) → frsh c E H := by
    rintro c _ ⟨p, hp, h100, rfl⟩
    exact hfr p hp h100
  refine ⟨ρ2, (s1 x).ren (fM σ b), _, ?_, ?_, ?_, ?_, hkk⟩
  · rw [SV.den_ren]
    congr 1
    exact (SV.den_upd fun c hc => h2all c (hs c (SV.men_ids hc))).symm
  · refine h.mergeM hH1 rfl (fun _ => Iff.rfl) hMine hnd1' (fun p hp => (hall p hp).1.1) (fun p hp q hq => ?_) (fun p hp => ?_) (fun p hp c hc => h2all c ((hall p hp).1.2 c (Ch.men_ids hc))) h2' (fun c hc => hnew c fun ⟨p, _, h100, e⟩ => by omega)
    · obtain ⟨hqH, hql⟩ := mem_dropH.1 hq
      have := (hall p hp).2
      by_cases h100 : p.1 < 100
      · rw [if_pos h100] at this
        intro e
        refine hql ?_
        rw [← e]
        simp only [fM, h100, if_true]
        refine List.mem_map.2 ⟨p.1, ownIds_mem.2 ?_, rfl⟩
        unfold isOwn at this
        split at this
        · rename_i ch e'; exact ⟨(p.1, ch), hk_mem e', rfl, this⟩
        · cases this
      · simp only [fM, h100, if_false]
        intro e
        have hf := freshH_spec (hfr p hp (by omega)).2 q hqH
        exact hf.1 e.symm
    · refine h2all p.1 (.inl ?_)
      cases hkp : hk (H1 x) p.1 with
      | some _ => rfl
      | none => exact absurd (List.mem_map.2 ⟨p, hp, rfl⟩) (hk_none' hkp)
  · exact hE.upd fun p hp c hc => hnew c fun hex => by
      have := (hnf c (.inr trivial) hex).1
      rw [freshE_spec this p hp] at hc; cases hc
  · exact fun c hc => hnew c fun hex => hc (hnf c (.inr trivial) hex)
attribute [go_sem] renH fM ownIds rnL Ch.own isOwn
end Go.Proofs.Ytgbmhfbfcbjccaa
