/- The engine's joins, loops, functions by contract, calls by contract. Conditions: none; plain definitions and theorems. -/
import Derived.Test.YtgbmhfbfcbjccaaEngH
import Derived.Deep.LoopGhost
namespace Go.Proofs.Ytgbmhfbfcbjccaa
set_option linter.unusedSimpArgs false
set_option linter.unusedVariables false
open Go.RowKit

/-! ### Other numbers for chunks -/
def At.ren (f : Nat → Nat) : At → At
  | .v x => .v x
  | .ref c => .ref (f c)
  | .ptr c o => .ptr (f c) o
  | .elem c k sz o => .elem (f c) k sz o
  | .fn g l => .fn g (l.map f)
def renL (f : Nat → Nat) (l : List At) : List At := l.map (At.ren f)
def Pt.ren (f : Nat → Nat) : Pt → Pt
  | .a x => .a (x.ren f)
  | .g l => .g (renL f l)
def SV.ren (f : Nat → Nat) : SV → SV
  | .a x => .a (x.ren f)
  | .g l => .g (renL f l)
  | .t l => .t (l.map (Pt.ren f))
def Ch.ren (f : Nat → Nat) : Ch → Ch
  | .box l ty => .box (renL f l) ty
  | .row τ e xs => .row τ e xs
  | .rd g τ xs => .rd g τ xs
  | .rbox g l => .rbox g (renL f l)
  | .per g F => .per g F

theorem At.den_ren (ρ : Vl) (f : Nat → Nat) (x : At) : (x.ren f).den ρ = x.den (fun c => ρ (f c)) := by
  cases x <;> simp [At.ren, At.den, Function.comp_def]
theorem denL_ren (ρ : Vl) (f : Nat → Nat) (l : List At) : denL ρ (renL f l) = denL (fun c => ρ (f c)) l := by
  simp only [denL, renL, List.map_map]
  exact List.map_congr_left fun x _ => At.den_ren ρ f x
theorem Pt.den_ren (ρ : Vl) (f : Nat → Nat) (x : Pt) : (x.ren f).den ρ = x.den (fun c => ρ (f c)) := by
  cases x <;> simp [Pt.ren, Pt.den, At.den_ren, denL_ren]
theorem SV.den_ren (ρ : Vl) (f : Nat → Nat) (x : SV) : (x.ren f).den ρ = x.den (fun c => ρ (f c)) := by
  cases x with
  | a x => exact At.den_ren ρ f x
  | g l => simp [SV.ren, SV.den, denL_ren]
  | t l =>
    simp only [SV.ren, SV.den, List.map_map]
    congr 2
    exact List.map_congr_left fun x _ => Pt.den_ren ρ f x
theorem Ch.own_ren (f : Nat → Nat) (ch : Ch) : (ch.ren f).own = ch.own := by cases ch <;> rfl
theorem Ch.sat_ren {M : Bool → Nat → Prop} {ρ : Vl} {w : World} {v : Value} {f : Nat → Nat} {ch : Ch} : (ch.ren f).sat M ρ w v ↔ ch.sat M (fun c => ρ (f c)) w v := by
  cases ch <;> simp [Ch.ren, Ch.sat, denL_ren]

/-! ### Joins -/
def rnL : List (Nat × Nat) → Nat → Nat
  | [], c => c
  | (k, x) :: r, c => if k = c then x else rnL r c

/-- One chunk in another one's place: the same, or one's own lent for a while. -/
def prov : Ch → Ch → Prop
  | .row τ e xs, .rd g σ ys => g = false ∧ FTy.castL τ σ xs = some ys
  | .rd g' τ xs, .rd g σ ys => (g = true → g' = true) ∧ FTy.castL τ σ xs = some ys
  | .box l _, .rbox g l' => g = false ∧ l = l'
  | .rbox g' l, .rbox g l' => (g = true → g' = true) ∧ l = l'
  | .per g' F, .per g G => (g = true → g' = true) ∧ (∀ M w v, F.p M w v → G.p M w v)
  | .box l t, .box l' t' => l = l' ∧ t = t'
  | .row τ e xs, .row σ e' ys => e = e' ∧ FTy.castL τ σ xs = some ys
  | _, _ => False

def subE (f : Nat → Nat) (E : Env) : Env → Prop
  | [] => True
  | (t, s) :: r => lk E t = some (s.ren f) ∧ subE f E r
def subH (f : Nat → Nat) (H : Hp) : Hp → Prop
  | [] => True
  | (c, ch) :: r => (∃ ch', hk H (f c) = some ch' ∧ prov ch' (ch.ren f)) ∧ subH f H r
/-- What is one's own lies where nothing else does. -/
def sepIds (f : Nat → Nat) (H : Hp) : Bool := H.all fun q => !q.2.own || H.all fun p => p.1 == q.1 || !(f p.1 == f q.1)
def nodupB : List Nat → Bool
  | [] => true
  | x :: l => !l.contains x && nodupB l
theorem nodupB_spec {l : List Nat} (h : nodupB l = true) : l.Nodup := by
  induction l with
  | nil => exact List.nodup_nil
  | cons x l ih =>
    simp only [nodupB, Bool.and_eq_true, Bool.not_eq_true', List.contains_eq_mem, decide_eq_false_iff_not] at h
    exact List.nodup_cons.2 ⟨h.1, ih h.2⟩
theorem sepIds_spec {f : Nat → Nat} {H : Hp} (h : sepIds f H = true) : ∀ q ∈ H, q.2.own = true → ∀ p ∈ H, p.1 ≠ q.1 → f p.1 ≠ f q.1 := by
  intro q hq ho p hp hne
  have h1 := List.all_eq_true.1 h q hq
  simp only [ho, Bool.not_true, Bool.false_or] at h1
  have h2 := List.all_eq_true.1 h1 p hp
  simp only [Bool.or_eq_true, beq_iff_eq, Bool.not_eq_true', beq_eq_false_iff_ne] at h2
  exact h2.resolve_left hne

theorem rdSl_cast {τ σ : FTy} {xs : List τ.D} {ys : List σ.D} (h : FTy.castL τ σ xs = some ys) {w : World} {v : Value} (hr : RdSl τ w v xs) : RdSl σ w v ys := by
  obtain ⟨hs, hl, hf⟩ := FTy.castL_ok h
  obtain ⟨A, cap, hv, hm, hn, hc⟩ := hr
  rw [hl] at hv hm hn hc
  rw [hf] at hc
  exact ⟨A, cap, hv, hm, hn, hc⟩

/-- A chunk that stands in another one's place is satisfied as that one. -/
theorem prov_sat {M M' : Bool → Nat → Prop} {ρ : Vl} {w : World} {v : Value} {ch ch' : Ch} (h : ch.sat M ρ w v) (hp : prov ch ch')
    (hm : ∀ g b, M' g b → M g b) (hft : ∀ b, M false b → M true b) (hlent : ch.own = true → ch'.own = false → ∀ b, blk v = some b → ¬ M' false b) : ch'.sat M' ρ w v := by
  have hmono : ∀ {g g' : Bool} {F : World → Prop}, (g = true → g' = true) → Pers (M g') w F → Pers (M' g) w F := by
    intro g g' F hg hP
    refine Pers.mono hP (Agree.refl _ _) fun b hb => .inl ?_
    cases g
    · cases g'
      · exact hm _ _ hb
      · exact hft b (hm _ _ hb)
    · rw [hg rfl]; exact hm _ _ hb
  cases ch <;> cases ch' <;> simp only [prov] at hp
  · obtain ⟨rfl, rfl⟩ := hp; exact h
  · rename_i l ty g l'
    obtain ⟨rfl, rfl⟩ := hp
    obtain ⟨b, rfl, hh⟩ := h
    refine ⟨b, 0, rfl, fun w' hw' j u hu => ?_⟩
    have hbk := hw'.block b (Array.getElem?_eq_some_iff.1 hh).1 (hlent rfl rfl b rfl)
    rw [Nat.zero_add, cell_of_row w' b j _ ty (0, 0) (hbk.trans hh)]
    simpa using hu
  · rename_i τ e xs σ e' ys
    obtain ⟨rfl, hc⟩ := hp
    obtain ⟨hs, hl, hf⟩ := FTy.castL_ok hc
    subst hs
    change w.ownsRow 0 e τ.sz v xs.length (xs.flatMap τ.cells) at h
    show w.ownsRow 0 e τ.sz v ys.length (ys.flatMap τ.cells)
    rw [← hl, ← hf]; exact h
  · rename_i τ e xs g σ ys
    obtain ⟨rfl, hc⟩ := hp
    intro w' hw'
    refine rdSl_cast hc (sl_flat (M := M) (ρ := ρ) (Ch.sat_own (M' := M) (ρ' := ρ) h rfl (fun b hb => hw'.block b (Ch.own_lt h rfl hb) (hlent rfl rfl b hb)) (fun _ _ => rfl)) (.inl ⟨e, rfl⟩))
  · rename_i g' τ xs g σ ys
    obtain ⟨hg, hc⟩ := hp
    exact hmono hg (Pers.imp h fun w' hr => rdSl_cast hc hr)
  · rename_i g' l g l'
    obtain ⟨hg, rfl⟩ := hp
    obtain ⟨b, o, rfl, hP⟩ := h
    exact ⟨b, o, rfl, hmono hg hP⟩
  · rename_i g' F g G
    obtain ⟨hg, hFG⟩ := hp
    refine G.mono (hFG _ w v h) (Agree.refl _ _) fun b hb => .inl ?_
    cases g
    · cases g'
      · exact hm _ _ hb
      · exact hft b (hm _ _ hb)
    · rw [hg rfl]; exact hm _ _ hb

theorem subH_spec {f : Nat → Nat} {H H1 : Hp} (h : subH f H H1) : ∀ p ∈ H1, ∃ ch', hk H (f p.1) = some ch' ∧ prov ch' (p.2.ren f) := by
  induction H1 with
  | nil => intro p hp; simp at hp
  | cons q r ih =>
    obtain ⟨c, ch⟩ := q
    intro p hp
    rcases List.mem_cons.1 hp with rfl | hp
    · exact h.1
    · exact ih h.2 p hp
theorem prov_own {ch ch' : Ch} (h : prov ch ch') (ho : ch'.own = true) : ch.own = true := by
  cases ch <;> cases ch' <;> simp_all [prov, Ch.own]

theorem nodup_eq {H1 : Hp} (hnd : (H1.map Prod.fst).Nodup) {p q : Nat × Ch} (hp : p ∈ H1) (hq : q ∈ H1) (e : p.1 = q.1) : p = q := by
  induction H1 with
  | nil => simp at hp
  | cons x r ih =>
    simp only [List.map_cons, List.nodup_cons] at hnd
    rcases List.mem_cons.1 hp with rfl | hp' <;> rcases List.mem_cons.1 hq with rfl | hq'
    · rfl
    · exact absurd (List.mem_map.2 ⟨q, hq', e.symm⟩) hnd.1
    · exact absurd (List.mem_map.2 ⟨p, hp', e⟩) hnd.1
    · exact ih hnd.2 hp' hq'

/-- What is known, as it is known elsewhere. -/
theorem Holds.view {A A1 : Amb} {ρ : Vl} {w : World} {H H1 : Hp} {f : Nat → Nat} (h : Holds A ρ w H) (hs : subH f H H1) (hn : nodupB (H1.map Prod.fst) = true) (hsep : sepIds f H1 = true)
    (hframe : Agree A1.mw A1.w0 w) (hm : ∀ b, A1.m b → tot A ρ H true b) (hmine : ∀ b, Mine (fun c => ρ (f c)) H1 b → A1.w0.heap.size ≤ b ∨ A1.mw b)
    (hmw : ∀ b, A1.mw b → A1.m b) (hlt : ∀ b, A1.m b → b < A1.w0.heap.size) (hpin : ∀ p ∈ A1.pin, ρ (f p.1) = p.2) (hpl : ∀ p ∈ A1.pin, p.1 < 100) : Holds A1 (fun c => ρ (f c)) w H1 := by
  have hspec := subH_spec hs
  have hsp := sepIds_spec hsep
  have hmm : ∀ b, Mine (fun c => ρ (f c)) H1 b → Mine ρ H b := by
    rintro b ⟨p, hp, ho, hb⟩
    obtain ⟨ch', hk', hpr⟩ := hspec p hp
    exact ⟨_, hk_mem hk', prov_own hpr (by rw [Ch.own_ren]; exact ho), hb⟩
  have htot : ∀ g b, tot A1 (fun c => ρ (f c)) H1 g b → tot A ρ H g b := by
    rintro g b (⟨hg, hb⟩ | hb)
    · subst hg; exact hm b hb
    · exact .inr (hmm b hb)
  refine ⟨hframe, nodupB_spec hn, fun p hp => ?_, fun p hp q hq hop hoq hne b hb => ?_, hmine, hmw, hlt, hpin, hpl⟩
  · obtain ⟨ch', hk', hpr⟩ := hspec p hp
    have hsat := h.sat _ (hk_mem hk')
    rw [← Ch.sat_ren]
    refine prov_sat hsat hpr htot (fun b hb => by rcases hb with ⟨hg, _⟩ | hb; cases hg; exact .inr hb) fun ho ho' b hb => ?_
    rw [Ch.own_ren] at ho'
    rintro (⟨hg, _⟩ | ⟨q, hq, hoq, hbq⟩)
    · cases hg
    · obtain ⟨ch2, hk2, hpr2⟩ := hspec q hq
      have ho2 := prov_own hpr2 (by rw [Ch.own_ren]; exact hoq)
      have hne : p.1 ≠ q.1 := by
        intro e
        have : p = q := nodup_eq (nodupB_spec hn) hp hq e
        subst this
        rw [ho'] at hoq; cases hoq
      exact h.apart _ (hk_mem hk') _ (hk_mem hk2) ho ho2 (hsp q hq hoq p hp hne) b hb hbq
  · obtain ⟨ch', hk', hpr⟩ := hspec p hp
    obtain ⟨ch2, hk2, hpr2⟩ := hspec q hq
    exact h.apart _ (hk_mem hk') _ (hk_mem hk2) (prov_own hpr (by rw [Ch.own_ren]; exact hop)) (prov_own hpr2 (by rw [Ch.own_ren]; exact hoq)) (hsp q hq hoq p hp hne) b hb

theorem subE_ok {N : Fm} {ρ : Vl} {a : Act} {f : Nat → Nat} {E E1 : Env} (hE : EnvOk N ρ E a) (hs : subE f E E1) : EnvOk N (fun c => ρ (f c)) E1 a := by
  refine ⟨hE.defers, hE.size, fun t x hx => ?_⟩
  induction E1 with
  | nil => simp [lk] at hx
  | cons p r ih =>
    obtain ⟨k, y⟩ := p
    simp only [subE] at hs
    simp only [lk] at hx
    split at hx
    · rename_i e; subst e
      simp only [Option.some.injEq] at hx; subst hx
      rw [← SV.den_ren]
      exact hE.at_ k _ hs.1
    · exact ih hs.2 hx

/-- Where one state is a case of another one. -/
def Sub (σ : List (Nat × Nat)) (E : Env) (H : Hp) (E1 : Env) (H1 : Hp) : Prop :=
  subE (rnL σ) E E1 ∧ subH (rnL σ) H H1 ∧ nodupB (H1.map Prod.fst) = true ∧ sepIds (rnL σ) H1 = true ∧ σ.all (fun p => decide (100 ≤ p.1)) = true
theorem rnL_low {σ : List (Nat × Nat)} (h : σ.all (fun p => decide (100 ≤ p.1)) = true) {c : Nat} (hc : c < 100) : rnL σ c = c := by
  induction σ with
  | nil => rfl
  | cons p r ih =>
    obtain ⟨k, x⟩ := p
    simp only [List.all_cons, Bool.and_eq_true, decide_eq_true_eq] at h
    simp only [rnL]
    rw [if_neg (by omega)]
    exact ih h.2
theorem Sub.ok {A : Amb} {N : Fm} {σ : List (Nat × Nat)} {E E1 : Env} {H H1 : Hp} (hs : Sub σ E H E1 H1) {ρ : Vl} {w : World} {a : Act} (h : Holds A ρ w H) (hE : EnvOk N ρ E a) :
    ∃ ρ', Holds A ρ' w H1 ∧ EnvOk N ρ' E1 a := by
  obtain ⟨h1, h2, h3, h4, h5⟩ := hs
  refine ⟨fun c => ρ (rnL σ c), h.view h2 h3 h4 h.frame (fun b hb => .inl ⟨rfl, hb⟩) (fun b hb => ?_) h.mw_m h.m_lt (fun p hp => ?_) h.pin_lt, subE_ok hE h1⟩
  · obtain ⟨p, hp, ho, hbb⟩ := hb
    obtain ⟨ch', hk', hpr⟩ := subH_spec h2 p hp
    exact h.mine b ⟨_, hk_mem hk', prov_own hpr (by rw [Ch.own_ren]; exact ho), hbb⟩
  · rw [rnL_low h5 (h.pin_lt p hp)]; exact h.pin p hp

section
variable {A : Amb} {E E1 : Env} {H H1 : Hp} {N : Fm} {C : Cfg}
theorem X_sub {c : Code} {Q : Exit → Env → Hp → Prop} (σ : List (Nat × Nat)) (E1 : Env) (H1 : Hp) (hs : Sub σ E H E1 H1) (h : X C A N c E1 H1 Q) : X C A N c E H Q := by
  intro ρ w a h1 h2
  obtain ⟨ρ', g1, g2⟩ := hs.ok h1 h2
  exact h ρ' w a g1 g2

/-- A loop: states by a parameter, a measure on it. -/
theorem X_loop {α : Type} {c : Code} {Q : Exit → Env → Hp → Prop} (J : α → Prop) (μ : α → Nat) (E1 : α → Env) (H1 : α → Hp) (x0 : α) (σ : List (Nat × Nat)) (h0 : J x0) (hs : Sub σ E H (E1 x0) (H1 x0))
    (hr : ∀ x, J x → ∀ K : Env → Hp → Prop, (∀ E H y σ, J y → μ y < μ x → Sub σ E H (E1 y) (H1 y) → K E H) → X C A N c (E1 x) (H1 x) (Then K Q)) : X C A N (.loop c) E H Q := by
  intro ρ w a h1 h2
  obtain ⟨ρ0, g1, g2⟩ := hs.ok h1 h2
  refine wpIn_loop_ghost (fun n a w => ∃ x ρ, J x ∧ μ x = n ∧ Holds A ρ w (H1 x) ∧ EnvOk N ρ (E1 x) a) (μ x0) ⟨x0, ρ0, h0, rfl, g1, g2⟩ ?_
  rintro n a w ⟨x, ρ, hJ, rfl, k1, k2⟩
  refine wpIn_mono (hr x hJ (fun E H => ∃ y σ, J y ∧ μ y < μ x ∧ Sub σ E H (E1 y) (H1 y)) (fun E H y σ a1 a2 a3 => ⟨y, σ, a1, a2, a3⟩) ρ w a k1 k2) fun e a w he => ?_
  obtain ⟨ρ', E', H', m1, m2, m3⟩ := he
  cases e with
  | normal =>
    obtain ⟨y, σ, hJy, hμ, hsub⟩ := m3
    obtain ⟨ρ2, n1, n2⟩ := hsub.ok m1 m2
    exact ⟨μ y, hμ, y, ρ2, hJy, rfl, n1, n2⟩
  | _ => exact ⟨ρ', E', H', m1, m2, m3⟩

/-- Pieces of code meet: what they leave is one state by a parameter. -/
theorem X_cut {α : Type} {x y : Code} {Q : Exit → Env → Hp → Prop} (J : α → Prop) (E1 : α → Env) (H1 : α → Hp)
    (h : ∀ K : Env → Hp → Prop, (∀ E H z σ, J z → Sub σ E H (E1 z) (H1 z) → K E H) → X C A N x E H (Then K Q)) (hk : ∀ z, J z → X C A N y (E1 z) (H1 z) Q) : X C A N (.seq x y) E H Q :=
  X_seq fun K hK => h K fun E H z σ hJ hs => hK E H (X_sub σ _ _ hs (hk z hJ))
end

end Go.Proofs.Ytgbmhfbfcbjccaa
