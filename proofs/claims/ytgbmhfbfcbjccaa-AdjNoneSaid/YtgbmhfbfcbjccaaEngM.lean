/- The engine's rules for numbers, lengths, and nil slices. Conditions: none; plain theorems. -/
import Derived.Test.YtgbmhfbfcbjccaaEngL
namespace Go.Proofs.Ytgbmhfbfcbjccaa
set_option linter.unusedSimpArgs false
set_option linter.unusedVariables false
open Go.RowKit

theorem wrap64 {n : Int} (h1 : -9223372036854775808 ≤ n) (h2 : n ≤ 9223372036854775807) : IntKind.i64.wrap n = n := by
  simp [IntKind.wrap, IntKind.bits, IntKind.signed]
  split <;> omega
theorem wrap8 {n : Int} (h1 : 0 ≤ n) (h2 : n ≤ 255) : IntKind.u8.wrap n = n := by
  simp [IntKind.wrap, IntKind.bits, IntKind.signed]
  omega

/-! short names for the walk's plain lemmas -/
theorem tq {a b : Int} (h : 0 ≤ a) : a.tdiv b = a / b := Int.tdiv_eq_ediv_of_nonneg h
theorem tr {a b : Int} (h : 0 ≤ a) : a.tmod b = a % b := Int.tmod_eq_emod_of_nonneg h
theorem bo1 (p : Prop) [Decidable p] : (decide p = true) = p := decide_eq_true_eq
theorem bo2 (p : Prop) [Decidable p] : (decide p = false) = ¬ p := by simp
theorem bo3 (b : Bool) : ((!b) = true) = (b = false) := by simp
theorem bo4 (b : Bool) : ((!b) = false) = (b = true) := by simp
theorem bo5 : (!true) = false := rfl
theorem bo6 : (!false) = true := rfl
theorem bo7 (a b : Int) : (¬ a < b) = (b ≤ a) := propext Int.not_lt
theorem bo8 (a b : Int) : (¬ a ≤ b) = (b < a) := propext Int.not_le
theorem bo9 (a b : Int) : (a ≥ b) = (b ≤ a) := rfl
theorem bo10 (a b : Int) : (a > b) = (b < a) := rfl
theorem bo11 (p : Prop) : (¬ ¬ p) = p := propext Classical.not_not
theorem bo12 (a b : Bool) : ((a && b) = true) = (a = true ∧ b = true) := by simp
theorem bo13 (a b : Bool) : ((a || b) = false) = (a = false ∧ b = false) := by simp
theorem ln1 {α : Type} (l : List α) (n : Nat) (a : α) : (l.set n a).length = l.length := List.length_set
theorem ln2 {α : Type} (l m : List α) : (l ++ m).length = l.length + m.length := List.length_append
theorem ln3 {α : Type} (a : α) (l : List α) : (a :: l).length = l.length + 1 := List.length_cons
theorem ln4 {α : Type} : ([] : List α).length = 0 := rfl
theorem ln5 {α : Type} (n : Nat) (a : α) : (List.replicate n a).length = n := List.length_replicate
section
variable {A : Amb} {E : Env} {H : Hp} {N : Fm} {C : Cfg}
/-- A nil slice as an empty one of one's own. -/
theorem X_adopt {c : Code} {Q : Exit → Env → Hp → Prop} (t d : Nat) (τ : FTy) (e : TypeId) (ht : lk E t = some (.a (.v (.slice none 0 0)))) (hf : frsh (cid d) E H)
    (h : X C A N c ((t, .a (.ref (cid d))) :: E) ((cid d, .row τ e []) :: H) Q) : X C A N c E H Q := by
  intro ρ w a h1 h2
  obtain ⟨k1, k2⟩ := h1.newRow h2 hf (Agree.refl _ w) (.slice none 0 0) τ e [] (World.ownsRow_nil w _ _ _)
  refine h _ w a k1 ⟨k2.defers, k2.size, fun t' x hx => ?_⟩
  simp only [lk] at hx
  split at hx
  · rename_i he
    subst he
    simp only [Option.some.injEq] at hx
    subst hx
    have := h2.at_ _ _ ht
    simp only [SV.den, At.den] at this ⊢
    rw [upd_same]; exact this
  · exact k2.at_ _ _ hx
theorem rdSl_len {τ : FTy} {w : World} {v : Value} {xs : List τ.D} (h : RdSl τ w v xs) : xs.length ≤ 9223372036854775807 := by
  obtain ⟨_, _, _, h, _⟩ := h; exact h.1
theorem X_rdlen {c : Code} {Q : Exit → Env → Hp → Prop} {k : Nat} {g : Bool} {τ : FTy} {xs : List τ.D} (hk : hk H k = some (.rd g τ xs)) (h : xs.length ≤ 9223372036854775807 → X C A N c E H Q) : X C A N c E H Q := by
  intro ρ w a h1 h2
  exact h (rdSl_len (Pers.now (h1.sat _ (hk_mem hk)))) ρ w a h1 h2
theorem X_rowlen {c : Code} {Q : Exit → Env → Hp → Prop} {k : Nat} {e : TypeId} {τ : FTy} {xs : List τ.D} (hk : hk H k = some (.row τ e xs)) (h : xs.length ≤ 9223372036854775807 → X C A N c E H Q) : X C A N c E H Q := by
  intro ρ w a h1 h2
  refine h ?_ ρ w a h1 h2
  have := h1.sat _ (hk_mem hk)
  change w.ownsRow 0 e τ.sz _ xs.length (xs.flatMap τ.cells) at this
  rcases this.2 with ⟨_, h0⟩ | ⟨g, cap, cur, _, _, _, h5, h6, _⟩
  · omega
  · simp only [maxLen] at h6; omega
end
end Go.Proofs.Ytgbmhfbfcbjccaa
