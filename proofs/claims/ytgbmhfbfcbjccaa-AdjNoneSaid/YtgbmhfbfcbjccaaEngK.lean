/- The engine's rules as the walk uses them. Conditions: none; plain theorems. -/
import Derived.Test.YtgbmhfbfcbjccaaEngJ
namespace Go.Proofs.Ytgbmhfbfcbjccaa
set_option linter.unusedSimpArgs false
set_option linter.unusedVariables false
open Go.RowKit

section
variable (C : Cfg) (A : Amb) (N : Fm) (ops : List Oper) (K : Env → Hp → Prop) (r : List Oper) (o : Oper) (E : Env) (H : Hp) (rest : Env → Hp → Prop)
def runG (g : Option (Nat × Bool)) : Prop :=
  match g with
  | none => runU C A N o (runOps C A N ops K r) E H
  | some (g, want) => guardK ops g want E (runU C A N o (runOps C A N ops K r) E H) (skipU N o (runOps C A N ops K r) E H)
@[go_sem] theorem runOps_nil : runOps C A N ops K [] E H = K E H := rfl
@[go_sem] theorem runOps_cons : runOps C A N ops K (o :: r) E H = runG C A N ops K r o E H o.guard := rfl
@[go_sem] theorem runG_none : runG C A N ops K r o E H none = runU C A N o (runOps C A N ops K r) E H := rfl
@[go_sem] theorem runU_eq : runU C A N o rest E H = stepK (step C N E H o) rest (XCall C A N E H o rest) := rfl
@[go_sem] theorem skipU_eq : skipU N o rest E H = (dOk N o.dst = true ∧ rest (eput E o.dst undefSV) H) := rfl
end
def gF (b want : Bool) (Y Z : Env → Hp → Prop) (E : Env) (H : Hp) : Prop := (b = want → Y E H) ∧ (b ≠ want → Z E H)
def gK (s : Option SV) (want : Bool) (Y Z : Env → Hp → Prop) (E : Env) (H : Hp) : Prop :=
  match s with
  | some (.a (.v (.bool b))) => gF b want Y Z E H
  | some (.t _) => Z E H
  | _ => False
@[go_sem] theorem gK_t (l : List Pt) (want : Bool) (Y Z : Env → Hp → Prop) (E : Env) (H : Hp) : gK (some (.t l)) want Y Z E H = Z E H := rfl
@[go_sem] theorem gK_u (want : Bool) (Y Z : Env → Hp → Prop) (E : Env) (H : Hp) : gK (some undefSV) want Y Z E H = Z E H := rfl
section
variable (C : Cfg) (A : Amb) (N : Fm) (ops : List Oper) (K : Env → Hp → Prop) (r : List Oper) (o : Oper) (E : Env) (H : Hp) (rest : Env → Hp → Prop)
@[go_sem] theorem runG_some (g : Nat) (want : Bool) : runG C A N ops K r o E H (some (g, want)) = gK ((gslot ops g).bind (lk E)) want (runU C A N o (runOps C A N ops K r)) (skipU N o (runOps C A N ops K r)) E H := by
  unfold runG guardK gK; rfl
end
@[go_sem] theorem gK_b (b want : Bool) (Y Z : Env → Hp → Prop) (E : Env) (H : Hp) : gK (some (.a (.v (.bool b)))) want Y Z E H = gF b want Y Z E H := rfl
section
variable (Y Z : Env → Hp → Prop) (E : Env) (H : Hp)
@[go_sem] theorem gF_tt : gF true true Y Z E H = Y E H := by simp [gF]
@[go_sem] theorem gF_ff : gF false false Y Z E H = Y E H := by simp [gF]
@[go_sem] theorem gF_tf : gF true false Y Z E H = Z E H := by simp [gF]
@[go_sem] theorem gF_ft : gF false true Y Z E H = Z E H := by simp [gF]
end
theorem gF_t {b : Bool} {Y Z : Env → Hp → Prop} {E : Env} {H : Hp} (h1 : b = true → Y E H) (h2 : b = false → Z E H) : gF b true Y Z E H :=
  ⟨h1, fun h => h2 (by cases b <;> simp_all)⟩
theorem gF_f {b : Bool} {Y Z : Env → Hp → Prop} {E : Env} {H : Hp} (h1 : b = false → Y E H) (h2 : b = true → Z E H) : gF b false Y Z E H :=
  ⟨h1, fun h => h2 (by cases b <;> simp_all)⟩
section
variable {C : Cfg} {A : Amb} {N : Fm} {E : Env} {H : Hp} {Q : Exit → Env → Hp → Prop}
theorem X_sc {c : Operand} {x y z : Code} {b : Bool} (hc : opv E c = some (.a (.v (.bool b)))) (h : ∀ K : Env → Hp → Prop, (∀ E H, X C A N z E H Q → K E H) → (b = true → X C A N x E H (Then K Q)) ∧ (b = false → X C A N y E H (Then K Q))) : X C A N (.seq (.cond c x y) z) E H Q :=
  X_seq fun K hK => X_cond hc (h K hK).1 (h K hK).2
theorem X_sb {id : Nat} {x z : Code} (h : ∀ K : Env → Hp → Prop, (∀ E H, X C A N z E H Q → K E H) → X C A N x E H (InBlock id (Then K Q))) : X C A N (.seq (.block id x) z) E H Q :=
  X_seq fun K hK => X_block (h K hK)
theorem X_ss {x y z : Code} (h : ∀ K : Env → Hp → Prop, (∀ E H, X C A N z E H Q → K E H) → X C A N (.seq x y) E H (Then K Q)) : X C A N (.seq (.seq x y) z) E H Q :=
  X_seq h
theorem X_ssk {z : Code} (h : X C A N z E H Q) : X C A N (.seq .skip z) E H Q := X_seq fun _ hK => X_skip (hK _ _ h)
end
theorem gF_cases {b want : Bool} {Y Z : Env → Hp → Prop} {E : Env} {H : Hp} (h1 : b = want → Y E H) (h2 : b = (!want) → Z E H) : gF b want Y Z E H :=
  ⟨h1, fun h => h2 (by cases b <;> cases want <;> simp_all)⟩

section
variable (K : Env → Hp → Prop) (Q : Exit → Env → Hp → Prop) (E : Env) (H : Hp)
@[go_sem] theorem then_normal : Then K Q .normal E H = K E H := rfl
@[go_sem] theorem then_ret : Then K Q .ret E H = Q .ret E H := rfl
@[go_sem] theorem then_exit (id : Nat) : Then K Q (.exit id) E H = Q (.exit id) E H := rfl
@[go_sem] theorem inb_normal (id : Nat) : InBlock id Q .normal E H = Q .normal E H := rfl
@[go_sem] theorem inb_ret (id : Nat) : InBlock id Q .ret E H = Q .ret E H := rfl
@[go_sem] theorem inb_exit (id id' : Nat) : InBlock id Q (.exit id') E H = if id' = id then Q .normal E H else Q (.exit id') E H := rfl
end

def retG {α : Type} (φ : α → Prop) (s1 : α → SV) (H1 : α → Hp) (H : Hp) : Option SV → Prop
  | some s => ∃ x, φ x ∧ Ent s H (s1 x) (H1 x)
  | none => False
section
variable (C : Cfg) (fn : Func) {α : Type} (φ : α → Prop) (s1 : α → SV) (H1 : α → Hp) (E : Env) (H : Hp)
@[go_sem] theorem retQ_ret : RetQ C fn φ s1 H1 .ret E H = retG φ s1 H1 H ((resL C E H fn.results.toList).map ptsSV) := by
  simp only [RetQ, resV]
  generalize (resL C E H fn.results.toList).map ptsSV = o
  cases o <;> simp [retG]
@[go_sem] theorem retQ_normal : RetQ C fn φ s1 H1 .normal E H = retG φ s1 H1 H ((resL C E H fn.results.toList).map ptsSV) := by
  simp only [RetQ, resV]
  generalize (resL C E H fn.results.toList).map ptsSV = o
  cases o <;> simp [retG]
@[go_sem] theorem retG_some (s : SV) : retG φ s1 H1 H (some s) = ∃ x, φ x ∧ Ent s H (s1 x) (H1 x) := rfl
end
section
variable {C : Cfg} {fn : Func} {α : Type} {φ : α → Prop} {s1 : α → SV} {H1 : α → Hp} {E : Env} {H : Hp} {K : Env → Hp → Prop} {Q : Exit → Env → Hp → Prop} {id : Nat}
theorem then_n (h : K E H) : Then K Q .normal E H := h
theorem inb_n (h : Q .normal E H) : InBlock id Q .normal E H := h
theorem ret_n (h : retG φ s1 H1 H ((resL C E H fn.results.toList).map ptsSV)) : RetQ C fn φ s1 H1 .normal E H := by rw [retQ_normal]; exact h
end
theorem ent_refl (s : SV) (H : Hp) : Ent s H s H := fun _ ρ _ _ _ g => ⟨ρ, rfl, g⟩

attribute [go_sem] step pureStep effStep appArgs dOk eput lk hk hset hdel opv constSV st bin binH efSlice bndV intBin shBin isShift boolEq eqCells un lenV idxV fldAddr capsOf
  opLoad boxLoad elemLoad takeA nthA placeOf buildL onePart sizedOffs partsV buildV Pt.sv
  efAlloc efBox efStore elemStore efBuildS efMake efAppend slRead partsD frsh freshE freshH SV.men Pt.men At.men menL Ch.men cid oneL At.oneH SV.flat putL valsOf
  gslot nthO XCall allSome capsSV FTy.cells FTy.read FTy.sz FTy.dflt FTy.castL Value.oneCell' ArcD.cells
  res1 resL ptsSV resV argE
attribute [go_sem] List.all_cons List.all_nil List.any_cons List.any_nil Bool.or_false Bool.false_or Bool.and_true Bool.true_and Bool.and_self Bool.or_self List.cons_append List.nil_append
attribute [go_sem] List.take_succ_cons List.take_zero List.take_nil List.drop_succ_cons List.drop_zero List.drop_nil List.length_cons List.length_nil Nat.le_refl
attribute [go_sem] Option.isNone_some Option.isNone_none Bool.false_eq_true and_false false_and or_false false_or or_true true_or undefSV List.getD_cons_zero List.getD_cons_succ
attribute [go_sem] List.getElem?_cons_zero List.getElem?_cons_succ Option.map_some Option.map_none Option.bind_some Option.bind_none and_true true_and Bool.not_false Bool.not_true List.map_nil List.map_cons List.toList_toArray
attribute [go_sem] stepK_some stepK_none
attribute [go_sem] List.append_eq Int.toNat_natCast decide_true decide_false ne_eq not_false_eq_true not_true_eq_false Sub subE subH prov nodupB sepIds rnL Ch.own
end Go.Proofs.Ytgbmhfbfcbjccaa
