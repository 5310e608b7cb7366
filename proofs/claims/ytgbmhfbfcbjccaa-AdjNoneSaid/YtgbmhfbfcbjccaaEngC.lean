/- The engine's operations that only compute or read, all of them in one table, and its soundness. Conditions: none; plain definitions and theorems. -/
import Derived.Test.YtgbmhfbfcbjccaaEngB
namespace Go.Proofs.Ytgbmhfbfcbjccaa
set_option linter.unusedSimpArgs false
set_option linter.unusedVariables false
open Go.RowKit

def At.oneH (H : Hp) : At → Bool
  | .v x => x.oneCell'
  | .ref c => (hk H c).isSome
  | _ => true
def oneL (H : Hp) (l : List At) : Bool := l.all (At.oneH H)
def SV.flat : SV → Option (List At)
  | .a x => some [x]
  | .g l => some l
  | .t _ => none
theorem Ch.sat_one {M : Bool → Nat → Prop} {ρ : Vl} {w : World} {v : Value} {ch : Ch} (h : ch.sat M ρ w v) : v.oneCell' = true := by
  cases ch with
  | box l ty => obtain ⟨b, rfl, _⟩ := h; rfl
  | row τ e xs => obtain ⟨A, cap, rfl, _⟩ := sl_cells h (.inl ⟨_, rfl⟩); rfl
  | rd g τ xs => obtain ⟨A, cap, rfl, _⟩ := sl_cells h (.inr ⟨_, rfl⟩); rfl
  | rbox g l => obtain ⟨b, o, rfl, _⟩ := h; rfl
  | per g F => exact F.one h
theorem At.oneH_den {ρ : Vl} {w : World} {H : Hp} (hH : SatH ρ w H) {x : At} (h : x.oneH H = true) : (x.den ρ).oneCell' = true := by
  obtain ⟨M, hM⟩ := hH
  cases x with
  | v x => exact h
  | ref c =>
    simp only [At.oneH, Option.isSome_iff_exists] at h
    obtain ⟨ch, hc⟩ := h
    exact Ch.sat_one (hM _ (hk_mem hc))
  | ptr c o => obtain ⟨b, o', hb⟩ := shiftV_form (ρ c) o; simp only [At.den, hb]; rfl
  | elem c k sz o => obtain ⟨b, o', hb⟩ := shiftV_form (ρ c) (k * sz + o); simp only [At.den, hb]; rfl
  | fn f caps => rfl
theorem oneL_den {ρ : Vl} {w : World} {H : Hp} (hH : SatH ρ w H) {l : List At} (h : oneL H l = true) : ∀ u ∈ denL ρ l, u.oneCell' = true := by
  intro u hu
  obtain ⟨x, hx, rfl⟩ := List.mem_map.1 hu
  exact At.oneH_den hH (List.all_eq_true.1 h x hx)
theorem cells_one {v : Value} (h : v.oneCell' = true) : v.cells = #[v] := by cases v <;> simp_all [Value.oneCell', Value.cells]
theorem flat_cells {ρ : Vl} {w : World} {H : Hp} (hH : SatH ρ w H) {s : SV} {l : List At} (hs : s.flat = some l) (h : oneL H l = true) : (s.den ρ).cells = (denL ρ l).toArray := by
  cases s with
  | a x =>
    simp only [SV.flat, Option.some.injEq] at hs; subst hs
    simp only [oneL, List.all_cons, List.all_nil, Bool.and_true] at h
    simp only [SV.den, cells_one (At.oneH_den hH h), denL, List.map_cons, List.map_nil]
  | g l' => simp only [SV.flat, Option.some.injEq] at hs; subst hs; rfl
  | t l' => simp [SV.flat] at hs

def putL {α : Type} : List α → Nat → List α → Option (List α)
  | l, 0, [] => some l
  | _ :: l, 0, y :: ys => (putL l 0 ys).map (y :: ·)
  | x :: l, o + 1, ys => (putL l o ys).map (x :: ·)
  | [], _, _ => none
theorem putL_spec {α : Type} {l r ys : List α} {o : Nat} (h : putL l o ys = some r) : r = l.take o ++ ys ++ l.drop (o + ys.length) ∧ o + ys.length ≤ l.length := by
  induction l generalizing o ys r with
  | nil =>
    cases o with
    | zero => cases ys <;> simp [putL] at h; subst h; simp
    | succ o => simp [putL] at h
  | cons x l ih =>
    cases o with
    | zero =>
      cases ys with
      | nil => simp [putL] at h; subst h; simp
      | cons y ys =>
        simp only [putL, Option.map_eq_some_iff] at h
        obtain ⟨r', hr', rfl⟩ := h
        obtain ⟨h1, h2⟩ := ih hr'
        refine ⟨?_, by simp at h2 ⊢; omega⟩
        rw [h1]
        simp only [List.take_zero, List.nil_append, List.length_cons, Nat.zero_add, List.cons_append]
        rfl
    | succ o =>
      simp only [putL, Option.map_eq_some_iff] at h
      obtain ⟨r', hr', rfl⟩ := h
      obtain ⟨h1, h2⟩ := ih hr'
      refine ⟨?_, by simp at h2 ⊢; omega⟩
      rw [h1]
      simp only [List.take_succ_cons, List.cons_append, List.append_assoc, List.cons.injEq, true_and]
      rw [show o + 1 + ys.length = (o + ys.length) + 1 from by omega, List.drop_succ_cons]

/-- Of structs of which '==' is that of all cells, what each cell is. -/
def flatFs (P : Program) : Nat → List Field → Option (List Nat)
  | _, [] => some []
  | i, f :: fs => if f.name ≠ "_" ∧ f.offset = i ∧ aggOf P f.type = false ∧ (kndOf P f.type = 1 ∨ kndOf P f.type = 2) then (flatFs P (i + 1) fs).map (kndOf P f.type :: ·) else none
def flatS (P : Program) (t : Nat) : Option (List Nat) :=
  match P.underlying t with
  | some (.struct fs) => if P.stoodInHeld t = false ∧ P.eqGuardType P.depth t = false then flatFs P 0 fs.toList else none
  | _ => none

def intBin (op : BinOp) (k : IntKind) (a b : Int) : Option (Prop × SV) :=
  match op with
  | .add => some (True, .a (.v (.int k (k.wrap (a + b)))))
  | .sub => some (True, .a (.v (.int k (k.wrap (a - b)))))
  | .mul => some (True, .a (.v (.int k (k.wrap (a * b)))))
  | .quo => some (b ≠ 0, .a (.v (.int k (k.wrap (a.tdiv b)))))
  | .rem => some (b ≠ 0, .a (.v (.int k (a.tmod b))))
  | .eql => some (True, .a (.v (.bool (decide (a = b)))))
  | .neq => some (True, .a (.v (.bool (decide (a ≠ b)))))
  | .lss => some (True, .a (.v (.bool (decide (a < b)))))
  | .leq => some (True, .a (.v (.bool (decide (a ≤ b)))))
  | .gtr => some (True, .a (.v (.bool (decide (b < a)))))
  | .geq => some (True, .a (.v (.bool (decide (b ≤ a)))))
  | _ => none
def shBin (op : BinOp) (k : IntKind) (a b : Int) : Option (Prop × SV) :=
  match op with
  | .shl => some (0 ≤ b, .a (.v (.int k (k.wrap (a * 2 ^ (min b.toNat k.bits))))))
  | .shr => some (0 ≤ b, .a (.v (.int k (a.fdiv (2 ^ (min b.toNat k.bits))))))
  | _ => none
/-- Are cells of numbers and marks the same? -/
def eqCells : List Nat → List At → List At → Option Bool
  | [], [], [] => some true
  | 1 :: ks, .v (.int k a) :: l, .v (.int k' b) :: r => if k = k' then (eqCells ks l r).map fun x => decide (a = b) && x else none
  | 2 :: ks, .v (.bool a) :: l, .v (.bool b) :: r => (eqCells ks l r).map fun x => (a == b) && x
  | _, _, _ => none
def isShift : BinOp → Bool
  | .shl | .shr => true
  | _ => false
def boolEq (op : BinOp) (b : Bool) : Option (Prop × SV) :=
  match op with
  | .eql => some (True, .a (.v (.bool b)))
  | .neq => some (True, .a (.v (.bool (!b))))
  | _ => none

def bin (P : Program) (op : BinOp) (t : TypeId) : SV → SV → Option (Prop × SV)
  | .a (.v (.int k a)), .a (.v (.int k' b)) => if isShift op = true then shBin op k a b else if k = k' then intBin op k a b else none
  | .a (.v (.bool a)), .a (.v (.bool b)) => if kndOf P t = 2 then boolEq op (a == b) else none
  | .a (.v (.pointer p)), .a (.v (.pointer none)) => if kndOf P t = 4 then boolEq op p.isNone else none
  | .a (.ptr _ _), .a (.v (.pointer none)) => if kndOf P t = 4 then boolEq op false else none
  | .g l, .g r =>
    match flatS P t with
    | some ks => (eqCells ks l r).bind (boolEq op)
    | none => none
  | _, _ => none

/-- Two values, one of which is perhaps a slice, and nil. -/
def binH (P : Program) (H : Hp) (op : BinOp) (t : TypeId) (x y : SV) : Option (Prop × SV) :=
  match x, y with
  | .a (.ref c), .a (.v (.slice none 0 0)) =>
    if kndOf P t = 3 then
      match hk H c with
      | some (.row _ _ xs) => (boolEq op false).map fun r => (0 < xs.length ∧ r.1, r.2)
      | some (.rd _ _ xs) => (boolEq op false).map fun r => (0 < xs.length ∧ r.1, r.2)
      | _ => none
    else none
  | .a (.v (.slice none 0 0)), .a (.v (.slice none 0 0)) => if kndOf P t = 3 then boolEq op true else none
  | x, y => bin P op t x y
def un (op : UnOp) : SV → Option (Prop × SV)
  | .a (.v (.int k a)) => match op with
    | .neg => some (True, .a (.v (.int k (k.wrap (0 - a)))))
    | _ => none
  | .a (.v (.bool b)) => match op with
    | .not => some (True, .a (.v (.bool (!b))))
    | _ => none
  | _ => none

def Pt.sv : Pt → SV
  | .a x => .a x
  | .g l => .g l
theorem Pt.sv_den (ρ : Vl) (x : Pt) : x.sv.den ρ = x.den ρ := by cases x <;> rfl

def lenV (H : Hp) : SV → Option SV
  | .a (.ref c) =>
    match hk H c with
    | some (.row _ _ xs) => some (.a (.v (.int .i64 (xs.length : Int))))
    | some (.rd _ _ xs) => some (.a (.v (.int .i64 (xs.length : Int))))
    | _ => none
  | .a (.v (.slice none 0 0)) => some (.a (.v (.int .i64 0)))
  | _ => none

def idxV (P : Program) (H : Hp) (ti : TI) : SV → SV → Option (Prop × SV)
  | .a (.ref c), .a (.v (.int _ i)) =>
    match hk H c with
    | some (.row τ _ xs) => if ti.knd = 3 ∧ szOf P ti.elem = τ.sz ∧ τ.sz ≠ 0 then some (0 ≤ i ∧ i < (xs.length : Int), .a (.elem c i.toNat τ.sz 0)) else none
    | some (.rd _ τ xs) => if ti.knd = 3 ∧ szOf P ti.elem = τ.sz ∧ τ.sz ≠ 0 then some (0 ≤ i ∧ i < (xs.length : Int), .a (.elem c i.toNat τ.sz 0)) else none
    | _ => none
  | _, _ => none

def fldAddr (off : Nat) : At → Option (Prop × SV)
  | .ptr c o => some (True, .a (.ptr c (o + off)))
  | .elem c k sz o => some (True, .a (.elem c k sz (o + off)))
  | _ => none

def capsOf : List (Option SV) → Option (List Nat)
  | [] => some []
  | some (.a (.ptr c 0)) :: l => (capsOf l).map (c :: ·)
  | _ => none

/-- Parts put into their places. -/
def placeOf (P : Program) (ti : TI) (i : Nat) : Option (Nat × Nat) :=
  if ti.knd = 5 then (ti.offs[i]?).map fun x => (x.1, x.2.1) else if ti.knd = 6 then some (i * szOf P ti.elem, szOf P ti.elem) else none
def buildL (pl : Nat → Option (Nat × Nat)) : List At → List (Nat × Option SV) → Option (List At)
  | acc, [] => some acc
  | acc, (i, some s) :: r =>
    match pl i, s.flat with
    | some (off, sz), some l =>
      if l.length = sz then
        match putL acc off l with
        | some acc' => buildL pl acc' r
        | none => none
      else none
    | _, _ => none
  | _, (_, none) :: _ => none
def onePart (H : Hp) : List (Nat × Option SV) → Bool
  | [] => true
  | (_, some s) :: r => (match s.flat with | some l => oneL H l | none => false) && onePart H r
  | (_, none) :: _ => false
def sizedOffs : List (Nat × Nat × Nat) → Bool
  | [] => true
  | (_, sz, _) :: r => decide (sz ≠ 0) && sizedOffs r
def partsV (E : Env) (parts : Array (Nat × Operand)) : List (Nat × Option SV) := parts.toList.map fun x => (x.1, opv E x.2)
def buildV (P : Program) (E : Env) (H : Hp) (ti : TI) (parts : Array (Nat × Operand)) : Option (Prop × SV) :=
  (buildL (placeOf P ti) (ti.zero.map At.v) (partsV E parts)).map fun l => (onePart H (partsV E parts) = true ∧ ((ti.knd = 5 ∧ sizedOffs ti.offs = true) ∨ (ti.knd = 6 ∧ szOf P ti.elem ≠ 0)), .g l)

/-- What an operation that only computes or reads yields, and what it asks. -/
def st (P : Program) (E : Env) (H : Hp) : Op → Option (Prop × SV)
  | .move x => (opv E x).map fun s => (True, s)
  | .assign x => (opv E x).map fun s => (True, s)
  | .pick c a b =>
    match opv E c, opv E a, opv E b with
    | some (.a (.v (.bool c'))), some x, some y => some (True, if c' = true then x else y)
    | _, _, _ => none
  | .nilCheck x =>
    match opv E x with
    | some (.a (.ptr c o)) => some (True, .a (.ptr c o))
    | some (.a (.elem c k sz o)) => some (True, .a (.elem c k sz o))
    | some (.a (.fn (.func f) l)) => some (True, .a (.fn (.func f) l))
    | _ => none
  | .fieldAddr t x f =>
    match opv E x, tiOf P t with
    | some (.a p), some ti =>
      match ti.offs[f]? with
      | some (off, sz, _) => if sz = 0 then none else fldAddr off p
      | none => none
    | _, _ => none
  | .load t x =>
    match opv E x, tiOf P t with
    | some (.a p), some ti => opLoad H ti p
    | _, _ => none
  | .binOp op t x y _ =>
    match opv E x, opv E y with
    | some a, some b => binH P H op t a b
    | _, _ => none
  | .unOp op _ x =>
    match opv E x with
    | some a => un op a
    | _ => none
  | .convert s d x =>
    match opv E x, tiOf P s, tiOf P d with
    | some (.a (.v (.int _ n))), some _, some ti => if ti.knd = 1 then some (True, .a (.v (.int ti.ik (ti.ik.wrap n)))) else none
    | _, _, _ => none
  | .field t x f =>
    match opv E x, tiOf P t with
    | some (.g l), some ti =>
      match ti.offs[f]? with
      | some (off, sz, k) => if k = 0 ∨ sz = 0 then none else if k = 5 ∨ k = 6 then (takeA l off sz).map fun r => (True, .g r) else (nthA l off).map fun x => (True, .a x)
      | none => none
    | _, _ => none
  | .build t parts =>
    match tiOf P t with
    | some ti => buildV P E H ti parts
    | none => none
  | .extract x i =>
    match opv E x with
    | some (.t l) => (l[i]?).map fun p => (True, p.sv)
    | _ => none
  | .makeFunc f first caps =>
    match first.toList, capsOf (caps.toList.map (opv E)) with
    | [], some l => some (True, .a (.fn f l))
    | _, _ => none
  | .indexAddr t x i =>
    match opv E x, opv E i, tiOf P t with
    | some s, some j, some ti => idxV P H ti s j
    | _, _, _ => none
  | .call ⟨.builtin .len, args, ts⟩ =>
    match args.toList, ts.toList with
    | [x], [t] => match opv E x with
      | some s => if kndOf P t = 3 then (lenV H s).map fun r => (True, r) else none
      | none => none
    | _, _ => none
  | .call ⟨.builtin .min, args, _⟩ =>
    match args.toList with
    | [x, y] => match opv E x, opv E y with
      | some (.a (.v (.int k a))), some (.a (.v (.int _ b))) => some (True, .a (.v (.int k (if b < a then b else a))))
      | _, _ => none
    | _ => none
  | .call ⟨.builtin .max, args, _⟩ =>
    match args.toList with
    | [x, y] => match opv E x, opv E y with
      | some (.a (.v (.int k a))), some (.a (.v (.int _ b))) => some (True, .a (.v (.int k (if a < b then b else a))))
      | _, _ => none
    | _ => none
  | _ => none

/-! ### Soundness -/
section
variable {P : Program} {ρ : Vl} {w : World}

theorem intBin_sound {op : BinOp} {k : IntKind} {a b : Int} {vc : Prop} {s : SV} (hs : isShift op ≠ true) (h : intBin op k a b = some (vc, s)) (hvc : vc) (t : TypeId) :
    (binOp op t (.int k a) (.int k b)).run P w = .ok (s.den ρ) w := by
  cases op <;> simp only [intBin, Option.some.injEq, Prod.mk.injEq, reduceCtorEq] at h <;> (try (obtain ⟨rfl, rfl⟩ := h)) <;>
    simp [binOp, Op.intArith, Op.intDiv, Op.intCmp, SV.den, At.den] <;> (try (simp [isShift] at hs)) <;> (try simp [hvc])
  all_goals (first | rfl | (simp only [BEq.beq]) | (rw [Bool.eq_iff_iff]; simp [bne]) | (simp [bne, beq_iff_eq, BEq.beq]) )

theorem shBin_sound {op : BinOp} {k k' : IntKind} {a b : Int} {vc : Prop} {s : SV} (h : shBin op k a b = some (vc, s)) (hvc : vc) (t : TypeId) :
    (binOp op t (.int k a) (.int k' b)).run P w = .ok (s.den ρ) w := by
  cases op <;> simp only [shBin, Option.some.injEq, Prod.mk.injEq, reduceCtorEq] at h <;> (try (obtain ⟨rfl, rfl⟩ := h)) <;>
    simp [binOp, Op.shift, SV.den, At.den, Int.not_lt.2 hvc]

theorem boolEq_sound {op : BinOp} {b : Bool} {vc : Prop} {s : SV} (h : boolEq op b = some (vc, s)) : (op = .eql ∧ s = .a (.v (.bool b))) ∨ (op = .neq ∧ s = .a (.v (.bool (!b)))) := by
  cases op <;> simp [boolEq] at h
  · exact .inl ⟨rfl, h.2.symm⟩
  · exact .inr ⟨rfl, h.2.symm⟩

theorem kndOf_some {t : TypeId} {n : Nat} (h : kndOf P t = n) (hn : n ≠ 0) : ∃ d, P.underlying t = some d ∧ kndD d = n := by
  unfold kndOf at h
  cases hu : P.underlying t with
  | none => simp [hu] at h; omega
  | some d => simp [hu] at h; exact ⟨d, rfl, h⟩
theorem kndD_bool {d : TypeDesc} (h : kndD d = 2) : d = .bool := by cases d <;> simp [kndD] at h; rfl
theorem kndD_int {d : TypeDesc} (h : kndD d = 1) : ∃ k, d = .int k := by cases d <;> simp [kndD] at h; exact ⟨_, rfl⟩
theorem kndD_slice {d : TypeDesc} (h : kndD d = 3) : ∃ e, d = .slice e := by cases d <;> simp [kndD] at h; exact ⟨_, rfl⟩
theorem kndD_ptr {d : TypeDesc} (h : kndD d = 4) : ∃ e, d = .pointer e := by cases d <;> simp [kndD] at h; exact ⟨_, rfl⟩
theorem kndD_struct {d : TypeDesc} (h : kndD d = 5) : ∃ e, d = .struct e := by cases d <;> simp [kndD] at h; exact ⟨_, rfl⟩
theorem kndD_array {d : TypeDesc} (h : kndD d = 6) : ∃ n e, d = .array n e := by cases d <;> simp [kndD] at h; exact ⟨_, _, rfl⟩

/-- '==' of flat structs, field by field. -/
theorem eqFields_cells (d : Nat) : ∀ (fs : List Field) (i : Nat) (ks : List Nat) (l r : List At) (L R : List At) (b : Bool), flatFs P i fs = some ks → eqCells ks l r = some b →
    (∀ j x, l[j]? = some x → L[i + j]? = some x) → (∀ j x, r[j]? = some x → R[i + j]? = some x) →
    (Op.eqFields (d + 1) (denL ρ L).toArray (denL ρ R).toArray fs).run P w = .ok b w := by
  intro fs
  induction fs with
  | nil =>
    intro i ks l r L R b hf he _ _
    simp only [flatFs, Option.some.injEq] at hf
    subst hf
    cases l with
    | nil =>
      cases r with
      | nil => simp [eqCells] at he; subst he; simp [Op.eqFields]
      | cons x r => simp [eqCells] at he
    | cons x l => simp [eqCells] at he
  | cons f fs ih =>
    intro i ks l r L R b hf he hL hR
    simp only [flatFs] at hf
    split at hf
    case isFalse => simp at hf
    rename_i hcond
    obtain ⟨hn, ho, ha, hk⟩ := hcond
    simp only [Option.map_eq_some_iff] at hf
    obtain ⟨ks', hrest, rfl⟩ := hf
    have hagg : ∀ w : World, (isAgg f.type).run P w = .ok false w := fun w => by
      rcases hk with hk | hk <;> obtain ⟨dd, hd, hd'⟩ := kndOf_some hk (by omega) <;> unfold isAgg <;> rw [Sem.run_bind, run_underlying hd w]
      · obtain ⟨k, rfl⟩ := kndD_int hd'; rfl
      · obtain rfl := kndD_bool hd'; rfl
    have hpart : ∀ (cs : List At) (x : At), cs[i]? = some x → (part f.type (denL ρ cs).toArray f.offset).run P w = .ok (x.den ρ) w := fun cs x hx => by
      have hx' : ((denL ρ cs).toArray)[i]? = some (x.den ρ) := by simp [denL, hx]
      simp only [part, Sem.run_bind, hagg, Result.andThen_ok, Bool.false_eq_true, if_false, ho, hx', Sem.run_pure]
    have step : ∀ (x y : At) (l' r' : List At) (c b' : Bool), l = x :: l' → r = y :: r' → (Op.equalIn (d + 1) f.type (x.den ρ) (y.den ρ)).run P w = .ok c w → eqCells ks' l' r' = some b' → b = (c && b') →
        (Op.eqFields (d + 1) (denL ρ L).toArray (denL ρ R).toArray (f :: fs)).run P w = .ok b w := by
      rintro x y l' r' c b' rfl rfl hc he' rfl
      have h1 := hpart L x (by simpa using hL 0 x (by simp))
      have h2 := hpart R y (by simpa using hR 0 y (by simp))
      have h3 := ih (i + 1) ks' l' r' L R b' hrest he' (fun j x hx => by have := hL (j + 1) x (by simpa using hx); rwa [show i + 1 + j = i + (j + 1) from by omega])
        (fun j x hx => by have := hR (j + 1) x (by simpa using hx); rwa [show i + 1 + j = i + (j + 1) from by omega])
      simp only [Op.eqFields, ne_eq, hn, not_false_eq_true, if_true, Sem.run_bind, h1, h2, hc, Result.andThen_ok, Sem.run_ite]
      cases c
      · simp
      · simpa using h3
    unfold eqCells at he
    split at he
    · simp at *
    · rename_i ks2 k a l2 k' b2 r2 hks
      simp only [List.cons.injEq] at hks
      obtain ⟨hk1, rfl⟩ := hks
      split at he
      · rename_i hkk
        subst hkk
        simp only [Option.map_eq_some_iff] at he
        obtain ⟨b', hb', rfl⟩ := he
        refine step _ _ _ _ (decide (a = b2)) b' rfl rfl ?_ hb' rfl
        obtain ⟨dd, hd, hd'⟩ := kndOf_some hk1 (by omega)
        obtain ⟨k0, rfl⟩ := kndD_int hd'
        simp only [At.den]
        rw [run_equalIn_int w d f.type k k0 a b2 hd]
        rfl
      · simp at he
    · rename_i ks2 a l2 b2 r2 hks
      simp only [List.cons.injEq] at hks
      obtain ⟨hk1, rfl⟩ := hks
      simp only [Option.map_eq_some_iff] at he
      obtain ⟨b', hb', rfl⟩ := he
      refine step _ _ _ _ (a == b2) b' rfl rfl ?_ hb' rfl
      obtain ⟨dd, hd, hd'⟩ := kndOf_some hk1 (by omega)
      obtain rfl := kndD_bool hd'
      simp only [At.den]
      exact run_equalIn_bool' w d f.type a b2 hd
    · simp at he

theorem run_equal_flat {t : TypeId} {ks : List Nat} {l r : List At} {b : Bool} (hf : flatS P t = some ks) (he : eqCells ks l r = some b) :
    (Op.equal t (.agg (denL ρ l).toArray) (.agg (denL ρ r).toArray)).run P w = .ok b w ∧ P.eqGuardType P.depth t = false := by
  unfold flatS at hf
  split at hf
  · rename_i fs hu
    split at hf
    · rename_i hh
      refine ⟨?_, hh.2⟩
      have hfo : P.fieldsOf t = fs := by simp [Program.fieldsOf, hu]
      unfold Op.equal Op.maxDepth
      rw [run_equalIn_struct (P := P) w 9999 t _ _ (by rw [hfo]; exact hu) hh.1, hfo]
      exact eqFields_cells 9998 fs.toList 0 ks l r l r b hf he (fun j x hx => by simpa using hx) (fun j x hx => by simpa using hx)
    · simp at hf
  · simp at hf

theorem ptr_den (c o : Nat) : ∃ b o', (At.ptr c o).den ρ = .pointer (some ⟨b, o', none⟩) := shiftV_form (ρ c) o

/-- '==' of two values that are no interface values and no structs asks nothing first. -/
theorem bin_sound {op : BinOp} {t : TypeId} {x y : SV} {vc : Prop} {s : SV} (h : bin P op t x y = some (vc, s)) (hvc : vc) (ox oy : Operand) :
    (do eqGuard op t ox oy (x.den ρ) (y.den ρ); binOp op t (x.den ρ) (y.den ρ) : Sem Value).run P w = .ok (s.den ρ) w := by
  have guard : ∀ a b : Value, (∀ c, a ≠ .agg c) → a ≠ .nilIface → (eqGuard op t ox oy a b).run P w = .ok () w := by
    intro a b h1 h2
    cases a <;> first | exact absurd rfl (h1 _) | exact absurd rfl h2 | (cases op <;> simp [eqGuard])
  unfold bin at h
  split at h
  · rename_i k a k' b
    simp only [SV.den, At.den, Sem.run_bind]
    rw [guard _ _ (by simp) (by simp)]
    split at h
    · exact shBin_sound h hvc t
    · rename_i hs
      split at h
      · rename_i hk; subst hk
        exact intBin_sound hs h hvc t
      · simp at h
  · rename_i a b
    simp only [SV.den, At.den, Sem.run_bind]
    rw [guard _ _ (by simp) (by simp)]
    split at h
    · rename_i hk
      obtain ⟨dd, hd, hd'⟩ := kndOf_some hk (by omega)
      obtain rfl := kndD_bool hd'
      have he : (Op.equal t (.bool a) (.bool b)).run P w = .ok (a == b) w := run_equalIn_bool' w 9999 t a b hd
      rcases boolEq_sound h with ⟨rfl, rfl⟩ | ⟨rfl, rfl⟩ <;> simp only [binOp, Result.andThen_ok, Sem.run_bind, he, Sem.run_pure, SV.den, At.den]
    · simp at h
  · rename_i p
    simp only [SV.den, At.den, Sem.run_bind]
    rw [guard _ _ (by simp) (by simp)]
    split at h
    · rename_i hk
      obtain ⟨dd, hd, hd'⟩ := kndOf_some hk (by omega)
      obtain ⟨e, rfl⟩ := kndD_ptr hd'
      have he : (Op.equal t (.pointer p) (.pointer none)).run P w = .ok p.isNone w := run_equal_pointer_nil w t p (by simp [hd, Program.pointee])
      rcases boolEq_sound h with ⟨rfl, rfl⟩ | ⟨rfl, rfl⟩ <;> simp only [binOp, Result.andThen_ok, Sem.run_bind, he, Sem.run_pure, SV.den, At.den]
    · simp at h
  · rename_i c o
    obtain ⟨b, o', hp⟩ := ptr_den (ρ := ρ) c o
    simp only [SV.den, hp, Sem.run_bind]
    simp only [At.den]
    rw [guard _ _ (by simp) (by simp)]
    split at h
    · rename_i hk
      obtain ⟨dd, hd, hd'⟩ := kndOf_some hk (by omega)
      obtain ⟨e, rfl⟩ := kndD_ptr hd'
      have he : (Op.equal t (.pointer (some ⟨b, o', none⟩)) (.pointer none)).run P w = .ok false w := run_equal_pointer_nil w t _ (by simp [hd, Program.pointee])
      rcases boolEq_sound h with ⟨rfl, rfl⟩ | ⟨rfl, rfl⟩ <;> simp only [binOp, Result.andThen_ok, Sem.run_bind, he, Sem.run_pure, SV.den, At.den]
    · simp at h
  · rename_i l r
    split at h
    · rename_i ks hf
      simp only [Option.bind_eq_some_iff] at h
      obtain ⟨b, hb, h⟩ := h
      obtain ⟨he, hg⟩ := run_equal_flat (w := w) (ρ := ρ) hf hb
      have hgd : (eqGuard op t ox oy (.agg (denL ρ l).toArray) (.agg (denL ρ r).toArray)).run P w = .ok () w := by
        cases op <;> simp [eqGuard, hg]
      simp only [SV.den, Sem.run_bind, hgd, Result.andThen_ok]
      rcases boolEq_sound h with ⟨rfl, rfl⟩ | ⟨rfl, rfl⟩ <;> simp only [binOp, Sem.run_bind, he, Result.andThen_ok, Sem.run_pure, At.den, SV.den]
    · simp at h
  · simp at h

theorem binH_sound {H : Hp} {op : BinOp} {t : TypeId} {x y : SV} {vc : Prop} {s : SV} (hH : SatH ρ w H) (h : binH P H op t x y = some (vc, s)) (hvc : vc) (ox oy : Operand) :
    (do eqGuard op t ox oy (x.den ρ) (y.den ρ); binOp op t (x.den ρ) (y.den ρ) : Sem Value).run P w = .ok (s.den ρ) w := by
  have guard : ∀ A n c b, (eqGuard op t ox oy (.slice A n c) b).run P w = .ok () w := by
    intro A n c b
    cases op <;> simp [eqGuard]
  have fin : ∀ (A : Option Addr) (n c : Nat) (r : Prop × SV), kndOf P t = 3 → boolEq op A.isNone = some r →
      (do eqGuard op t ox oy (.slice A n c) (.slice none 0 0); binOp op t (.slice A n c) (.slice none 0 0) : Sem Value).run P w = .ok (r.2.den ρ) w := by
    intro A n c r hk hb
    obtain ⟨dd, hd, hd'⟩ := kndOf_some hk (by omega)
    obtain ⟨e, rfl⟩ := kndD_slice hd'
    have he : (Op.equal t (.slice A n c) (.slice none 0 0)).run P w = .ok A.isNone w := run_equal_slice_nil w t e A n c hd
    obtain ⟨vc', s'⟩ := r
    rcases boolEq_sound hb with ⟨rfl, rfl⟩ | ⟨rfl, rfl⟩ <;> simp only [binOp, Sem.run_bind, guard, he, Result.andThen_ok, Sem.run_pure, At.den, SV.den]
  unfold binH at h
  split at h
  · rename_i c
    split at h
    case isFalse => simp at h
    rename_i hk1
    obtain ⟨M, hM⟩ := hH
    have key : ∀ (ch : Ch) (τ : FTy) (xs : List τ.D) (r : Prop × SV), hk H c = some ch → ((∃ e, ch = .row τ e xs) ∨ ∃ g, ch = .rd g τ xs) → 0 < xs.length → boolEq op false = some r →
        (do eqGuard op t ox oy (ρ c) (.slice none 0 0); binOp op t (ρ c) (.slice none 0 0) : Sem Value).run P w = .ok (r.2.den ρ) w := by
      intro ch τ xs r hc hch hp hb
      obtain ⟨A, cap, hv, _, hcc⟩ := sl_cells (hM _ (hk_mem hc)) hch
      obtain ⟨b, off, rfl, _⟩ := hcc hp
      simp only at hv
      rw [hv]
      exact fin (some ⟨b, off, none⟩) _ _ r hk1 hb
    split at h
    · rename_i τ e xs hc
      simp only [Option.map_eq_some_iff, Prod.mk.injEq] at h
      obtain ⟨r, hr, rfl, rfl⟩ := h
      exact key _ τ xs r hc (.inl ⟨_, rfl⟩) hvc.1 hr
    · rename_i g τ xs hc
      simp only [Option.map_eq_some_iff, Prod.mk.injEq] at h
      obtain ⟨r, hr, rfl, rfl⟩ := h
      exact key _ τ xs r hc (.inr ⟨_, rfl⟩) hvc.1 hr
    · simp at h
  · split at h
    · rename_i hk1
      exact fin none 0 0 (vc, s) hk1 h
    · simp at h
  · exact bin_sound h hvc ox oy

theorem un_sound {op : UnOp} {x : SV} {vc : Prop} {s : SV} (h : un op x = some (vc, s)) (hvc : vc) : (Op.unary op (x.den ρ)).run P w = .ok (s.den ρ) w := by
  unfold un at h
  split at h
  · split at h
    · simp only [Option.some.injEq, Prod.mk.injEq] at h
      obtain ⟨rfl, rfl⟩ := h
      simp [Op.unary, Op.intArith, SV.den, At.den]
    · simp at h
  · split at h
    · simp only [Option.some.injEq, Prod.mk.injEq] at h
      obtain ⟨rfl, rfl⟩ := h
      simp [Op.unary, SV.den, At.den]
    · simp at h
  · simp at h

end
end Go.Proofs.Ytgbmhfbfcbjccaa
