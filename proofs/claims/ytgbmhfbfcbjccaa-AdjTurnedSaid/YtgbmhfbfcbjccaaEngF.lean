/- The engine's operations that make or write memory: what each leaves, and that it does. Conditions: none; plain definitions and theorems. -/
import Derived.Test.YtgbmhfbfcbjccaaEngE
namespace Go.Proofs.Ytgbmhfbfcbjccaa
set_option linter.unusedSimpArgs false
set_option linter.unusedVariables false
open Go.RowKit

/-- A fence that lets all by. -/
structure Good (F : Fence) : Prop where
  all : ∀ f, F.fn f
  dep : F.depth = none
  lift : ∀ {m : Nat} {P : Program} {f : FuncId} {args : Array Value} {w : World} {R : Ending → World → Prop}, Calls P f args w R → CallsIn F m P f args w R
theorem good_wide : Good Fence.wide := ⟨fun _ => trivial, rfl, fun h => callsIn_wide.2 h⟩
theorem good_round (l : Nat) : Good (Fence.wide.inRound l) := ⟨fun _ => trivial, rfl, fun h => CallsIn.inRound l (callsIn_wide.2 h)⟩
structure Cfg where
  P : Program
  G : TypeId → Option FTy
  F : Fence
  n : Nat
  good : Good F

def cid (d : Nat) : Nat := 100 * (d + 1)

def undefSV : SV := .t []
theorem undefSV_den (ρ : Vl) : undefSV.den ρ = undef := rfl

def valsOf : List At → Option (List Value)
  | [] => some []
  | .v x :: l => (valsOf l).map (x :: ·)
  | _ :: _ => none
theorem valsOf_den {ρ : Vl} {l : List At} {vs : List Value} (h : valsOf l = some vs) : denL ρ l = vs := by
  induction l generalizing vs with
  | nil => simp [valsOf] at h; subst h; rfl
  | cons x l ih =>
    cases x <;> simp only [valsOf, Option.map_eq_some_iff, reduceCtorEq] at h
    obtain ⟨r, hr, rfl⟩ := h
    simp only [denL, List.map_cons, At.den, List.cons.injEq, true_and]
    exact ih hr

theorem valsOf_one {l : List At} {vs : List Value} (h : valsOf l = some vs) (h1 : ∀ u ∈ vs, u.oneCell' = true) (H : Hp) : oneL H l = true := by
  induction l generalizing vs with
  | nil => rfl
  | cons x l ih =>
    cases x <;> simp only [valsOf, Option.map_eq_some_iff, reduceCtorEq] at h
    obtain ⟨r, hr, rfl⟩ := h
    simp only [oneL, List.all_cons, Bool.and_eq_true]
    exact ⟨h1 _ (by simp), ih hr fun u hu => h1 u (by simp [hu])⟩
theorem flatMap_length (τ : FTy) (ys : List τ.D) : (ys.flatMap τ.cells).length = ys.length * τ.sz := by
  induction ys with
  | nil => simp
  | cons y ys ih => simp only [List.flatMap_cons, List.length_append, τ.len, ih, List.length_cons, Nat.succ_mul]; omega

def frsh (c : Nat) (E : Env) (H : Hp) : Prop := freshE c E = true ∧ freshH c H = true

/-- What the places of memory stand for is as it was, but for new ones. -/
def Keep (E : Env) (H : Hp) (ρ ρ' : Vl) : Prop := ∀ c, ¬ frsh c E H → ρ' c = ρ c
theorem keep_refl (E : Env) (H : Hp) (ρ : Vl) : Keep E H ρ ρ := fun _ _ => rfl
theorem keep_upd {E : Env} {H : Hp} {ρ : Vl} {c : Nat} (hf : frsh c E H) (v : Value) : Keep E H ρ (Vl.upd ρ c v) := fun _ hc => upd_ne ρ v fun e => hc (e ▸ hf)
def efAlloc (C : Cfg) (E : Env) (H : Hp) (d : Nat) (t : TypeId) : Option (Prop × SV × Hp) :=
  (tiOf C.P t).map fun ti => (frsh (cid d) E H, .a (.ptr (cid d) 0), (cid d, .box (ti.zero.map At.v) t) :: H)
def efBox (E : Env) (H : Hp) (d : Nat) (t : TypeId) (s : SV) : Option (Prop × SV × Hp) :=
  s.flat.map fun l => (frsh (cid d) E H ∧ oneL H l = true, .a (.ptr (cid d) 0), (cid d, .box l t) :: H)
def elemStore (H : Hp) (c k sz o : Nat) (n : Nat) (τ : FTy) (e : TypeId) (xs : List τ.D) (l : List At) : Option (Prop × SV × Hp) :=
  match valsOf l with
  | some vs =>
    match putL (τ.cells (xs.getD k τ.dflt)) o vs with
    | some new =>
      match τ.read new with
      | some d' => some (k < xs.length ∧ sz = τ.sz ∧ l.length = n, undefSV, hset H c (.row τ e (xs.set k d')))
      | none => none
    | none => none
  | none => none
def efStore (H : Hp) (ti : TI) (p : At) (s : SV) : Option (Prop × SV × Hp) :=
  match s.flat with
  | some l =>
    match p with
    | .ptr c o =>
      match hk H c with
      | some (.box b ty) => (putL b o l).map fun b' => (l.length = ti.sz ∧ oneL H l = true, undefSV, hset H c (.box b' ty))
      | _ => none
    | .elem c k sz o =>
      match hk H c with
      | some (.row τ e xs) => elemStore H c k sz o ti.sz τ e xs l
      | _ => none
    | _ => none
  | none => none

/-! ### Soundness -/
section
variable {A : Amb} {ρ : Vl} {w : World} {H : Hp} {E : Env} {N : Fm} {a : Act} {C : Cfg}

theorem cid_ge (d : Nat) : 100 ≤ cid d := by unfold cid; omega

theorem agree_alloc (w : World) (o : Obj) : Agree (fun _ => False) w (w.alloc o) := Agree.alloc w o

/-- A new block of one's own. -/
theorem Holds.newBox (h : Holds A ρ w H) (hE : EnvOk N ρ E a) {d : Nat} (hf : frsh (cid d) E H) (l : List At) (t : TypeId) (hm : ∀ x ∈ l, x.men (cid d) = false) :
    Holds A (Vl.upd ρ (cid d) (.pointer (some ⟨w.heap.size, 0, none⟩))) (w.alloc (.cells (denL ρ l).toArray t)) ((cid d, .box l t) :: H) ∧
    EnvOk N (Vl.upd ρ (cid d) (.pointer (some ⟨w.heap.size, 0, none⟩))) E a := by
  refine ⟨h.new (agree_alloc w _) hf.2 (cid_ge d) _ _ (fun _ b hb => ?_) ⟨w.heap.size, rfl, ?_⟩, hE.fresh hf.1 _⟩
  · simp only [blk, Option.some.injEq] at hb; omega
  · rw [denL_upd (ρ := ρ) (ρ' := Vl.upd ρ (cid d) _) (l := l) (fun c hc => upd_ne ρ _ fun e => by
      subst e
      simp only [menL, List.any_eq_true] at hc
      obtain ⟨x, hx, hxc⟩ := hc
      rw [hm x hx] at hxc; cases hxc)]
    show (w.heap.push _)[w.heap.size]? = _
    simp

theorem men_of_v {c : Nat} {zs : List Value} : ∀ x ∈ zs.map At.v, x.men c = false := by
  intro x hx
  obtain ⟨z, _, rfl⟩ := List.mem_map.1 hx
  rfl
theorem denL_v (ρ : Vl) (zs : List Value) : denL ρ (zs.map At.v) = zs := by simp [denL, Function.comp_def, At.den]

theorem efAlloc_sound {o : Oper} {d : Nat} {t : TypeId} {vc : Prop} {s : SV} {H' : Hp} (h : Holds A ρ w H) (hE : EnvOk N ρ E a) (ho : o.op = .alloc t) (he : efAlloc C E H d t = some (vc, s, H')) (hvc : vc) :
    ∃ ρ' w', (execOp a.eval o).run C.P w = .ok (.value (s.den ρ')) w' ∧ Holds A ρ' w' H' ∧ EnvOk N ρ' E a ∧ Keep E H ρ ρ' := by
  simp only [efAlloc, Option.map_eq_some_iff, Prod.mk.injEq] at he
  obtain ⟨ti, ht, rfl, rfl, rfl⟩ := he
  obtain ⟨z, hz, hzc⟩ := run_zero_ti (P := C.P) w ht
  obtain ⟨h1, h2⟩ := h.newBox hE hvc (ti.zero.map At.v) t men_of_v
  refine ⟨_, _, ?_, h1, h2, keep_upd hvc _⟩
  have hzc' : (denL ρ (ti.zero.map At.v)).toArray = z.cells := by rw [denL_v, ← hzc]
  rw [hzc']
  simp [execOp, ho, Instr.alloc, hz, newVar, newRow, SV.den, At.den, upd_same, shiftV_pointer]

theorem efBox_sound {o : Oper} {d : Nat} {t : TypeId} {x : Operand} {sx : SV} {vc : Prop} {s : SV} {H' : Hp} (h : Holds A ρ w H) (hE : EnvOk N ρ E a) (ho : o.op = .box t x) (hx : opv E x = some sx)
    (he : efBox E H d t sx = some (vc, s, H')) (hvc : vc) :
    ∃ ρ' w', (execOp a.eval o).run C.P w = .ok (.value (s.den ρ')) w' ∧ Holds A ρ' w' H' ∧ EnvOk N ρ' E a ∧ Keep E H ρ ρ' := by
  simp only [efBox, Option.map_eq_some_iff, Prod.mk.injEq] at he
  obtain ⟨l, hl, rfl, rfl, rfl⟩ := he
  have hxm : ∀ y ∈ l, y.men (cid d) = false := by
    intro y hy
    have hne : sx.men (cid d) = false := by
      cases x with
      | tmp t' =>
        have hm : ∃ p ∈ E, p.2 = sx := by
          clear hE hvc h ho
          simp only [opv] at hx
          induction E with
          | nil => simp [lk] at hx
          | cons p r ih =>
            obtain ⟨k, z⟩ := p
            simp only [lk] at hx
            split at hx
            · simp only [Option.some.injEq] at hx; exact ⟨_, List.mem_cons_self, hx⟩
            · obtain ⟨q, hq, e⟩ := ih hx; exact ⟨q, List.mem_cons_of_mem _ hq, e⟩
        obtain ⟨p, hp, rfl⟩ := hm
        exact freshE_spec hvc.1.1 p hp
      | const v =>
        simp only [opv, Option.some.injEq] at hx; subst hx
        cases v <;> simp [constSV, SV.men, At.men, menL]
      | func f => simp only [opv, Option.some.injEq] at hx; subst hx; simp [SV.men, At.men]
      | global g => simp [opv] at hx
    cases sx with
    | a z => simp only [SV.flat, Option.some.injEq] at hl; subst hl; simp at hy; subst hy; exact hne
    | g l' =>
      simp only [SV.flat, Option.some.injEq] at hl; subst hl
      simp only [SV.men, menL, List.any_eq_false] at hne
      simpa using hne y hy
    | t l' => simp [SV.flat] at hl
  obtain ⟨h1, h2⟩ := h.newBox hE hvc.1 l t hxm
  refine ⟨_, _, ?_, h1, h2, keep_upd hvc.1 _⟩
  have hc := flat_cells h.satH hl hvc.2
  have hv := opv_den hE hx
  generalize sx.den ρ = v at hc hv
  simp [execOp, ho, Instr.box, hv, newVar, newRow, hc, SV.den, At.den, upd_same, shiftV_pointer]

theorem agree_setRow (w : World) (g : Nat) (cs : Array Value) : Agree (fun b => some g = some b) w (w.setRow g cs) :=
  ⟨rfl, rfl, rfl, by simp, fun b _ hn => setRow_other w g b cs (fun e => hn (by rw [e]))⟩

/-- A store into a block of cells. -/
theorem run_storeVar_at {P : Program} {t : TypeId} {ti : TI} (ht : tiOf P t = some ti) (g o : Nat) (v : Value) (vs : List Value) (hv : v.cells = vs.toArray) (hn : vs.length = ti.sz) (h1 : ∀ u ∈ vs, u.oneCell' = true)
    (cur : Array Value) (e : TypeId) (hg : w.heap[g]? = some (.cells cur e (0, 0))) (hl : o + vs.length ≤ cur.size) :
    (storeVar t ⟨g, o, none⟩ v).run P w = .ok () (w.setRow g (cur.toList.take o ++ vs ++ cur.toList.drop (o + vs.length)).toArray) := by
  have hs := run_storeCells_at P g o e vs 0 cur w hg (by omega) h1
  simp only [Nat.add_zero] at hs
  simp only [storeVar, Sem.run_bind, run_sizeOf_ti w ht, Result.andThen_ok, hv, List.size_toArray, Sem.run_ite]
  rw [if_neg (by simp [hn])]
  exact hs
theorem take_splice {α : Type} (l ys : List α) (o n : Nat) (h : o + ys.length ≤ n) (hn : n ≤ l.length) :
    (l.take o ++ ys ++ l.drop (o + ys.length)).take n = (l.take n).take o ++ ys ++ (l.take n).drop (o + ys.length) := by
  have hto : (l.take o).length = o := by simp; omega
  rw [List.take_append, List.take_of_length_le (by simp; omega), List.take_take, Nat.min_eq_left (by omega), List.drop_take]
  congr 2
  simp; omega

theorem splice_get {α : Type} (l ys : List α) (o : Nat) (h : o + ys.length ≤ l.length) (j : Nat) :
    (l.take o ++ ys ++ l.drop (o + ys.length))[j]? = if o ≤ j ∧ j < o + ys.length then ys[j - o]? else l[j]? := by
  have hto : (l.take o).length = o := by simp; omega
  by_cases h1 : j < o
  · rw [if_neg (by omega), List.append_assoc, List.getElem?_append_left (by omega), List.getElem?_take, if_pos h1]
  · by_cases h2 : j < o + ys.length
    · rw [if_pos (by omega), List.append_assoc, List.getElem?_append_right (by omega), hto, List.getElem?_append_left (by omega)]
    · rw [if_neg (by omega), List.getElem?_append_right (by simp; omega), List.length_append, hto, List.getElem?_drop]
      congr 1; omega

/-- An element of a slice of one's own is written, in part. -/
theorem flatMap_splice (τ : FTy) (xs : List τ.D) (k o : Nat) (vs : List Value) (d' : τ.D) (hk : k < xs.length) (ho : o + vs.length ≤ τ.sz)
    (hd : τ.cells d' = (τ.cells xs[k]).take o ++ vs ++ (τ.cells xs[k]).drop (o + vs.length)) :
    (xs.set k d').flatMap τ.cells = (xs.flatMap τ.cells).take (k * τ.sz + o) ++ vs ++ (xs.flatMap τ.cells).drop (k * τ.sz + o + vs.length) := by
  have hlen : ∀ ys : List τ.D, (ys.flatMap τ.cells).length = ys.length * τ.sz := flatMap_length τ
  have hle : (k + 1) * τ.sz ≤ xs.length * τ.sz := Nat.mul_le_mul_right _ hk
  rw [Nat.succ_mul] at hle
  apply List.ext_getElem?
  intro j
  rw [splice_get _ _ _ (by rw [hlen]; omega)]
  have hsz : 0 < τ.sz ∨ τ.sz = 0 := by omega
  rcases hsz with hsz | hsz
  case inr =>
    have h0 : vs.length = 0 := by omega
    rw [if_neg (by omega)]
    have e1 : ((xs.set k d').flatMap τ.cells).length = 0 := by rw [hlen, hsz]; simp
    have e2 : (xs.flatMap τ.cells).length = 0 := by rw [hlen, hsz]; simp
    rw [List.eq_nil_of_length_eq_zero e1, List.eq_nil_of_length_eq_zero e2]
  by_cases hj : j < xs.length * τ.sz
  · have hq : j / τ.sz < xs.length := Nat.div_lt_of_lt_mul (by rw [Nat.mul_comm]; exact hj)
    have hr : j % τ.sz < τ.sz := Nat.mod_lt _ hsz
    have hjj : j = (j / τ.sz) * τ.sz + j % τ.sz := by rw [Nat.mul_comm]; exact (Nat.div_add_mod j τ.sz).symm
    generalize j / τ.sz = q at hq hjj
    generalize j % τ.sz = r at hr hjj
    subst hjj
    rw [flatMap_get τ.cells τ.sz τ.len (xs.set k d') q (by simpa using hq) r hr, flatMap_get τ.cells τ.sz τ.len xs q hq r hr]
    by_cases hqk : q = k
    · subst hqk
      simp only [List.getElem_set_self, hd]
      rw [splice_get _ _ _ (by rw [τ.len]; exact ho)]
      by_cases hc : o ≤ r ∧ r < o + vs.length
      · rw [if_pos hc, if_pos (by omega)]
        congr 1; omega
      · rw [if_neg hc, if_neg (by omega)]
    · rw [List.getElem_set_ne (fun e => hqk e.symm)]
      rw [if_neg]
      intro hc
      apply hqk
      have a1 : k * τ.sz < (q + 1) * τ.sz := by rw [Nat.succ_mul]; omega
      have a2 : q * τ.sz < (k + 1) * τ.sz := by rw [Nat.succ_mul]; omega
      have b1 := Nat.lt_of_mul_lt_mul_right a1
      have b2 := Nat.lt_of_mul_lt_mul_right a2
      omega
  · rw [List.getElem?_eq_none (by rw [hlen]; simp; omega), if_neg (by omega), List.getElem?_eq_none (by rw [hlen]; omega)]

theorem efStore_sound {o : Oper} {t : TypeId} {ti : TI} {x y : Operand} {p : At} {sy : SV} {vc : Prop} {s : SV} {H' : Hp} (h : Holds A ρ w H) (hE : EnvOk N ρ E a) (ho : o.op = .store t x y)
    (ht : tiOf C.P t = some ti) (hx : opv E x = some (.a p)) (hy : opv E y = some sy) (he : efStore H ti p sy = some (vc, s, H')) (hvc : vc) :
    ∃ w', (execOp a.eval o).run C.P w = .ok .skip w' ∧ Holds A ρ w' H' ∧ s = undefSV := by
  have hex : ∀ w' b off, p.den ρ = .pointer (some ⟨b, off, none⟩) → (storeVar t ⟨b, off, none⟩ (sy.den ρ)).run C.P w = .ok () w' → (execOp a.eval o).run C.P w = .ok .skip w' := by
    intro w' b off hp hst
    have e1 := opv_den hE hx
    have e2 := opv_den hE hy
    simp only [SV.den] at e1
    rw [hp] at e1
    simp [execOp, ho, e1, e2, Instr.storeAt, Instr.sureAddr, hst]
  unfold efStore at he
  split at he
  case h_2 => simp at he
  rename_i l hl
  split at he
  · rename_i c off
    split at he
    · rename_i b ty hc
      simp only [Option.map_eq_some_iff, Prod.mk.injEq] at he
      obtain ⟨b', hb', rfl, rfl, rfl⟩ := he
      obtain ⟨e1, e2⟩ := putL_spec hb'
      obtain ⟨g, hv, hg⟩ := h.sat _ (hk_mem hc)
      have hcl := flat_cells h.satH hl hvc.2
      have hst := run_storeVar_at (w := w) ht g off (sy.den ρ) (denL ρ l) hcl (by simpa [denL] using hvc.1) (oneL_den h.satH hvc.2) _ ty hg (by simpa [denL] using e2)
      refine ⟨_, hex _ g off (by simp only [At.den, hv, shiftV_pointer, Nat.zero_add]) hst, h.write hc rfl (by rw [hv]; exact agree_setRow w g _) (.box b' ty) rfl ⟨g, hv, ?_⟩, rfl⟩
      rw [setRow_heap w g _ _ ty (0, 0) hg]
      congr 3
      simp [denL, e1, List.map_take, List.map_drop]
    · simp at he
  · rename_i c k sz off
    split at he
    · rename_i τ e xs hc
      unfold elemStore at he
      split at he
      case h_2 => simp at he
      rename_i vs hvs
      split at he
      case h_2 => simp at he
      rename_i new hnew
      split at he
      case h_2 => simp at he
      rename_i d' hd'
      simp only [Option.some.injEq, Prod.mk.injEq] at he
      obtain ⟨rfl, rfl, rfl⟩ := he
      obtain ⟨hk', rfl, hln⟩ := hvc
      obtain ⟨e1, e2⟩ := putL_spec hnew
      have hden := valsOf_den (ρ := ρ) hvs
      have hxk : xs.getD k τ.dflt = xs[k] := by simp [List.getD, hk']
      rw [hxk] at e1 e2
      have hrd := τ.read_ok _ _ hd'
      rw [e1] at hrd
      have hvl : vs.length = ti.sz := by rw [← hln, ← hden]; simp [denL]
      have hsat := h.sat _ (hk_mem hc)
      obtain ⟨hlen, hrow⟩ := hsat
      rcases hrow with ⟨_, h0⟩ | ⟨g, cap, cur, hv, hbase, hg, hnc, hcm, hcs, htake⟩
      · omega
      · have hle : (k + 1) * τ.sz ≤ xs.length * τ.sz := Nat.mul_le_mul_right _ hk'
        rw [Nat.succ_mul] at hle
        have hcap : xs.length * τ.sz ≤ cap * τ.sz := Nat.mul_le_mul_right _ hnc
        rw [τ.len] at e2
        have hfit : k * τ.sz + off + vs.length ≤ xs.length * τ.sz := by omega
        have hst := run_storeVar_at (w := w) ht g (k * τ.sz + off) (sy.den ρ) vs (by
          have := flat_cells h.satH hl (valsOf_one hvs (fun u hu => τ.one d' u (by rw [hrd]; simp [hu])) H)
          rw [this, hden]) (by omega) (fun u hu => τ.one d' u (by rw [hrd]; simp [hu])) cur e hg (by omega)
        refine ⟨_, hex _ g (k * τ.sz + off) (by simp only [At.den, hv, shiftV_slice, Nat.zero_add]) hst,
          h.write hc rfl (by rw [hv]; exact agree_setRow w g _) (.row τ e (xs.set k d')) rfl ?_, rfl⟩
        show World.ownsRow _ 0 e τ.sz _ (xs.set k d').length ((xs.set k d').flatMap τ.cells)
        rw [List.length_set]
        refine ⟨?_, .inr ⟨g, cap, _, hv, hbase, setRow_heap w g _ _ e (0, 0) hg, hnc, hcm, ?_, ?_⟩⟩
        · rw [flatMap_length, List.length_set]
        · simp; omega
        · rw [flatMap_splice τ xs k off vs d' hk' (by omega) hrd.symm.symm, ← htake]
          exact take_splice cur.toList vs (k * τ.sz + off) (xs.length * τ.sz) hfit (by simp; omega)
    · simp at he
  · simp at he

end
end Go.Proofs.Ytgbmhfbfcbjccaa
