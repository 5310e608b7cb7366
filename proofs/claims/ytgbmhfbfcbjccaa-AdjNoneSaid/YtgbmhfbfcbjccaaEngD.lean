/- Soundness of the engine's table of operations that only compute or read. Conditions: none; plain theorems. -/
import Derived.Test.YtgbmhfbfcbjccaaEngC
namespace Go.Proofs.Ytgbmhfbfcbjccaa
set_option linter.unusedSimpArgs false
set_option linter.unusedVariables false
open Go.RowKit

section
variable {P : Program} {ρ : Vl} {w : World} {N : Fm} {E : Env} {H : Hp} {a : Act}

theorem offs_some {t : TypeId} {ti : TI} {f off sz agg : Nat} (ht : tiOf P t = some ti) (hf : ti.offs[f]? = some (off, sz, agg)) :
    ∃ fs fd, P.underlying t = some (.struct fs) ∧ fs[f]? = some fd ∧ fd.offset = off ∧ szOf P fd.type = sz ∧ kndOf P fd.type = agg := by
  obtain ⟨i, d, z, hi, hd, hz, rfl⟩ := tiOf_some ht
  simp only at hf
  cases d <;> simp only [offsD, List.getElem?_nil, reduceCtorEq] at hf
  rename_i fs
  simp only [List.getElem?_map, Option.map_eq_some_iff, Prod.mk.injEq] at hf
  obtain ⟨fd, hfd, rfl, rfl, rfl⟩ := hf
  exact ⟨fs, fd, hd, by simpa using hfd, rfl, rfl, rfl⟩
theorem sizeOf_of_szOf {t : TypeId} {n : Nat} (h : szOf P t = n) (hn : n ≠ 0) (w : World) : (sizeOf t).run P w = .ok n w := by
  unfold szOf at h
  cases hi : P.info? t with
  | none => simp [hi] at h; omega
  | some i => simp [hi] at h; simp [sizeOf, typeInfo, hi, h]
theorem under_of_szOf {t : TypeId} {b : Bool} (h : aggOf P t = b) (hs : (P.underlying t).isSome = true) (w : World) : (isAgg t).run P w = .ok b w := by
  cases hd : P.underlying t with
  | none => simp [hd] at hs
  | some d =>
    unfold isAgg
    rw [Sem.run_bind, run_underlying hd w]
    simp only [aggOf, hd, Option.map_some, Option.getD_some] at h
    subst h
    cases d <;> rfl

theorem fldAddr_sound {t : TypeId} {ti : TI} {f off sz agg : Nat} {p : At} {vc : Prop} {s : SV} (ht : tiOf P t = some ti) (hf : ti.offs[f]? = some (off, sz, agg)) (h0 : sz ≠ 0)
    (h : fldAddr off p = some (vc, s)) : (Instr.fieldAt t (p.den ρ) f).run P w = .ok (s.den ρ) w := by
  obtain ⟨fs, fd, hu, hfd, rfl, hsz, _⟩ := offs_some ht hf
  have key : ∀ v n, (Instr.fieldAt t (shiftV v n) f).run P w = .ok (shiftV v (n + fd.offset)) w := by
    intro v n
    obtain ⟨b, o, hb⟩ := shiftV_all v
    rw [hb, hb, ← Nat.add_assoc]
    simp only [Instr.fieldAt, Sem.run_bind, run_underlying hu, Result.andThen_ok, hfd, Instr.sureAddr, Sem.run_pure, fieldPlace, sizeOf_of_szOf hsz h0, h0, if_false, Sem.run_ite, addr_add]
  cases p <;> simp only [fldAddr, Option.some.injEq, Prod.mk.injEq, reduceCtorEq] at h
  · obtain ⟨_, rfl⟩ := h
    exact key _ _
  · obtain ⟨_, rfl⟩ := h
    simp only [At.den, SV.den]
    rw [← Nat.add_assoc]
    exact key _ _

theorem part_sound {t : TypeId} {l r : List At} {off sz : Nat} (hu : (P.underlying t).isSome = true) (hs : szOf P t = sz) (hz : (P.info? t).isSome = true) (hr : takeA l off sz = some r) (ha : aggOf P t = true) :
    (part t (denL ρ l).toArray off).run P w = .ok (.agg (denL ρ r).toArray) w := by
  obtain ⟨h1, h2⟩ := takeA_some hr
  have hsz : (sizeOf t).run P w = .ok sz w := by
    cases hi : P.info? t with
    | none => simp [hi] at hz
    | some i =>
      simp [szOf, hi] at hs
      simp [sizeOf, typeInfo, hi, hs]
  simp only [part, Sem.run_bind, under_of_szOf ha hu, Result.andThen_ok, if_true, hsz, Sem.run_pure]
  congr 2
  apply Array.ext'
  simp only [Array.toList_extract, List.extract_eq_take_drop, denL]
  apply List.ext_getElem?
  intro j
  by_cases hj : j < sz
  · have hx : r[j]? = some r[j] := List.getElem?_eq_getElem (by omega)
    have := h2 j _ hx
    simp [List.getElem?_take, hj, List.getElem?_drop, this, hx]
  · rw [List.getElem?_eq_none (by simp; omega), List.getElem?_eq_none (by simp; omega)]
theorem part_one {t : TypeId} {l : List At} {x : At} {off : Nat} (hu : (P.underlying t).isSome = true) (hr : nthA l off = some x) (ha : aggOf P t = false) :
    (part t (denL ρ l).toArray off).run P w = .ok (x.den ρ) w := by
  rw [nthA_eq] at hr
  have hx : ((denL ρ l).toArray)[off]? = some (x.den ρ) := by simp [denL, hr]
  simp only [part, Sem.run_bind, under_of_szOf ha hu, Result.andThen_ok, Bool.false_eq_true, if_false, hx, Sem.run_pure]

theorem lenV_sound {t : TypeId} {x s : SV} (hH : SatH ρ w H) (hk : kndOf P t = 3) (h : lenV H x = some s) (ty : TypeId) : (Builtin.len_ #[t] ty #[x.den ρ]).run P w = .ok (s.den ρ) w := by
  obtain ⟨dd, hd, hd'⟩ := kndOf_some hk (by omega)
  obtain ⟨e, rfl⟩ := kndD_slice hd'
  have key : ∀ A n c, (Builtin.len_ #[t] ty #[.slice A n c]).run P w = .ok (.int .i64 n) w := fun A n c => by
    simp [Builtin.len_, run_underlying hd, goInt]
  obtain ⟨M, hM⟩ := hH
  unfold lenV at h
  split at h
  · split at h
    · rename_i c τ e' xs hc
      obtain ⟨A, cap, hv, _⟩ := sl_cells (hM _ (hk_mem hc)) (.inl ⟨_, rfl⟩)
      simp only [Option.some.injEq] at h; subst h
      simp only [SV.den, At.den, hv, key]
    · rename_i c τ xs hc
      obtain ⟨A, cap, hv, _⟩ := sl_cells (hM _ (hk_mem hc)) (.inr ⟨_, rfl⟩)
      simp only [Option.some.injEq] at h; subst h
      simp only [SV.den, At.den, hv, key]
    · simp at h
  · simp only [Option.some.injEq] at h; subst h
    simp only [SV.den, At.den]
    exact key none 0 0
  · simp at h

theorem idxV_sound {t : TypeId} {ti : TI} {x i s : SV} {vc : Prop} (hH : SatH ρ w H) (ht : tiOf P t = some ti) (h : idxV P H ti x i = some (vc, s)) (hvc : vc) :
    (Instr.indexAt t (x.den ρ) (i.den ρ)).run P w = .ok (s.den ρ) w := by
  obtain ⟨M, hM⟩ := hH
  obtain ⟨i0, d, z, hi0, hd, hz, rfl⟩ := tiOf_some ht
  have key : ∀ (c : Nat) (ch : Ch) (τ : FTy) (xs : List τ.D) (k : IntKind) (i : Int), hk H c = some ch → ((∃ e, ch = .row τ e xs) ∨ ∃ g, ch = .rd g τ xs) → kndD d = 3 → szOf P (elemD d) = τ.sz → τ.sz ≠ 0 → (0 ≤ i ∧ i < (xs.length : Int)) →
      (Instr.indexAt t (ρ c) (.int k i)).run P w = .ok ((At.elem c i.toNat τ.sz 0).den ρ) w := by
    intro c ch τ xs k i hc hch hk3 hsz h0 hi
    obtain ⟨e, rfl⟩ := kndD_slice hk3
    obtain ⟨A, cap, hv, _, hcc⟩ := sl_cells (hM _ (hk_mem hc)) hch
    obtain ⟨b, off, rfl, hcc⟩ := hcc (by omega)
    simp only [elemD] at hsz
    have hs : (sizeOf e).run P w = .ok τ.sz w := sizeOf_of_szOf hsz h0 w
    simp only [At.den, hv, shiftV_slice]
    rw [run_indexAt_slice w t _ _ _ k i (by simp [Program.elem, hd])]
    simp only [hi, and_self, if_true, Program.elem, hd, hs, Result.andThen_ok, addr_add, Nat.add_zero]
  unfold idxV at h
  split at h
  · rename_i c k i
    split at h
    · rename_i τ e xs hc
      split at h
      · rename_i hh
        simp only [Option.some.injEq, Prod.mk.injEq] at h
        obtain ⟨rfl, rfl⟩ := h
        exact key c _ τ xs k i hc (.inl ⟨_, rfl⟩) hh.1 hh.2.1 hh.2.2 hvc
      · simp at h
    · rename_i τ xs hc
      split at h
      · rename_i hh
        simp only [Option.some.injEq, Prod.mk.injEq] at h
        obtain ⟨rfl, rfl⟩ := h
        exact key c _ τ xs k i hc (.inr ⟨_, rfl⟩) hh.1 hh.2.1 hh.2.2 hvc
      · simp at h
    · simp at h
  · simp at h

theorem capsOf_sound (hE : EnvOk N ρ E a) {caps : List Operand} {l : List Nat} (h : capsOf (caps.map (opv E)) = some l) : caps.map a.eval = l.map fun c => shiftV (ρ c) 0 := by
  induction caps generalizing l with
  | nil => simp [capsOf] at h; subst h; rfl
  | cons x caps ih =>
    simp only [List.map_cons] at h
    unfold capsOf at h
    split at h
    · rename_i heq; simp at heq
    · rename_i c r heq
      simp only [List.cons.injEq] at heq
      obtain ⟨hx, rfl⟩ := heq
      simp only [Option.map_eq_some_iff] at h
      obtain ⟨l', hl', rfl⟩ := h
      simp only [List.map_cons, opv_den hE hx, ih hl', SV.den, At.den]
    · simp at h

theorem foldl_put (off : Nat) : ∀ (vs : List Value) (k : Nat) (cs : Array Value) (l : List Value), cs.toList = l → off + k + vs.length ≤ l.length →
    ((vs.zipIdx k).foldl (fun (cs : Array Value) (p : Value × Nat) => cs.setIfInBounds (off + p.2) p.1) cs).toList = l.take (off + k) ++ vs ++ l.drop (off + k + vs.length) := by
  intro vs
  induction vs with
  | nil => intro k cs l h hl; simp [h]
  | cons v vs ih =>
    intro k cs l h hl
    simp only [List.zipIdx_cons, List.foldl_cons]
    simp only [List.length_cons] at hl
    rw [ih (k + 1) (cs.setIfInBounds (off + k) v) (l.set (off + k) v) (by simp [h]) (by simp; omega)]
    have e := list_seg_step l (off + k) v vs (by omega)
    rw [show off + (k + 1) = off + k + 1 from by omega]
    rw [e]
    simp

theorem fill_sound (hE : EnvOk N ρ E a) (hH : SatH ρ w H) (pl : Nat → Option (Nat × Nat)) : ∀ (parts : List (Nat × Operand)) (acc r : List At), buildL pl acc (parts.map fun x => (x.1, opv E x.2)) = some r →
    onePart H (parts.map fun x => (x.1, opv E x.2)) = true → Instr.fill pl (denL ρ acc).toArray (parts.map fun x => (x.1, a.eval x.2)) = some (denL ρ r).toArray := by
  intro parts
  induction parts with
  | nil => intro acc r h _; simp [buildL] at h; subst h; rfl
  | cons p parts ih =>
    intro acc r h h1
    obtain ⟨i, x⟩ := p
    simp only [List.map_cons] at h h1 ⊢
    cases hx : opv E x with
    | none => rw [hx] at h; simp [buildL] at h
    | some s =>
      rw [hx] at h h1
      simp only [buildL] at h
      split at h
      case h_2 => simp at h
      rename_i off sz l hpl hl
      split at h
      case isFalse => simp at h
      rename_i hlen
      split at h
      case h_2 => simp at h
      rename_i acc' hacc
      simp only [onePart, hl, Bool.and_eq_true] at h1
      obtain ⟨e1, e2⟩ := putL_spec hacc
      have hc := flat_cells hH hl h1.1
      have ih' := ih acc' r h h1.2
      simp only [Instr.fill, hpl, opv_den hE hx, hc]
      have hsz : (denL ρ l).toArray.size = sz := by simp [denL, hlen]
      rw [if_neg (by simp [denL, hlen] at e2 ⊢; omega)]
      have hf : ((denL ρ l).toArray.zipIdx.foldl (fun (cs : Array Value) (p : Value × Nat) => cs.setIfInBounds (off + p.2) p.1) (denL ρ acc).toArray) = (denL ρ acc').toArray := by
        rw [← Array.foldl_toList]
        apply Array.ext'
        have := foldl_put off (denL ρ l) 0 (denL ρ acc).toArray (denL ρ acc) rfl (by simp [denL]; omega)
        simp only [Nat.add_zero] at this
        simp only [Array.toList_zipIdx]
        rw [this]
        simp [denL, e1, List.map_take, List.map_drop]
      rw [← ih', ← hf]

theorem sizedOffs_spec {l : List (Nat × Nat × Nat)} (h : sizedOffs l = true) : ∀ x ∈ l, x.2.1 ≠ 0 := by
  induction l with
  | nil => intro x hx; simp at hx
  | cons y l ih =>
    obtain ⟨o, s, k⟩ := y
    simp only [sizedOffs, Bool.and_eq_true, decide_eq_true_eq] at h
    intro x hx
    rcases List.mem_cons.1 hx with rfl | hx
    · exact h.1
    · exact ih h.2 x hx

theorem mapM_places (fs : List Field) (h : ∀ f ∈ fs, szOf P f.type ≠ 0) : fs.mapM (fun f => (P.info? f.type).map fun i => (f.offset, i.size)) = some (fs.map fun f => (f.offset, szOf P f.type)) := by
  induction fs with
  | nil => rfl
  | cons f fs ih =>
    simp only [List.mapM_cons, Option.bind_eq_bind, Option.pure_def]
    cases hi : P.info? f.type with
    | none => exact absurd (by simp [szOf, hi]) (h f (by simp))
    | some i => simp [ih fun g hg => h g (by simp [hg]), szOf, hi]

theorem buildV_sound {t : TypeId} {ti : TI} {parts : Array (Nat × Operand)} {vc : Prop} {s : SV} (hE : EnvOk N ρ E a) (hH : SatH ρ w H) (ht : tiOf P t = some ti) (h : buildV P E H ti parts = some (vc, s)) (hvc : vc) :
    (Instr.build t (parts.map fun (i, x) => (i, a.eval x))).run P w = .ok (s.den ρ) w := by
  simp only [buildV, Option.map_eq_some_iff, Prod.mk.injEq] at h
  obtain ⟨l, hl, rfl, rfl⟩ := h
  obtain ⟨h1, h23⟩ := hvc
  have hf := fill_sound hE hH (placeOf P ti) parts.toList _ l hl h1
  rw [show denL ρ (ti.zero.map At.v) = ti.zero from by simp [denL, Function.comp_def, At.den]] at hf
  refine run_build w t _ _ ?_
  obtain ⟨i, d, z, hi, hd, hz, rfl⟩ := tiOf_some ht
  have hparts : (parts.map fun (i, x) => (i, a.eval x)).toList = parts.toList.map fun x => (x.1, a.eval x.2) := by simp
  rw [hparts]
  simp only [Array.toArray_toList] at hf
  unfold Program.built
  simp only [hi, hd]
  rcases h23 with ⟨hk, h2⟩ | ⟨hk, h3⟩
  · obtain ⟨fs, rfl⟩ := kndD_struct hk
    have hm := mapM_places (P := P) fs.toList (fun f hf => sizedOffs_spec h2 _ (List.mem_map.2 ⟨f, hf, rfl⟩))
    simp only [hz, hm]
    have e : (fun x => (fs.toList.map fun f => (f.offset, szOf P f.type)).toArray[x]?) = placeOf P ⟨i.size, i.bytes, z.cells.toList, aggD (.struct fs), offsD P (.struct fs), elemD (.struct fs), alenD (.struct fs), kndD (.struct fs), ikD (.struct fs)⟩ := by
      funext x
      simp [placeOf, kndD, offsD, Function.comp_def]
    rw [e]
    exact hf
  · obtain ⟨n, e, rfl⟩ := kndD_array hk
    simp only [elemD] at h3
    cases hie : P.info? e with
    | none => exact absurd (by simp [szOf, hie]) h3
    | some ie =>
      simp only [hz, hie]
      have e' : (fun x => some (x * ie.size, ie.size)) = placeOf P ⟨i.size, i.bytes, z.cells.toList, aggD (.array n e), offsD P (.array n e), elemD (.array n e), alenD (.array n e), kndD (.array n e), ikD (.array n e)⟩ := by
        funext x
        simp [placeOf, kndD, elemD, szOf, hie]
      rw [e']
      exact hf

theorem st_sound {o : Oper} {vc : Prop} {s : SV} (hE : EnvOk N ρ E a) (hH : SatH ρ w H) (h : st P E H o.op = some (vc, s)) (hvc : vc) :
    (execOp a.eval o).run P w = .ok (.value (s.den ρ)) w := by
  unfold execOp
  generalize o.op = op at h
  cases op
  case move x =>
    simp only [st, Option.map_eq_some_iff, Prod.mk.injEq] at h
    obtain ⟨s', hs, _, rfl⟩ := h
    simp [opv_den hE hs]
  case assign x =>
    simp only [st, Option.map_eq_some_iff, Prod.mk.injEq] at h
    obtain ⟨s', hs, _, rfl⟩ := h
    simp [opv_den hE hs]
  case pick c x y =>
    simp only [st] at h
    split at h
    · rename_i c' sx sy hc hx hy
      simp only [Option.some.injEq, Prod.mk.injEq] at h
      obtain ⟨_, rfl⟩ := h
      simp only [opv_den hE hc, opv_den hE hx, opv_den hE hy, SV.den, At.den, asBool, Sem.run_bind, Sem.run_pure, Result.andThen_ok]
      cases c' <;> simp [SV.den]
    · simp at h
  case nilCheck x =>
    simp only [st] at h
    split at h
    · rename_i c o' hx
      simp only [Option.some.injEq, Prod.mk.injEq] at h
      obtain ⟨_, rfl⟩ := h
      obtain ⟨b, o2, hb⟩ := shiftV_form (ρ c) o'
      simp [opv_den hE hx, SV.den, At.den, hb]
    · rename_i c k sz o' hx
      simp only [Option.some.injEq, Prod.mk.injEq] at h
      obtain ⟨_, rfl⟩ := h
      obtain ⟨b, o2, hb⟩ := shiftV_form (ρ c) (k * sz + o')
      simp [opv_den hE hx, SV.den, At.den, hb]
    · rename_i f l hx
      simp only [Option.some.injEq, Prod.mk.injEq] at h
      obtain ⟨_, rfl⟩ := h
      simp [opv_den hE hx, SV.den, At.den]
    · simp at h
  case fieldAddr t x f =>
    simp only [st] at h
    split at h
    · rename_i p ti hx ht
      split at h
      · rename_i off sz agg hf
        split at h
        · simp at h
        · rename_i h0
          simp [opv_den hE hx, SV.den, fldAddr_sound ht hf h0 h]
      · simp at h
    · simp at h
  case load t x =>
    simp only [st] at h
    split at h
    · rename_i p ti hx ht
      have := opLoad_sound (w := w) hH ht h hvc
      simp [opv_den hE hx, SV.den, this]
    · simp at h
  case binOp op t x y yt =>
    simp only [st] at h
    split at h
    · rename_i sx sy hx hy
      have := binH_sound (w := w) (ρ := ρ) hH h hvc x y
      simp only [opv_den hE hx, opv_den hE hy, Sem.run_bind] at this ⊢
      rw [this]; rfl
    · simp at h
  case unOp op t x =>
    simp only [st] at h
    split at h
    · rename_i sx hx
      simp [opv_den hE hx, un_sound (w := w) (ρ := ρ) h hvc]
    · simp at h
  case convert src dst x =>
    simp only [st] at h
    split at h
    · rename_i k n ts td hx hts htd
      split at h
      · rename_i hk
        simp only [Option.some.injEq, Prod.mk.injEq] at h
        obtain ⟨_, rfl⟩ := h
        obtain ⟨i1, d1, z1, h1, h2, h3, rfl⟩ := tiOf_some hts
        obtain ⟨i2, d2, z2, g1, g2, g3, rfl⟩ := tiOf_some htd
        obtain ⟨kk, rfl⟩ := kndD_int hk
        simp [opv_den hE hx, SV.den, At.den, convert, run_underlying h2, run_underlying g2, Conv.intToInt, ikD]
      · simp at h
    · simp at h
  case field t x f =>
    simp only [st] at h
    split at h
    · rename_i l ti hx ht
      split at h
      · rename_i off sz agg hf
        obtain ⟨fs, fd, hu, hfd, rfl, hsz, hagg⟩ := offs_some ht hf
        split at h
        · simp at h
        · rename_i h0
          simp only [not_or] at h0
          obtain ⟨dd, hd, hd'⟩ := kndOf_some hagg h0.1
          have hinfo : (P.info? fd.type).isSome = true := by
            cases hi : P.info? fd.type with
            | none => simp [szOf, hi] at hsz; omega
            | some i => rfl
          have hag : ∀ b, aggD dd = b → aggOf P fd.type = b := fun b hb => by simp [aggOf, hd, hb]
          split at h
          · rename_i hk
            simp only [Option.map_eq_some_iff, Prod.mk.injEq] at h
            obtain ⟨r, hr, _, rfl⟩ := h
            have := part_sound (w := w) (ρ := ρ) (by rw [hd]; rfl) hsz hinfo hr (hag true (by cases dd <;> simp only [kndD] at hd' <;> first | rfl | (exfalso; omega)))
            simp [opv_den hE hx, SV.den, Instr.field, run_underlying hu, hfd, asAgg, this]
          · rename_i hk
            simp only [Option.map_eq_some_iff, Prod.mk.injEq] at h
            obtain ⟨r, hr, _, rfl⟩ := h
            have := part_one (w := w) (ρ := ρ) (by rw [hd]; rfl) hr (hag false (by cases dd <;> simp only [kndD] at hd' <;> first | rfl | (exfalso; omega)))
            simp [opv_den hE hx, SV.den, Instr.field, run_underlying hu, hfd, asAgg, this]
      · simp at h
    · simp at h
  case build t parts =>
    simp only [st] at h
    split at h
    · rename_i ti ht
      have := buildV_sound (w := w) hE hH ht h hvc
      simp only [Sem.run_bind]
      rw [this]; rfl
    · simp at h
  case extract x i =>
    simp only [st] at h
    split at h
    · rename_i l hx
      simp only [Option.map_eq_some_iff, Prod.mk.injEq] at h
      obtain ⟨p, hp, _, rfl⟩ := h
      cases p <;> simp [opv_den hE hx, SV.den, Instr.extract, hp, Pt.sv, Pt.den]
    · simp at h
  case makeFunc f first caps =>
    simp only [st] at h
    split at h
    · rename_i l hf hc
      simp only [Option.some.injEq, Prod.mk.injEq] at h
      obtain ⟨_, rfl⟩ := h
      have hcs := capsOf_sound hE hc
      have hf' : first = #[] := by apply Array.ext'; simpa using hf
      subst hf'
      have hcs' : caps.map a.eval = (l.map fun c => shiftV (ρ c) 0).toArray := by
        apply Array.ext'; simpa using hcs
      simp [SV.den, At.den, Instr.makeFunc, hcs']
    · simp at h
  case indexAddr t x i =>
    simp only [st] at h
    split at h
    · rename_i sx si ti hx hi ht
      simp [opv_den hE hx, opv_den hE hi, idxV_sound (w := w) hH ht h hvc]
    · simp at h
  case call c =>
    obtain ⟨callee, args, ts⟩ := c
    cases callee
    case builtin b =>
      cases b
      case len =>
        simp only [st] at h
        split at h
        · rename_i x t ha hts
          split at h
          · rename_i sx hx
            split at h
            · rename_i hk
              simp only [Option.map_eq_some_iff, Prod.mk.injEq] at h
              obtain ⟨s', hs', _, rfl⟩ := h
              have ha' : args = #[x] := by apply Array.ext'; simpa using ha
              have ht' : ts = #[t] := by apply Array.ext'; simpa using hts
              subst ha'; subst ht'
              simp [resolve, invoke, builtin, opv_den hE hx, lenV_sound (w := w) hH hk hs']
            · simp at h
          · simp at h
        · simp at h
      case min =>
        simp only [st] at h
        split at h
        · rename_i x y ha
          split at h
          · rename_i k x' k' y' hx hy
            simp only [Option.some.injEq, Prod.mk.injEq] at h
            obtain ⟨_, rfl⟩ := h
            have ha' : args = #[x, y] := by apply Array.ext'; simpa using ha
            subst ha'
            simp [resolve, invoke, builtin, opv_den hE hx, opv_den hE hy, SV.den, At.den, run_min_int2]
          · simp at h
        · simp at h
      case max =>
        simp only [st] at h
        split at h
        · rename_i x y ha
          split at h
          · rename_i k x' k' y' hx hy
            simp only [Option.some.injEq, Prod.mk.injEq] at h
            obtain ⟨_, rfl⟩ := h
            have ha' : args = #[x, y] := by apply Array.ext'; simpa using ha
            subst ha'
            simp [resolve, invoke, builtin, opv_den hE hx, opv_den hE hy, SV.den, At.den, run_max_int2]
          · simp at h
        · simp at h
      all_goals simp [st] at h
    all_goals simp [st] at h
  all_goals simp [st] at h
end
end Go.Proofs.Ytgbmhfbfcbjccaa
