/- The engine's operations that make slices: literals, make, append, slicing. Conditions: none; plain definitions and theorems. -/
import Derived.Test.YtgbmhfbfcbjccaaEngF
namespace Go.Proofs.Ytgbmhfbfcbjccaa
set_option linter.unusedSimpArgs false
set_option linter.unusedVariables false
open Go.RowKit

/-- The elements of a literal, one by one. -/
def partsD (τ : FTy) : Nat → List (Nat × Option SV) → Option (List τ.D)
  | _, [] => some []
  | k, (i, some s) :: r =>
    if i = k then
      match s.flat with
      | some l =>
        match valsOf l with
        | some vs =>
          match τ.read vs with
          | some d => (partsD τ (k + 1) r).map (d :: ·)
          | none => none
        | none => none
      | none => none
    else none
  | _, (_, none) :: _ => none

def efBuildS (C : Cfg) (E : Env) (H : Hp) (d : Nat) (t : TypeId) (n : Nat) (parts : Array (Nat × Operand)) : Option (Prop × SV × Hp) :=
  match tiOf C.P t with
  | some ti =>
    match C.G ti.elem, tiOf C.P ti.elem with
    | some τ, some te =>
      (partsD τ 0 (partsV E parts)).map fun xs => (frsh (cid d) E H ∧ ti.knd = 3 ∧ te.sz = τ.sz ∧ te.zero = τ.cells τ.dflt ∧ xs.length = n ∧ 0 < τ.sz ∧ n * τ.sz ≤ 4096, .a (.ref (cid d)), (cid d, .row τ ti.elem xs) :: H)
    | _, _ => none
  | none => none
def efMake (C : Cfg) (E : Env) (H : Hp) (d : Nat) (t : TypeId) (l c : SV) : Option (Prop × SV × Hp) :=
  match tiOf C.P t with
  | some ti =>
    match C.G ti.elem, tiOf C.P ti.elem, l, c with
    | some τ, some te, .a (.v (.int _ l)), .a (.v (.int _ c)) =>
      some (frsh (cid d) E H ∧ ti.knd = 3 ∧ te.sz = τ.sz ∧ 0 < τ.sz ∧ te.zero = τ.cells τ.dflt ∧ 0 ≤ l ∧ l ≤ c ∧ (te.bytes : Int) * c ≤ 281474976710656 ∧ c ≤ 9223372036854775807, .a (.ref (cid d)), (cid d, .row τ ti.elem (List.replicate l.toNat τ.dflt)) :: H)
    | _, _, _, _ => none
  | none => none
/-- What a slice holds, as elements of a type. -/
def slRead (H : Hp) (τ : FTy) : SV → Option (List τ.D)
  | .a (.ref c) =>
    match hk H c with
    | some (.row σ _ ys) => FTy.castL σ τ ys
    | some (.rd _ σ ys) => FTy.castL σ τ ys
    | _ => none
  | .a (.v (.slice none 0 0)) => some []
  | _ => none
def efAppend (C : Cfg) (E : Env) (H : Hp) (d : Nat) (t : TypeId) (s x : SV) : Option (Prop × SV × Hp) :=
  match tiOf C.P t with
  | some ti =>
    match tiOf C.P ti.elem with
    | some te =>
      match s with
      | .a (.ref c) =>
        match hk H c with
        | some (.row τ e xs) => (slRead H τ x).map fun ys =>
          (frsh (cid d) E H ∧ ti.knd = 3 ∧ ti.elem = e ∧ te.sz = τ.sz ∧ 0 < τ.sz ∧ te.zero = τ.cells τ.dflt ∧ xs.length + ys.length ≤ 9223372036854775807 ∧ (xs.length + ys.length) * te.bytes ≤ 140737488355328,
            .a (.ref (cid d)), (cid d, .row τ e (xs ++ ys)) :: hdel H c)
        | _ => none
      | .a (.v (.slice none 0 0)) =>
        match C.G ti.elem with
        | some τ => (slRead H τ x).map fun ys =>
          (frsh (cid d) E H ∧ ti.knd = 3 ∧ te.sz = τ.sz ∧ 0 < τ.sz ∧ te.zero = τ.cells τ.dflt ∧ ys.length ≤ 9223372036854775807 ∧ ys.length * te.bytes ≤ 140737488355328,
            .a (.ref (cid d)), (cid d, .row τ ti.elem ys) :: H)
        | none => none
      | _ => none
    | none => none
  | none => none

section
variable {A : Amb} {ρ : Vl} {w : World} {H : Hp} {E : Env} {N : Fm} {a : Act} {C : Cfg}

theorem partsD_sound (hE : EnvOk N ρ E a) (hH : SatH ρ w H) (τ : FTy) : ∀ (parts : List (Nat × Operand)) (k : Nat) (xs : List τ.D) (cs : Array Value), partsD τ k (parts.map fun x => (x.1, opv E x.2)) = some xs →
    (k + parts.length) * τ.sz ≤ cs.size →
    xs.length = parts.length ∧ Instr.fill (fun i => some (i * τ.sz, τ.sz)) cs (parts.map fun x => (x.1, a.eval x.2)) = some (cs.toList.take (k * τ.sz) ++ xs.flatMap τ.cells ++ cs.toList.drop ((k + parts.length) * τ.sz)).toArray := by
  intro parts
  induction parts with
  | nil =>
    intro k xs cs h hl
    simp only [List.map_nil, partsD, Option.some.injEq] at h
    subst h
    simp [Instr.fill]
  | cons p parts ih =>
    intro k xs cs h hl
    obtain ⟨i, x⟩ := p
    simp only [List.map_cons] at h ⊢
    cases hx : opv E x with
    | none => rw [hx] at h; simp [partsD] at h
    | some s =>
      rw [hx] at h
      simp only [partsD] at h
      split at h
      case isFalse => simp at h
      rename_i hik; subst hik
      split at h
      case h_2 => simp at h
      rename_i l hfl
      split at h
      case h_2 => simp at h
      rename_i vs hvs
      split at h
      case h_2 => simp at h
      rename_i d hd
      simp only [Option.map_eq_some_iff] at h
      obtain ⟨xs', hxs, rfl⟩ := h
      have hrd := τ.read_ok _ _ hd
      have hone : ∀ u ∈ vs, u.oneCell' = true := fun u hu => τ.one d u (by rw [hrd]; exact hu)
      have hden := valsOf_den (ρ := ρ) hvs
      have hc := flat_cells hH hfl (valsOf_one hvs hone H)
      rw [hden] at hc
      have hvl : vs.length = τ.sz := by rw [← hrd, τ.len]
      simp only [List.length_cons] at hl ⊢
      have hm : (i + 1) * τ.sz ≤ cs.size := Nat.le_trans (Nat.mul_le_mul_right _ (by omega)) hl
      rw [Nat.succ_mul] at hm
      simp only [Instr.fill, opv_den hE hx, hc]
      rw [if_neg (by simp [hvl]; omega)]
      have hf := foldl_put (i * τ.sz) vs 0 cs cs.toList rfl (by simp [hvl]; omega)
      simp only [Nat.add_zero] at hf
      have hf2 : (vs.toArray.zipIdx.foldl (fun (cs : Array Value) (p : Value × Nat) => cs.setIfInBounds (i * τ.sz + p.2) p.1) cs) = (cs.toList.take (i * τ.sz) ++ vs ++ cs.toList.drop (i * τ.sz + vs.length)).toArray := by
        rw [← Array.foldl_toList]
        apply Array.ext'
        simp only [Array.toList_zipIdx]
        rw [hf]
      obtain ⟨h1, h2⟩ := ih (i + 1) xs' (cs.toList.take (i * τ.sz) ++ vs ++ cs.toList.drop (i * τ.sz + vs.length)).toArray hxs (by
        simp only [List.size_toArray, List.length_append, List.length_take, List.length_drop, Array.length_toList]
        have : (i + 1 + parts.length) * τ.sz = (i + (parts.length + 1)) * τ.sz := by congr 1; omega
        omega)
      refine ⟨by simp [h1], ?_⟩
      show Instr.fill _ (vs.toArray.zipIdx.foldl (fun (cs : Array Value) (p : Value × Nat) => cs.setIfInBounds (i * τ.sz + p.2) p.1) cs) _ = _
      rw [hf2, h2]
      congr 2
      rw [List.flatMap_cons, hrd, Nat.succ_mul]
      have ht : (cs.toList.take (i * τ.sz)).length = i * τ.sz := by simp; omega
      have e1 : List.take (i * τ.sz + τ.sz) (cs.toList.take (i * τ.sz) ++ vs ++ cs.toList.drop (i * τ.sz + vs.length)) = cs.toList.take (i * τ.sz) ++ vs := by
        rw [List.take_append_of_le_length (by simp [hvl]; omega)]
        rw [List.take_of_length_le (by simp [hvl]; omega)]
      have e2 : List.drop ((i + 1 + parts.length) * τ.sz) (cs.toList.take (i * τ.sz) ++ vs ++ cs.toList.drop (i * τ.sz + vs.length)) = cs.toList.drop ((i + (parts.length + 1)) * τ.sz) := by
        have hge : i * τ.sz + τ.sz ≤ (i + 1 + parts.length) * τ.sz := by rw [← Nat.succ_mul]; exact Nat.mul_le_mul_right _ (by omega)
        rw [List.drop_append, List.drop_of_length_le (by simp [hvl]; omega), List.nil_append, List.drop_drop]
        congr 1
        have e3 : (i + 1 + parts.length) * τ.sz = (i + (parts.length + 1)) * τ.sz := by congr 1; omega
        simp only [List.length_append, ht, hvl]
        omega
      rw [e1, e2]
      simp

/-- A new slice of one's own. -/
theorem Holds.newRow (h : Holds A ρ w H) (hE : EnvOk N ρ E a) {d : Nat} (hf : frsh (cid d) E H) {w' : World} (ha : Agree (fun _ => False) w w') (v : Value) (τ : FTy) (e : TypeId) (xs : List τ.D)
    (ho : w'.ownsRow w.heap.size e τ.sz v xs.length (xs.flatMap τ.cells)) :
    Holds A (Vl.upd ρ (cid d) v) w' ((cid d, .row τ e xs) :: H) ∧ EnvOk N (Vl.upd ρ (cid d) v) E a := by
  refine ⟨h.new ha hf.2 (cid_ge d) _ _ (fun _ b hb => ?_) ⟨ho.1, ?_⟩, hE.fresh hf.1 _⟩
  · rcases ho.2 with ⟨rfl, _⟩ | ⟨g, cap, cur, rfl, hb', _⟩
    · simp [blk] at hb
    · simp only [blk, Option.some.injEq] at hb; omega
  · rcases ho.2 with hn | ⟨g, cap, cur, hv, hb', r⟩
    · exact .inl hn
    · exact .inr ⟨g, cap, cur, hv, Nat.zero_le _, r⟩

theorem run_zero_of {P : Program} {t : TypeId} {ti : TI} (ht : tiOf P t = some ti) : ∃ i z, P.info? t = some i ∧ i.zero = some z ∧ z.cells.toList = ti.zero ∧ i.size = ti.sz ∧ i.bytes = ti.bytes := by
  obtain ⟨i, d, z, hi, hd, hz, rfl⟩ := tiOf_some ht
  exact ⟨i, z, hi, hz, rfl, rfl, rfl⟩
theorem under_slice {P : Program} {t : TypeId} {ti : TI} (ht : tiOf P t = some ti) (hk : ti.knd = 3) : P.underlying t = some (.slice ti.elem) := by
  obtain ⟨i, d, z, hi, hd, hz, rfl⟩ := tiOf_some ht
  obtain ⟨e, rfl⟩ := kndD_slice hk
  exact hd

theorem efBuildS_sound {o : Oper} {d : Nat} {t : TypeId} {n : Nat} {parts : Array (Nat × Operand)} {vc : Prop} {s : SV} {H' : Hp} (h : Holds A ρ w H) (hE : EnvOk N ρ E a) (ho : o.op = .buildSlice t n parts)
    (he : efBuildS C E H d t n parts = some (vc, s, H')) (hvc : vc) :
    ∃ ρ' w', (execOp a.eval o).run C.P w = .ok (.value (s.den ρ')) w' ∧ Holds A ρ' w' H' ∧ EnvOk N ρ' E a ∧ Keep E H ρ ρ' := by
  unfold efBuildS at he
  split at he
  case h_2 => simp at he
  rename_i ti ht
  split at he
  case h_2 => simp at he
  rename_i τ te hτ hte
  simp only [Option.map_eq_some_iff, Prod.mk.injEq] at he
  obtain ⟨xs, hxs, rfl, rfl, rfl⟩ := he
  obtain ⟨hf, hk, hsz, hz, hn, hpos, hle⟩ := hvc
  have hu := under_slice ht hk
  obtain ⟨i, z, hi, hzz, hzc, his, hib⟩ := run_zero_of hte
  have hx := partsD_sound (w := w) hE h.satH τ parts.toList 0 xs ((Array.range (n * τ.sz)).map (z.cells[· % z.cells.size]!)) hxs (by
    have := (partsD_sound (w := w) hE h.satH τ parts.toList 0 xs (Array.replicate ((0 + parts.toList.length) * τ.sz) undef) hxs (by simp)).1
    simp only [Array.size_map, Array.size_range, Nat.zero_add]
    rw [← this, hn]
    exact Nat.le_refl _)
  obtain ⟨hl, hfill⟩ := hx
  have hnp : parts.toList.length = n := by rw [← hl]; exact hn
  have hcells : (((Array.range (n * τ.sz)).map (z.cells[· % z.cells.size]!)).toList.take (0 * τ.sz) ++ xs.flatMap τ.cells ++ ((Array.range (n * τ.sz)).map (z.cells[· % z.cells.size]!)).toList.drop ((0 + parts.toList.length) * τ.sz)) = xs.flatMap τ.cells := by
    rw [List.drop_of_length_le (by simp [hnp])]
    simp
  rw [hcells] at hfill
  have hparts : (parts.map fun (i, x) => (i, a.eval x)).toList = parts.toList.map fun x => (x.1, a.eval x.2) := by simp
  have hown : (w.alloc (.cells (xs.flatMap τ.cells).toArray ti.elem)).ownsRow w.heap.size ti.elem τ.sz (.slice (some ⟨w.heap.size, 0, none⟩) xs.length xs.length) xs.length (xs.flatMap τ.cells) := by
    have := World.ownsRow_lit (base := w.heap.size) (e := ti.elem) (size := τ.sz) w (xs.flatMap τ.cells).toArray xs.length (Nat.le_refl _) (by have := Nat.le_mul_of_pos_right n hpos; simp only [maxLen]; omega) (by rw [List.size_toArray, flatMap_length])
    simpa using this
  obtain ⟨h1, h2⟩ := h.newRow hE hf (agree_alloc w _) _ τ ti.elem xs hown
  refine ⟨_, _, ?_, h1, h2, keep_upd hf _⟩
  have hbig : ¬ (n * i.size > 2 ^ 24) := by rw [his, hsz]; omega
  have hzero : (if n * i.size = 0 then (pure #[] : Sem (Array Value)) else do pure (← zeroValue ti.elem).cells).run C.P w = .ok (if n * i.size = 0 then #[] else z.cells) w := by
    split <;> simp [zeroValue, typeInfo, hi, hzz]
  have hsz' : i.size = τ.sz := by rw [his, hsz]
  by_cases h0 : n * τ.sz = 0
  · have hn0 : n = 0 := by rcases Nat.mul_eq_zero.1 h0 with h | h; exact h; omega
    subst hn0
    have hp0 : parts = #[] := by apply Array.ext'; exact List.eq_nil_of_length_eq_zero hnp
    have hx0 : xs = [] := List.eq_nil_of_length_eq_zero hn
    subst hp0; subst hx0
    simp [execOp, ho, Instr.buildSlice, run_underlying hu, sizeOf, typeInfo, hi, Instr.fill, newRow, SV.den, At.den, upd_same, Array.range_zero']
  · have hbig' : ¬ (n * τ.sz > 2 ^ 24) := by omega
    simp only [execOp, ho, Instr.buildSlice, run_underlying hu, sizeOf, typeInfo, hi, Sem.run_bind, Sem.run_pure, Result.andThen_ok, run_program, hsz', Sem.run_ite]
    rw [if_neg hbig']
    simp only [h0, if_false, zeroValue, typeInfo, hi, hzz, Sem.run_bind, Sem.run_pure, Result.andThen_ok, run_program, hparts]
    rw [hfill]
    simp [newRow, SV.den, At.den, upd_same, hn]

theorem madeCells_rep (τ : FTy) (z : Value) (hz : z.cells.toList = τ.cells τ.dflt) (hp : 0 < τ.sz) (m n : Nat) (hnm : n ≤ m) : (madeCells z.cells (m * τ.sz)).toList.take (n * τ.sz) = (List.replicate n τ.dflt).flatMap τ.cells := by
  have hzs : z.cells.size = τ.sz := by rw [← Array.length_toList, hz, τ.len]
  have hle : n * τ.sz ≤ m * τ.sz := Nat.mul_le_mul_right _ hnm
  apply List.ext_getElem?
  intro j
  by_cases hj : j < n * τ.sz
  · have hq : j / τ.sz < n := Nat.div_lt_of_lt_mul (by rw [Nat.mul_comm]; exact hj)
    have hr : j % τ.sz < τ.sz := Nat.mod_lt _ hp
    have hjj : j = (j / τ.sz) * τ.sz + j % τ.sz := by rw [Nat.mul_comm]; exact (Nat.div_add_mod j τ.sz).symm
    rw [List.getElem?_take, if_pos hj]
    have h1 : (madeCells z.cells (m * τ.sz)).toList[j]? = (τ.cells τ.dflt)[j % τ.sz]? := by
      simp only [madeCells, Array.toList_map, List.getElem?_map, Array.getElem?_toList]
      rw [Array.getElem?_eq_getElem (by simp; omega)]
      simp only [Array.getElem_range, Option.map_some, hzs]
      rw [← hz, Array.getElem?_toList]
      rw [Array.getElem?_eq_getElem (by rw [hzs]; exact hr)]
      simp [hzs, hr, getElem!_def]
    rw [h1]
    have h2 := flatMap_get τ.cells τ.sz τ.len (List.replicate n τ.dflt) (j / τ.sz) (by simpa using hq) (j % τ.sz) hr
    rw [← hjj] at h2
    rw [h2, List.getElem_replicate]
  · rw [List.getElem?_eq_none (by simp; omega), List.getElem?_eq_none (by rw [flatMap_length]; simp; omega)]

theorem efMake_sound {o : Oper} {d : Nat} {t : TypeId} {l c : Operand} {sl sc : SV} {vc : Prop} {s : SV} {H' : Hp} (h : Holds A ρ w H) (hE : EnvOk N ρ E a) (ho : o.op = .makeSlice t l c)
    (hl : opv E l = some sl) (hc : opv E c = some sc) (he : efMake C E H d t sl sc = some (vc, s, H')) (hvc : vc) :
    ∃ ρ' w', (execOp a.eval o).run C.P w = .ok (.value (s.den ρ')) w' ∧ Holds A ρ' w' H' ∧ EnvOk N ρ' E a ∧ Keep E H ρ ρ' := by
  unfold efMake at he
  split at he
  case h_2 => simp at he
  rename_i ti ht
  split at he
  case h_2 => simp at he
  rename_i τ te kl l' kc c' hτ hte
  simp only [Option.some.injEq, Prod.mk.injEq] at he
  obtain ⟨rfl, rfl, rfl⟩ := he
  obtain ⟨hf, hk, hsz, hpos, hz, h0, hlc, hb, h63⟩ := hvc
  have hu := under_slice ht hk
  obtain ⟨i, z, hi, hzz, hzc, his, hib⟩ := run_zero_of hte
  have hr := run_make (P := C.P) w t ti.elem i z hu hi hzz kl kc l' c' h0 hlc (by rw [hib]; exact hb) h63
  have hown : (w.alloc (.cells (madeCells z.cells (c'.toNat * i.size)) ti.elem)).ownsRow w.heap.size ti.elem τ.sz (.slice (some ⟨w.heap.size, 0, none⟩) l'.toNat c'.toNat) (List.replicate l'.toNat τ.dflt).length ((List.replicate l'.toNat τ.dflt).flatMap τ.cells) := by
    rw [List.length_replicate]
    refine ⟨by rw [flatMap_length, List.length_replicate], .inr ⟨w.heap.size, c'.toNat, _, rfl, Nat.le_refl _, (heap_alloc_new w _), by omega, by simp only [maxLen]; omega, ?_, ?_⟩⟩
    · rw [size_madeCells, his, hsz]
    · rw [his, hsz]
      exact madeCells_rep τ z (by rw [hzc, hz]) hpos _ _ (by omega)
  obtain ⟨h1, h2⟩ := h.newRow hE hf (agree_alloc w _) _ τ ti.elem _ hown
  refine ⟨_, _, ?_, h1, h2, keep_upd hf _⟩
  have e1 := opv_den hE hl
  have e2 := opv_den hE hc
  simp only [SV.den, At.den] at e1 e2
  simp [execOp, ho, e1, e2, hr, SV.den, At.den, upd_same]

theorem slRead_sound (hH : SatH ρ w H) {τ : FTy} {x : SV} {ys : List τ.D} (h : slRead H τ x = some ys) : RdSl τ w (x.den ρ) ys := by
  obtain ⟨M, hM⟩ := hH
  have key : ∀ (c : Nat) (ch : Ch) (σ : FTy) (zs : List σ.D), hk H c = some ch → ((∃ e, ch = .row σ e zs) ∨ ∃ g, ch = .rd g σ zs) → FTy.castL σ τ zs = some ys → RdSl τ w (ρ c) ys := by
    intro c ch σ zs hc hch hcast
    obtain ⟨hs, hl, hf⟩ := FTy.castL_ok hcast
    obtain ⟨A, cap, hv, hm, hn, hcc⟩ := sl_flat (hM _ (hk_mem hc)) hch
    rw [hl] at hv hm hn hcc
    rw [hf] at hcc
    exact ⟨A, cap, hv, hm, hn, hcc⟩
  unfold slRead at h
  split at h
  · split at h
    · rename_i hc; exact key _ _ _ _ hc (.inl ⟨_, rfl⟩) h
    · rename_i hc; exact key _ _ _ _ hc (.inr ⟨_, rfl⟩) h
    · simp at h
  · simp only [Option.some.injEq] at h; subst h
    exact ⟨none, 0, rfl, ⟨by simp, by simp⟩, fun _ => ⟨rfl, rfl⟩, fun hp => by simp at hp⟩
  · simp at h

/-- 'append' onto what one owns: in place, or in a new block. -/
theorem run_append_mine {P : Program} (t ty e : TypeId) (i : TypeInfo) (z : Value) (size bytes : Nat) (ht : P.underlying t = some (.slice e)) (hi : P.info? e = some i) (hz : i.zero = some z)
    (hsize : i.size = size) (hby : i.bytes = bytes) (hzs : z.cells.size = size) (hsz : 0 < size)
    (v : Value) (n : Nat) (xs : List Value) (hown : w.ownsRow 0 e size v n xs)
    (a : Addr) (m c : Nat) (news : List Value) (hl : news.length = m * size) (hnews : ∀ j u, news[j]? = some u → w.cell? (a.add j) = some u) (h1 : ∀ u ∈ news, u.oneCell' = true)
    (h63 : n + m ≤ maxLen) (hbytes : (n + m) * bytes ≤ 140737488355328) :
    ∃ v' w', (Builtin.append_ #[t, t] ty #[v, .slice (some a) m c]).run P w = .ok v' w' ∧ w'.ownsRow 0 e size v' (n + m) (xs ++ news) ∧ w.grownBy w' v.ownBlock ∧
      (∀ g, v'.ownBlock = some g → v.ownBlock = some g ∨ w.heap.size ≤ g) := by
  obtain ⟨v', w', hr, h2, h3, h4⟩ := run_append_own (P := P) w 0 t ty e i z size bytes ht hi hz hsize hby hzs hsz v n xs hown a m c news hl hnews h1 h63 hbytes (Nat.zero_le _)
  refine ⟨v', w', hr, h2, h3, ?_⟩
  subst hsize
  subst hby
  have hsmall : n + m ≤ 9223372036854775807 := by simp only [maxLen] at h63; omega
  intro g hg
  rcases hown.2 with ⟨rfl, rfl⟩ | ⟨g0, cap, cur, rfl, hb, hgg, hnc, hcm, hcs, htake⟩
  · by_cases hm : m = 0
    · rw [h4.2 ⟨rfl, hm⟩] at hg; simp [Value.ownBlock] at hg
    · have hr2 := run_append_nil (P := P) w t ty e i z ht hi hz a m c news hl hnews (by omega) (by omega) (by have hb := hbytes; simp only [Nat.zero_add] at hb; omega)
      rw [hr] at hr2
      simp only [Result.ok.injEq] at hr2
      rw [hr2.1] at hg
      simp only [Value.ownBlock, Option.some.injEq] at hg
      right; omega
  · by_cases hroom : n + m ≤ cap
    · obtain ⟨w2, hr2, _⟩ := run_append_fits (P := P) w 0 t ty e i i.size ht hi rfl g0 n cap xs hown a m c news hl hnews h1 hroom
      rw [hr] at hr2
      simp only [Result.ok.injEq] at hr2
      rw [hr2.1] at hg
      left; exact hg
    · have holds : ∀ j u, xs[j]? = some u → w.cell? ((⟨g0, 0, none⟩ : Addr).add j) = some u := hown.cells (g := g0) rfl
      have hr2 := run_append_grow (P := P) w t ty e i z ht hi hz ⟨g0, 0, none⟩ n cap xs hown.1 holds a m c news hl hnews (by omega) (by omega) (growslice_fits (by omega) hbytes)
      rw [hr] at hr2
      simp only [Result.ok.injEq] at hr2
      rw [hr2.1] at hg
      simp only [Value.ownBlock, Option.some.injEq] at hg
      right; omega

theorem hdel_sublist (H : Hp) (c : Nat) : List.Sublist (hdel H c) H := by
  induction H with
  | nil => exact List.Sublist.refl _
  | cons q r ih =>
    obtain ⟨k, x⟩ := q
    simp only [hdel]
    split
    · exact List.sublist_cons_self _ _
    · exact ih.cons_cons _
theorem ownBlock_blk {B : Nat} {e : TypeId} {sz n : Nat} {v : Value} {xs : List Value} (h : w.ownsRow B e sz v n xs) : v.ownBlock = blk v := by
  rcases h.2 with ⟨rfl, _⟩ | ⟨g, cap, cur, rfl, _⟩ <;> rfl

/-- A slice of one's own has grown: in place, or into a new block; what it was is forgotten. -/
theorem Holds.regrow (h : Holds A ρ w H) (hE : EnvOk N ρ E a) {d c : Nat} (hf : frsh (cid d) E H) {ch : Ch} (hc : hk H c = some ch) (ho : ch.own = true) {w' : World} (ha : Agree (fun b => blk (ρ c) = some b) w w')
    (v' : Value) (ch' : Ch) (hs : ∀ M ρ, ch'.sat M ρ w' v') (hb : ∀ g, blk v' = some g → blk (ρ c) = some g ∨ w.heap.size ≤ g) :
    Holds A (Vl.upd ρ (cid d) v') w' ((cid d, ch') :: hdel H c) ∧ EnvOk N (Vl.upd ρ (cid d) v') E a := by
  have hcm := hk_mem hc
  have hfr := freshH_spec hf.2
  have h100 : ∀ p ∈ A.pin, p.1 ≠ cid d := fun p hp => by have := h.pin_lt p hp; have := cid_ge d; omega
  have hρ : ∀ p ∈ H, (Vl.upd ρ (cid d) v') p.1 = ρ p.1 := fun p hp => upd_ne ρ v' (hfr p hp).1
  have hdelm : ∀ p ∈ hdel H c, p ∈ H ∧ p.1 ≠ c := fun p hp => mem_hdel h.nodup hp
  have hbm : ∀ b, blk (ρ c) = some b → Mine ρ H b := fun b hb => ⟨_, hcm, ho, hb⟩
  have hmine : ∀ b, Mine (Vl.upd ρ (cid d) v') ((cid d, ch') :: hdel H c) b → Mine ρ H b ∨ w.heap.size ≤ b := by
    rintro b ⟨p, hp, hop, hbb⟩
    rcases List.mem_cons.1 hp with rfl | hp
    · rw [upd_same] at hbb
      rcases hb b hbb with h1 | h1
      · exact .inl (hbm b h1)
      · exact .inr h1
    · obtain ⟨hp', _⟩ := hdelm p hp
      rw [hρ p hp'] at hbb
      exact .inl ⟨p, hp', hop, hbb⟩
  refine ⟨⟨⟨ha.os.trans h.frame.os, ha.tape.trans h.frame.tape, ha.output.trans h.frame.output, Nat.le_trans h.frame.size ha.size, fun b hb' hn => ?_⟩, ?_, ?_, ?_, ?_, h.mw_m, h.m_lt, fun p hp => (upd_ne ρ v' (h100 p hp)).trans (h.pin p hp), h.pin_lt⟩, hE.fresh hf.1 _⟩
  · refine (ha.block b (Nat.lt_of_lt_of_le hb' h.frame.size) fun hf => ?_).trans (h.frame.block b hb' hn)
    rcases h.mine b (hbm b hf) with h1 | h1
    · omega
    · exact hn h1
  · simp only [List.map_cons, List.nodup_cons]
    refine ⟨fun hm => ?_, ?_⟩
    · obtain ⟨p, hp, e⟩ := List.mem_map.1 hm
      exact (hfr p (hdelm p hp).1).1 e
    · exact ((hdel_sublist H c).map Prod.fst).nodup h.nodup
  · intro p hp
    rcases List.mem_cons.1 hp with rfl | hp'
    · rw [upd_same]; exact hs _ _
    · obtain ⟨hpH, hpc⟩ := hdelm p hp'
      rw [hρ p hpH]
      have hsp := h.sat p hpH
      have hm : ∀ c', p.2.men c' = true → (Vl.upd ρ (cid d) v') c' = ρ c' := fun c' hc' => upd_ne ρ v' fun e => by subst e; rw [(hfr p hpH).2] at hc'; cases hc'
      by_cases hop : p.2.own = true
      · exact Ch.sat_own hsp hop (fun b hb => ha.block b (Ch.own_lt hsp hop hb) (fun hf => h.apart p hpH _ hcm hop ho hpc b hb hf)) hm
      · refine Ch.sat_pers hsp (by simpa using hop) (fun g => ha.mono fun b _ hf => .inr (hbm b hf)) (fun g b hbM => ?_) hm
        rcases hbM with hbM | hbM
        · exact .inl (.inl hbM)
        · rcases hmine b hbM with h1 | h1
          · exact .inl (.inr h1)
          · exact .inr h1
  · have key : ∀ q ∈ hdel H c, q.2.own = true → ∀ b, blk v' = some b → blk ((Vl.upd ρ (cid d) v') q.1) ≠ some b := by
      intro q hq hoq b hbb hqb
      obtain ⟨hqH, hqc⟩ := hdelm q hq
      rw [hρ q hqH] at hqb
      rcases hb b hbb with h1 | h1
      · exact h.apart q hqH _ hcm hoq ho hqc b hqb h1
      · have := Ch.own_lt (h.sat q hqH) hoq hqb
        omega
    intro p hp q hq hop hoq hne b hbp
    rcases List.mem_cons.1 hp with rfl | hp <;> rcases List.mem_cons.1 hq with rfl | hq
    · exact absurd rfl hne
    · rw [upd_same] at hbp
      exact key q hq hoq b hbp
    · intro hbq
      rw [upd_same] at hbq
      exact key p hp hop b hbq hbp
    · obtain ⟨hpH, _⟩ := hdelm p hp
      obtain ⟨hqH, _⟩ := hdelm q hq
      rw [hρ p hpH] at hbp; rw [hρ q hqH]
      exact h.apart p hpH q hqH hop hoq hne b hbp
  · intro b hb'
    rcases hmine b hb' with h1 | h1
    · exact h.mine b h1
    · exact .inl (Nat.le_trans h.frame.size h1)

theorem efAppend_sound {o : Oper} {d : Nat} {t : TypeId} {x y : Operand} {sx sy : SV} {vc : Prop} {s : SV} {H' : Hp} (h : Holds A ρ w H) (hE : EnvOk N ρ E a)
    (ho : o.op = .call { callee := .builtin .append, args := #[x, y], argTypes := #[t, t] })
    (hx : opv E x = some sx) (hy : opv E y = some sy) (he : efAppend C E H d t sx sy = some (vc, s, H')) (hvc : vc) :
    ∃ ρ' w', (execOp a.eval o).run C.P w = .ok (.value (s.den ρ')) w' ∧ Holds A ρ' w' H' ∧ EnvOk N ρ' E a ∧ Keep E H ρ ρ' := by
  have hrun : ∀ v' w', (Builtin.append_ #[t, t] o.type #[sx.den ρ, sy.den ρ]).run C.P w = .ok v' w' → (execOp a.eval o).run C.P w = .ok (.value v') w' := by
    intro v' w' hr
    simp [execOp, ho, resolve, invoke, builtin, opv_den hE hx, opv_den hE hy, hr]
  unfold efAppend at he
  split at he
  case h_2 => simp at he
  rename_i ti ht
  split at he
  case h_2 => simp at he
  rename_i te hte
  obtain ⟨i, z, hi, hzz, hzc, his, hib⟩ := run_zero_of hte
  split at he
  · rename_i c
    split at he
    case h_2 => simp at he
    rename_i τ e xs hc
    simp only [Option.map_eq_some_iff, Prod.mk.injEq] at he
    obtain ⟨ys, hys, rfl, rfl, rfl⟩ := he
    obtain ⟨hf, hk, rfl, hsz, hpos, hz, h63, hb⟩ := hvc
    have hu := under_slice ht hk
    obtain ⟨B, cap, hv, _, hnil, hcc⟩ := slRead_sound h.satH hys
    have hown := h.sat _ (hk_mem hc)
    change w.ownsRow 0 ti.elem τ.sz (ρ c) xs.length (xs.flatMap τ.cells) at hown
    have hzs : z.cells.size = τ.sz := by rw [← Array.length_toList, hzc, hz, τ.len]
    cases B with
    | none =>
      obtain ⟨h0, rfl⟩ := hnil rfl
      have hy0 : ys = [] := List.eq_nil_of_length_eq_zero h0
      subst hy0
      have hr := run_append_owned_none (P := C.P) w 0 t o.type ti.elem i τ.sz hu hi (ρ c) xs.length _ hown
      obtain ⟨h1, h2⟩ := h.regrow hE hf hc rfl (Agree.refl _ w) (ρ c) (.row τ ti.elem (xs ++ [])) (fun M ρ' => by
        show w.ownsRow 0 ti.elem τ.sz _ (xs ++ []).length ((xs ++ []).flatMap τ.cells)
        rw [List.append_nil]; exact hown) (fun g hg => .inl hg)
      refine ⟨_, _, hrun _ _ ?_, h1, h2, keep_upd hf _⟩
      simp only [SV.den, At.den] at hv ⊢
      rw [upd_same]
      simp only [List.length_nil] at hv
      rw [hv]
      exact hr
    | some ad =>
      have hnews : ∀ j u, (ys.flatMap τ.cells)[j]? = some u → w.cell? (ad.add j) = some u := by
        intro j u hu'
        have hlen := (List.getElem?_eq_some_iff.1 hu').1
        rw [flatMap_length] at hlen
        have hp : 0 < ys.length := by
          rcases Nat.eq_zero_or_pos ys.length with h0 | h0
          · rw [h0] at hlen; omega
          · exact h0
        obtain ⟨b, off, hA, hcell⟩ := hcc hp
        simp only [Option.some.injEq] at hA
        subst hA
        rw [addr_add]
        exact hcell j u hu'
      obtain ⟨v', w', hr, hown', hg, hblk⟩ := run_append_mine (P := C.P) (w := w) t o.type ti.elem i z τ.sz te.bytes hu hi hzz (by rw [his, hsz]) hib hzs hpos (ρ c) xs.length _ hown ad ys.length cap (ys.flatMap τ.cells)
        (flatMap_length τ ys) hnews (fun u hu' => by
          obtain ⟨y, _, hy'⟩ := List.mem_flatMap.1 hu'
          exact τ.one y u hy') (by simp only [maxLen]; omega) hb
      have hbk := ownBlock_blk hown
      have hbk' := ownBlock_blk hown'
      obtain ⟨h1, h2⟩ := h.regrow hE hf hc rfl (agree_of_grown hg (fun k hk' => by rw [← hbk]; exact hk')) v' (.row τ ti.elem (xs ++ ys)) (fun M ρ' => by
        show w'.ownsRow 0 ti.elem τ.sz _ (xs ++ ys).length ((xs ++ ys).flatMap τ.cells)
        rw [List.length_append, List.flatMap_append]; exact hown') (fun g hg' => by rw [← hbk]; exact hblk g (by rw [hbk']; exact hg'))
      refine ⟨_, _, hrun _ _ ?_, h1, h2, keep_upd hf _⟩
      simp only [SV.den, At.den] at hv ⊢
      rw [upd_same, hv]
      exact hr
  · split at he
    case h_2 => simp at he
    rename_i τ hτ
    simp only [Option.map_eq_some_iff, Prod.mk.injEq] at he
    obtain ⟨ys, hys, rfl, rfl, rfl⟩ := he
    obtain ⟨hf, hk, hsz, hpos, hz, h63, hb⟩ := hvc
    have hu := under_slice ht hk
    obtain ⟨B, cap, hv, _, hnil, hcc⟩ := slRead_sound h.satH hys
    have hzs : z.cells.size = τ.sz := by rw [← Array.length_toList, hzc, hz, τ.len]
    have hown0 := World.ownsRow_nil w 0 ti.elem τ.sz
    cases B with
    | none =>
      obtain ⟨h0, rfl⟩ := hnil rfl
      have hy0 : ys = [] := List.eq_nil_of_length_eq_zero h0
      subst hy0
      have hr := run_append_owned_none (P := C.P) w 0 t o.type ti.elem i τ.sz hu hi (.slice none 0 0) 0 _ hown0
      obtain ⟨h1, h2⟩ := h.newRow hE hf (Agree.refl _ w) (.slice none 0 0) τ ti.elem [] (World.ownsRow_nil w _ _ _)
      refine ⟨_, _, hrun _ _ ?_, h1, h2, keep_upd hf _⟩
      simp only [SV.den, At.den] at hv ⊢
      rw [upd_same]
      simp only [List.length_nil] at hv
      rw [hv]
      exact hr
    | some ad =>
      have hnews : ∀ j u, (ys.flatMap τ.cells)[j]? = some u → w.cell? (ad.add j) = some u := by
        intro j u hu'
        have hlen := (List.getElem?_eq_some_iff.1 hu').1
        rw [flatMap_length] at hlen
        have hp : 0 < ys.length := by
          rcases Nat.eq_zero_or_pos ys.length with h0 | h0
          · rw [h0] at hlen; omega
          · exact h0
        obtain ⟨b, off, hA, hcell⟩ := hcc hp
        simp only [Option.some.injEq] at hA
        subst hA
        rw [addr_add]
        exact hcell j u hu'
      obtain ⟨v', w', hr, hown', hg, hblk⟩ := run_append_mine (P := C.P) (w := w) t o.type ti.elem i z τ.sz te.bytes hu hi hzz (by rw [his, hsz]) hib hzs hpos (.slice none 0 0) 0 _ hown0 ad ys.length cap (ys.flatMap τ.cells)
        (flatMap_length τ ys) hnews (fun u hu' => by
          obtain ⟨y, _, hy'⟩ := List.mem_flatMap.1 hu'
          exact τ.one y u hy') (by simp only [maxLen]; omega) (by rw [Nat.zero_add]; exact hb)
      rw [Nat.zero_add, List.nil_append] at hown'
      have hown2 : w'.ownsRow w.heap.size ti.elem τ.sz v' ys.length (ys.flatMap τ.cells) := by
        refine ⟨hown'.1, ?_⟩
        rcases hown'.2 with hn | ⟨g, cap', cur, hv', _, r⟩
        · exact .inl hn
        · refine .inr ⟨g, cap', cur, hv', ?_, r⟩
          rcases hblk g (by rw [hv']; rfl) with h1 | h1
          · simp [Value.ownBlock] at h1
          · exact h1
      obtain ⟨h1, h2⟩ := h.newRow hE hf (agree_of_grown hg (fun k hk' => by simp [Value.ownBlock] at hk')) v' τ ti.elem ys hown2
      refine ⟨_, _, hrun _ _ ?_, h1, h2, keep_upd hf _⟩
      simp only [SV.den, At.den] at hv ⊢
      rw [upd_same, hv]
      exact hr
  · simp at he

end
end Go.Proofs.Ytgbmhfbfcbjccaa
