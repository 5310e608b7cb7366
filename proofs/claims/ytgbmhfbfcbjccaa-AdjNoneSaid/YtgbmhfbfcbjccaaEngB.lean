/- The engine's operations that only compute or read: what each yields, and that it does. Conditions: none; plain definitions and theorems. -/
import Derived.Test.YtgbmhfbfcbjccaaEngA
namespace Go.Proofs.Ytgbmhfbfcbjccaa
set_option linter.unusedSimpArgs false
set_option linter.unusedVariables false
open Go.RowKit

/-! ### What the program's tables say of a type -/
structure TI where
  sz : Nat
  bytes : Nat
  zero : List Value
  agg : Bool
  offs : List (Nat × Nat × Nat)
  elem : Nat
  alen : Nat
  knd : Nat
  ik : IntKind

def aggD : TypeDesc → Bool
  | .struct _ | .array _ _ => true
  | _ => false
def kndD : TypeDesc → Nat
  | .int _ => 1
  | .bool => 2
  | .slice _ => 3
  | .pointer _ => 4
  | .struct _ => 5
  | .array _ _ => 6
  | .string => 7
  | .func _ _ _ => 8
  | _ => 9
def ikD : TypeDesc → IntKind
  | .int k => k
  | _ => .i64
def elemD : TypeDesc → Nat
  | .slice e | .pointer e | .array _ e => e
  | _ => 0
def alenD : TypeDesc → Nat
  | .array n _ => n
  | _ => 0
def aggOf (P : Program) (t : Nat) : Bool := ((P.underlying t).map aggD).getD false
def szOf (P : Program) (t : Nat) : Nat := ((P.info? t).map (·.size)).getD 0
def kndOf (P : Program) (t : Nat) : Nat := ((P.underlying t).map kndD).getD 0
def offsD (P : Program) : TypeDesc → List (Nat × Nat × Nat)
  | .struct fs => fs.toList.map fun f => (f.offset, szOf P f.type, kndOf P f.type)
  | _ => []
def tiOf (P : Program) (t : Nat) : Option TI :=
  match P.info? t, P.underlying t with
  | some i, some d =>
    match i.zero with
    | some z => some ⟨i.size, i.bytes, z.cells.toList, aggD d, offsD P d, elemD d, alenD d, kndD d, ikD d⟩
    | none => none
  | _, _ => none

theorem tiOf_some {P : Program} {t : Nat} {ti : TI} (h : tiOf P t = some ti) :
    ∃ i d z, P.info? t = some i ∧ P.underlying t = some d ∧ i.zero = some z ∧ ti = ⟨i.size, i.bytes, z.cells.toList, aggD d, offsD P d, elemD d, alenD d, kndD d, ikD d⟩ := by
  unfold tiOf at h
  split at h
  · rename_i i d hi hd
    split at h
    · rename_i z hz
      simp only [Option.some.injEq] at h
      exact ⟨i, d, z, hi, hd, hz, h.symm⟩
    · simp at h
  · simp at h

section
variable {P : Program} (w : World)
theorem run_sizeOf_ti {t : Nat} {ti : TI} (h : tiOf P t = some ti) : (sizeOf t).run P w = .ok ti.sz w := by
  obtain ⟨i, d, z, hi, hd, hz, rfl⟩ := tiOf_some h
  simp [sizeOf, typeInfo, hi]
theorem run_isAgg_ti {t : Nat} {ti : TI} (h : tiOf P t = some ti) : (isAgg t).run P w = .ok ti.agg w := by
  obtain ⟨i, d, z, hi, hd, hz, rfl⟩ := tiOf_some h
  unfold isAgg
  rw [Sem.run_bind, run_underlying hd w]
  cases d <;> rfl
theorem run_zero_ti {t : Nat} {ti : TI} (h : tiOf P t = some ti) : ∃ z, (zeroValue t).run P w = .ok z w ∧ z.cells.toList = ti.zero := by
  obtain ⟨i, d, z, hi, hd, hz, rfl⟩ := tiOf_some h
  exact ⟨z, by simp [zeroValue, typeInfo, hi, hz], rfl⟩

theorem addr_add (b o n : Nat) : (⟨b, o, none⟩ : Addr).add n = ⟨b, o + n, none⟩ := by
  unfold Addr.add; split <;> simp_all

/-- A variable is read, cell by cell. -/
theorem run_loadVar_agg {t : Nat} {ti : TI} (h : tiOf P t = some ti) (hg : ti.agg = true) (b o : Nat) (cs : List Value) (hl : cs.length = ti.sz)
    (hc : ∀ j u, cs[j]? = some u → w.cell? ⟨b, o + j, none⟩ = some u) : (loadVar t ⟨b, o, none⟩).run P w = .ok (.agg cs.toArray) w := by
  have h1 := run_loadCells_list (P := P) w ⟨b, o, none⟩ cs (fun j u hu => by rw [addr_add]; exact hc j u hu)
  simp only [loadVar, Sem.run_bind, run_isAgg_ti w h, Result.andThen_ok, hg, if_true, run_sizeOf_ti w h, ← hl, h1, Sem.run_pure]
theorem run_loadVar_one {t : Nat} {ti : TI} (h : tiOf P t = some ti) (hg : ti.agg = false) (a : Addr) (v : Value) (hc : w.cell? a = some v) : (loadVar t a).run P w = .ok v w := by
  simp only [loadVar, Sem.run_bind, run_isAgg_ti w h, Result.andThen_ok, hg, Bool.false_eq_true, if_false, run_load, hc]
end

/-! ### Reading -/
/-- So many cells from one on. -/
def takeA : List At → Nat → Nat → Option (List At)
  | _, 0, 0 => some []
  | x :: l, 0, n + 1 => (takeA l 0 n).map (x :: ·)
  | _ :: l, o + 1, n => takeA l o n
  | [], _, _ => none
def nthA : List At → Nat → Option At
  | x :: _, 0 => some x
  | _ :: l, o + 1 => nthA l o
  | [], _ => none
theorem nthA_eq (l : List At) (o : Nat) : nthA l o = l[o]? := by
  induction l generalizing o with
  | nil => cases o <;> simp [nthA]
  | cons x l ih => cases o <;> simp [nthA, ih]
theorem takeA_some {l r : List At} {o n : Nat} (h : takeA l o n = some r) : r.length = n ∧ ∀ j u, r[j]? = some u → l[o + j]? = some u := by
  induction l generalizing o n r with
  | nil =>
    cases o <;> cases n <;> simp [takeA] at h
    subst h; simp
  | cons x l ih =>
    cases o with
    | zero =>
      cases n with
      | zero => simp [takeA] at h; subst h; simp
      | succ n =>
        simp only [takeA, Option.map_eq_some_iff] at h
        obtain ⟨r', hr, rfl⟩ := h
        obtain ⟨h1, h2⟩ := ih hr
        refine ⟨by simp [h1], fun j u hu => ?_⟩
        cases j with
        | zero => simpa using hu
        | succ j =>
          have := h2 j u (by simpa using hu)
          simp only [Nat.zero_add] at this ⊢
          simpa using this
    | succ o =>
      simp only [takeA] at h
      obtain ⟨h1, h2⟩ := ih h
      refine ⟨h1, fun j u hu => ?_⟩
      have := h2 j u hu
      rw [show o + 1 + j = (o + j) + 1 from by omega]
      simpa using this

def elemLoad (τ : FTy) (xs : List τ.D) (k sz o : Nat) (ti : TI) : Option (Prop × SV) :=
  if sz = τ.sz ∧ o + ti.sz ≤ τ.sz then
    some (k < xs.length, if ti.agg = true then .g ((((τ.cells (xs.getD k τ.dflt)).drop o).take ti.sz).map At.v) else .a (.v ((τ.cells (xs.getD k τ.dflt)).getD o (.bool false))))
  else none
def boxLoad (l : List At) (o : Nat) (ti : TI) : Option (Prop × SV) :=
  if ti.agg = true then (takeA l o ti.sz).map fun r => (True, .g r) else (nthA l o).map fun x => (True, .a x)
def opLoad (H : Hp) (ti : TI) : At → Option (Prop × SV)
  | .ptr c o =>
    match hk H c with
    | some (.box l _) => boxLoad l o ti
    | some (.rbox _ l) => boxLoad l o ti
    | _ => none
  | .elem c k sz o =>
    match hk H c with
    | some (.row τ _ xs) => if 0 < ti.sz then elemLoad τ xs k sz o ti else none
    | some (.rd _ τ xs) => if 0 < ti.sz then elemLoad τ xs k sz o ti else none
    | _ => none
  | _ => none

/-- Every chunk is as it says. -/
def SatH (ρ : Vl) (w : World) (H : Hp) : Prop := ∃ M, ∀ p ∈ H, p.2.sat M ρ w (ρ p.1)
theorem Holds.satH {A : Amb} {ρ : Vl} {w : World} {H : Hp} (h : Holds A ρ w H) : SatH ρ w H := ⟨_, h.sat⟩

theorem flatMap_get {α β : Type} (f : α → List β) (n : Nat) (hf : ∀ a, (f a).length = n) : ∀ (l : List α) (k : Nat) (hk : k < l.length) (j : Nat), j < n → (l.flatMap f)[k * n + j]? = (f l[k])[j]? := by
  intro l
  induction l with
  | nil => intro k hk; simp at hk
  | cons x l ih =>
    intro k hk j hj
    cases k with
    | zero =>
      simp only [List.flatMap_cons, Nat.zero_mul, Nat.zero_add, List.getElem_cons_zero]
      rw [List.getElem?_append_left (by rw [hf]; exact hj)]
    | succ k =>
      simp only [List.flatMap_cons, List.getElem_cons_succ]
      rw [List.getElem?_append_right (by rw [hf, Nat.succ_mul]; omega), hf]
      rw [show (k + 1) * n + j - n = k * n + j from by rw [Nat.succ_mul]; omega]
      exact ih k (by simpa using hk) j hj

/-- The cells of a slice, own or read. -/
theorem sl_flat {M : Bool → Nat → Prop} {ρ : Vl} {w : World} {v : Value} {ch : Ch} (h : ch.sat M ρ w v) {τ : FTy} {xs : List τ.D} (hch : (∃ e, ch = .row τ e xs) ∨ ∃ g, ch = .rd g τ xs) : RdSl τ w v xs := by
  rcases hch with ⟨e, rfl⟩ | ⟨g, rfl⟩
  · obtain ⟨h1, h2⟩ := h
    rcases h2 with ⟨rfl, h0⟩ | ⟨g, cap, cur, rfl, _, hg, hnc, hcm, hcs, htake⟩
    · exact ⟨none, 0, by rw [h0], ⟨by omega, by omega⟩, fun _ => ⟨h0, rfl⟩, fun hp => by omega⟩
    · refine ⟨_, cap, rfl, ⟨by simp only [maxLen] at hcm; omega, hnc⟩, fun e => by simp at e, fun _ => ⟨g, 0, rfl, fun j u hu => ?_⟩⟩
      rw [Nat.zero_add, cell_of_row w g _ cur e (0, 0) hg]
      rw [← htake, List.getElem?_take] at hu
      split at hu
      · simpa using hu
      · simp at hu
  · exact Pers.now h
/-- The cells of a slice's element, own or read. -/
theorem sl_cells {M : Bool → Nat → Prop} {ρ : Vl} {w : World} {v : Value} {ch : Ch} (h : ch.sat M ρ w v) {τ : FTy} {xs : List τ.D} (hch : (∃ e, ch = .row τ e xs) ∨ ∃ g, ch = .rd g τ xs) :
    ∃ A cap, v = .slice A xs.length cap ∧ xs.length ≤ 9223372036854775807 ∧
    (0 < xs.length → ∃ b off, A = some ⟨b, off, none⟩ ∧ ∀ k (h : k < xs.length) j u, (τ.cells xs[k])[j]? = some u → w.cell? ⟨b, off + (k * τ.sz + j), none⟩ = some u) := by
  obtain ⟨A, cap, hv, hm, _, hc⟩ := sl_flat h hch
  refine ⟨A, cap, hv, hm.1, fun hp => ?_⟩
  obtain ⟨b, off, hA, hc⟩ := hc hp
  refine ⟨b, off, hA, fun k hk j u hu => hc _ u ?_⟩
  have hj : j < τ.sz := by
    have := (List.getElem?_eq_some_iff.1 hu).1
    rwa [τ.len] at this
  rw [flatMap_get τ.cells τ.sz τ.len xs k hk j hj, hu]

theorem elemLoad_sound {P : Program} {M : Bool → Nat → Prop} {ρ : Vl} {w : World} {c k sz o : Nat} {ch : Ch} {τ : FTy} {xs : List τ.D} {t : Nat} {ti : TI} {vc : Prop} {s : SV}
    (h : ch.sat M ρ w (ρ c)) (hch : (∃ e, ch = .row τ e xs) ∨ ∃ g, ch = .rd g τ xs) (ht : tiOf P t = some ti) (h0 : 0 < ti.sz) (hl : elemLoad τ xs k sz o ti = some (vc, s)) (hvc : vc) :
    (Instr.loadAt t ((At.elem c k sz o).den ρ)).run P w = .ok (s.den ρ) w := by
  unfold elemLoad at hl
  split at hl
  · rename_i hh
    obtain ⟨rfl, hsz⟩ := hh
    simp only [Option.some.injEq, Prod.mk.injEq] at hl
    obtain ⟨rfl, rfl⟩ := hl
    obtain ⟨A, cap, hv, hm, hc⟩ := sl_cells h hch
    obtain ⟨b, off, rfl, hcc⟩ := hc (by omega)
    have hx : xs.getD k τ.dflt = xs[k] := by simp [List.getD, hvc]
    have hcell := hcc k hvc
    rw [hx]
    simp only [At.den, hv, shiftV_slice, Instr.loadAt, Instr.sureAddr, Sem.run_bind, Sem.run_pure, Result.andThen_ok]
    cases hg : ti.agg with
    | true =>
      simp only [if_true, SV.den]
      have hlen := τ.len xs[k]
      rw [run_loadVar_agg w ht hg b _ (((τ.cells xs[k]).drop o).take ti.sz) (by simp; omega) (fun j u hu => by
        have hj : j < ti.sz := by
          have := (List.getElem?_eq_some_iff.1 hu).1
          simp at this; omega
        rw [List.getElem?_take, if_pos hj, List.getElem?_drop] at hu
        have := hcell (o + j) u hu
        rw [show off + (k * τ.sz + o) + j = off + (k * τ.sz + (o + j)) from by omega]
        exact this)]
      simp [denL, Function.comp_def, At.den]
    | false =>
      simp only [Bool.false_eq_true, if_false, SV.den, At.den]
      have hlen := τ.len xs[k]
      have ho : o < (τ.cells xs[k]).length := by omega
      exact run_loadVar_one w ht hg _ _ (hcell o _ (by simp [List.getD, List.getElem?_eq_getElem ho]))
  · simp at hl

theorem boxLoad_sound {P : Program} {ρ : Vl} {w : World} {c o b o' : Nat} {l : List At} {t : Nat} {ti : TI} {vc : Prop} {s : SV}
    (hv : ρ c = .pointer (some ⟨b, o', none⟩)) (hc : ∀ j u, (denL ρ l)[j]? = some u → w.cell? ⟨b, o' + j, none⟩ = some u) (ht : tiOf P t = some ti) (hl : boxLoad l o ti = some (vc, s)) :
    (Instr.loadAt t ((At.ptr c o).den ρ)).run P w = .ok (s.den ρ) w := by
  unfold boxLoad at hl
  simp only [At.den, hv, shiftV_pointer, Instr.loadAt, Instr.sureAddr, Sem.run_bind, Sem.run_pure, Result.andThen_ok]
  split at hl
  · rename_i hg
    simp only [Option.map_eq_some_iff, Prod.mk.injEq] at hl
    obtain ⟨r, hr, _, rfl⟩ := hl
    obtain ⟨h1, h2⟩ := takeA_some hr
    rw [run_loadVar_agg w ht hg b _ (denL ρ r) (by simp [denL, h1]) (fun j u hu => by
      simp only [denL, List.getElem?_map, Option.map_eq_some_iff] at hu
      obtain ⟨x, hx, rfl⟩ := hu
      rw [Nat.add_assoc]
      exact hc (o + j) _ (by simp [denL, h2 j x hx]))]
    rfl
  · rename_i hg
    simp only [Option.map_eq_some_iff, Prod.mk.injEq] at hl
    obtain ⟨x, hx, _, rfl⟩ := hl
    rw [nthA_eq] at hx
    exact run_loadVar_one w ht (by simpa using hg) _ _ (hc o _ (by simp [denL, hx, SV.den]))

theorem box_cells {M : Bool → Nat → Prop} {ρ : Vl} {w : World} {v : Value} {l : List At} {ch : Ch} (h : ch.sat M ρ w v) (hch : (∃ ty, ch = .box l ty) ∨ ∃ g, ch = .rbox g l) :
    ∃ b o', v = .pointer (some ⟨b, o', none⟩) ∧ ∀ j u, (denL ρ l)[j]? = some u → w.cell? ⟨b, o' + j, none⟩ = some u := by
  rcases hch with ⟨ty, rfl⟩ | ⟨g, rfl⟩
  · obtain ⟨b, rfl, hh⟩ := h
    refine ⟨b, 0, rfl, fun j u hu => ?_⟩
    rw [Nat.zero_add, cell_of_row w b j _ ty (0, 0) hh]
    simpa using hu
  · obtain ⟨b, o, rfl, hp⟩ := h
    exact ⟨b, o, rfl, hp.now⟩

theorem opLoad_sound {P : Program} {ρ : Vl} {w : World} {H : Hp} {p : At} {t : Nat} {ti : TI} {vc : Prop} {s : SV}
    (hH : SatH ρ w H) (ht : tiOf P t = some ti) (hl : opLoad H ti p = some (vc, s)) (hvc : vc) : (Instr.loadAt t (p.den ρ)).run P w = .ok (s.den ρ) w := by
  obtain ⟨M, hM⟩ := hH
  cases p with
  | ptr c o =>
    simp only [opLoad] at hl
    split at hl
    · rename_i l ty hc
      obtain ⟨b, o', hv, hcs⟩ := box_cells (hM _ (hk_mem hc)) (.inl ⟨ty, rfl⟩)
      exact boxLoad_sound hv hcs ht hl
    · rename_i l hc
      obtain ⟨b, o', hv, hcs⟩ := box_cells (hM _ (hk_mem hc)) (.inr ⟨_, rfl⟩)
      exact boxLoad_sound hv hcs ht hl
    · simp at hl
  | elem c k sz o =>
    simp only [opLoad] at hl
    split at hl
    · rename_i τ e xs hc
      split at hl
      · rename_i h0
        exact elemLoad_sound (hM _ (hk_mem hc)) (.inl ⟨e, rfl⟩) ht h0 hl hvc
      · simp at hl
    · rename_i τ xs hc
      split at hl
      · rename_i h0
        exact elemLoad_sound (hM _ (hk_mem hc)) (.inr ⟨_, rfl⟩) ht h0 hl hvc
      · simp at hl
    · simp at hl
  | _ => simp [opLoad] at hl

end Go.Proofs.Ytgbmhfbfcbjccaa
