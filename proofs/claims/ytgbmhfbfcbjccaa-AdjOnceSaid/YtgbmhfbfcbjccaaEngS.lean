/- The engine's slices of slices. Conditions: none; plain definitions and theorems. -/
import Derived.Test.YtgbmhfbfcbjccaaEngG
namespace Go.Proofs.Ytgbmhfbfcbjccaa
set_option linter.unusedSimpArgs false
set_option linter.unusedVariables false
open Go.RowKit

/-- A bound that is written, or else another one. -/
def bndV (E : Env) (dflt : Int) : Option Operand → Option Int
  | none => some dflt
  | some x => match opv E x with
    | some (.a (.v (.int _ i))) => some i
    | _ => none
def efSlice (C : Cfg) (E : Env) (H : Hp) (d : Nat) (t : TypeId) (x : Operand) (lo hi mx : Option Operand) : Option (Prop × SV × Hp) :=
  match opv E x, tiOf C.P t with
  | some (.a (.ref c)), some ti =>
    match hk H c with
    | some (.rd g τ xs) =>
      match bndV E 0 lo, bndV E (xs.length : Int) hi, bndV E (xs.length : Int) mx with
      | some l, some h, some m =>
        if mx.isSome = true ∧ hi.isNone = true then none else
        some (frsh (cid d) E H ∧ ti.knd = 3 ∧ szOf C.P ti.elem = τ.sz ∧ 0 ≤ l ∧ l ≤ h ∧ h ≤ m ∧ m ≤ (xs.length : Int), .a (.ref (cid d)), (cid d, .rd g τ ((xs.take h.toNat).drop l.toNat)) :: H)
      | _, _, _ => none
    | some (.row τ e xs) =>
      match lo, mx, bndV E (xs.length : Int) hi with
      | none, none, some h => some (frsh (cid d) E H ∧ ti.knd = 3 ∧ szOf C.P ti.elem = τ.sz ∧ 0 ≤ h ∧ h ≤ (xs.length : Int), .a (.ref (cid d)), (cid d, .row τ e (xs.take h.toNat)) :: hdel H c)
      | _, _, _ => none
    | _ => none
  | _, _ => none

theorem take_flat (τ : FTy) (xs : List τ.D) (n : Nat) : (xs.take n).flatMap τ.cells = (xs.flatMap τ.cells).take (n * τ.sz) := by
  induction xs generalizing n with
  | nil => simp
  | cons x xs ih =>
    cases n with
    | zero => simp
    | succ n =>
      simp only [List.take_succ_cons, List.flatMap_cons, ih]
      rw [List.take_append, List.take_of_length_le (l := τ.cells x) (by rw [τ.len, Nat.succ_mul]; omega), τ.len]
      congr 2
      rw [Nat.succ_mul]; omega
theorem drop_flat (τ : FTy) (xs : List τ.D) (n : Nat) : (xs.drop n).flatMap τ.cells = (xs.flatMap τ.cells).drop (n * τ.sz) := by
  induction xs generalizing n with
  | nil => simp
  | cons x xs ih =>
    cases n with
    | zero => simp
    | succ n =>
      simp only [List.drop_succ_cons, List.flatMap_cons, ih]
      rw [List.drop_append, List.drop_eq_nil_of_le (as := τ.cells x) (by rw [τ.len, Nat.succ_mul]; omega), List.nil_append, τ.len]
      congr 1
      rw [Nat.succ_mul]; omega

/-- A part of a slice that is read. -/
theorem rdSl_part {τ : FTy} {w : World} {A : Option Addr} {n cap : Nat} {xs : List τ.D} (hr : RdSl τ w (.slice A n cap) xs) {l h m : Nat} (h1 : l ≤ h) (h2 : h ≤ m) (h3 : m ≤ cap) (h4 : h ≤ xs.length) :
    RdSl τ w (.slice (if m = l then A else A.map (·.add (l * τ.sz))) (h - l) (m - l)) ((xs.take h).drop l) := by
  obtain ⟨A', cap', hv, ⟨hm, hcap⟩, hn, hc⟩ := hr
  simp only [Value.slice.injEq] at hv
  obtain ⟨rfl, rfl, rfl⟩ := hv
  have hlen : ((xs.take h).drop l).length = h - l := by simp; omega
  refine ⟨_, m - l, by rw [hlen], ⟨by omega, by omega⟩, fun e => ?_, fun hp => ?_⟩
  · have hA : A = none := by
      split at e
      · exact e
      · cases A with
        | none => rfl
        | some a => simp at e
    obtain ⟨h0, hc0⟩ := hn hA
    omega
  · obtain ⟨b, off, hA, hcell⟩ := hc (by omega)
    subst hA
    refine ⟨b, off + l * τ.sz, ?_, fun j u hu => ?_⟩
    · rw [if_neg (by omega), Option.map_some, addr_add]
    · rw [drop_flat, take_flat, List.getElem?_drop] at hu
      rw [List.getElem?_take] at hu
      split at hu
      · rw [Nat.add_assoc]; exact hcell _ u hu
      · cases hu

section
variable {A : Amb} {ρ : Vl} {w : World} {H : Hp} {E : Env} {N : Fm} {a : Act} {C : Cfg}
theorem info_of {P : Program} {t : TypeId} {τ : FTy} (h : szOf P t = τ.sz) : ∃ i, P.info? t = some i := by
  unfold szOf at h
  cases hi : P.info? t with
  | none => rw [hi] at h; cases τ <;> simp [FTy.sz] at h
  | some i => exact ⟨i, rfl⟩
theorem bndV_some (hE : EnvOk N ρ E a) {d i : Int} {x : Operand} (h : bndV E d (some x) = some i) : ∃ k, a.eval x = .int k i := by
  simp only [bndV] at h
  cases hx : opv E x with
  | none => rw [hx] at h; simp at h
  | some s =>
    rw [hx] at h
    cases s with
    | a y =>
      cases y with
      | v z =>
        cases z with
        | int k j =>
          simp only [Option.some.injEq] at h
          subst h
          have := opv_den hE hx
          exact ⟨k, by simpa [SV.den, At.den] using this⟩
        | _ => simp at h
      | _ => simp at h
    | _ => simp at h

theorem run_bounds {P : Program} (hE : EnvOk N ρ E a) {len cap : Nat} {lo hi mx : Option Operand} {l h m : Int} (n : Nat) (hlen : n = len) (hcap : len ≤ cap) (h1 : bndV E 0 lo = some l) (h2 : bndV E (n : Int) hi = some h) (h3 : bndV E (n : Int) mx = some m)
    (hmh : ¬ (mx.isSome = true ∧ hi.isNone = true)) (g1 : 0 ≤ l) (g2 : l ≤ h) (g3 : h ≤ m) (g4 : m ≤ n) :
    ∃ m' : Nat, h.toNat ≤ m' ∧ m' ≤ cap ∧ (Instr.sliceBounds true len cap (lo.map a.eval) (hi.map a.eval) (mx.map a.eval)).run P w = .ok (l.toNat, h.toNat, m') w := by
  subst hlen
  cases mx with
  | none =>
    refine ⟨cap, by omega, Nat.le_refl _, ?_⟩
    cases hi with
    | none =>
      simp only [bndV, Option.some.injEq] at h2
      cases lo with
      | none =>
        simp only [bndV, Option.some.injEq] at h1
        simp [Instr.sliceBounds, ← h1, ← h2]
      | some x =>
        obtain ⟨k, hx⟩ := bndV_some hE h1
        simp [Instr.sliceBounds, hx, run_sliceBound w k l n _ g1 (by omega), ← h2]
    | some y =>
      obtain ⟨ky, hy⟩ := bndV_some hE h2
      cases lo with
      | none =>
        simp only [bndV, Option.some.injEq] at h1
        simp [Instr.sliceBounds, hy, run_sliceBound w ky h cap _ (by omega) (by omega), ← h1]
      | some x =>
        obtain ⟨k, hx⟩ := bndV_some hE h1
        simp [Instr.sliceBounds, hx, hy, run_sliceBound w ky h cap _ (by omega) (by omega), run_sliceBound w k l h.toNat _ g1 (by omega)]
  | some z =>
    obtain ⟨kz, hz⟩ := bndV_some hE h3
    cases hi with
    | none => exact absurd ⟨rfl, rfl⟩ hmh
    | some y =>
      obtain ⟨ky, hy⟩ := bndV_some hE h2
      refine ⟨m.toNat, by omega, by omega, ?_⟩
      cases lo with
      | none =>
        simp only [bndV, Option.some.injEq] at h1
        simp [Instr.sliceBounds, hy, hz, run_sliceBound w kz m cap _ (by omega) (by omega), run_sliceBound w ky h m.toNat _ (by omega) (by omega), ← h1]
      | some x =>
        obtain ⟨k, hx⟩ := bndV_some hE h1
        simp [Instr.sliceBounds, hx, hy, hz, run_sliceBound w kz m cap _ (by omega) (by omega), run_sliceBound w ky h m.toNat _ (by omega) (by omega), run_sliceBound w k l h.toNat _ g1 (by omega)]

theorem bounds_none {P : Program} {len cap l h m' : Nat} {hi : Option Value} (hb : (Instr.sliceBounds true len cap none hi none).run P w = .ok (l, h, m') w) : m' = cap := by
  cases hi with
  | none =>
    simp [Instr.sliceBounds] at hb
    exact hb.2.2.symm
  | some v =>
    simp [Instr.sliceBounds] at hb
    generalize (Instr.sliceBound v cap BoundsCode.sliceAcap).run P w = r at hb
    cases r with
    | ok a w1 => simp at hb; exact hb.1.2.2.symm
    | halt x w1 => simp at hb
theorem efSlice_sound {o : Oper} {d : Nat} {t : TypeId} {x : Operand} {lo hi mx : Option Operand} {vc : Prop} {s : SV} {H' : Hp} (h : Holds A ρ w H) (hE : EnvOk N ρ E a)
    (ho : o.op = .slice t x lo hi mx) (he : efSlice C E H d t x lo hi mx = some (vc, s, H')) (hvc : vc) :
    ∃ ρ' w', (execOp a.eval o).run C.P w = .ok (.value (s.den ρ')) w' ∧ Holds A ρ' w' H' ∧ EnvOk N ρ' E a ∧ Keep E H ρ ρ' := by
  unfold efSlice at he
  split at he
  case h_2 => simp at he
  rename_i c ti hx ht
  have hxe := opv_den hE hx
  simp only [SV.den, At.den] at hxe
  obtain ⟨i, z, hi1, hi2, hi3, hi4, hi5⟩ := run_zero_of ht
  split at he
  · rename_i g τ xs hc
    split at he
    case h_2 => simp at he
    rename_i l hh m hl hhh hm
    split at he
    case isTrue => simp at he
    rename_i hmh
    simp only [Option.some.injEq, Prod.mk.injEq] at he
    obtain ⟨rfl, rfl, rfl⟩ := he
    obtain ⟨hf, hk, hsz, g1, g2, g3, g4⟩ := hvc
    have hu := under_slice ht hk
    have hsat := h.sat _ (hk_mem hc)
    obtain ⟨B, cap, hv, ⟨hn1, hn2⟩, _⟩ := Pers.now hsat
    obtain ⟨m', b1, b2, hb⟩ := run_bounds (P := C.P) (w := w) hE xs.length rfl hn2 hl hhh hm hmh g1 g2 g3 g4
    obtain ⟨v', hv'⟩ : ∃ v', v' = Value.slice (if m' = l.toNat then B else B.map (·.add (l.toNat * τ.sz))) (hh.toNat - l.toNat) (m' - l.toNat) := ⟨_, rfl⟩
    have hfr := freshH_spec hf.2
    have hnew := h.new (Agree.refl _ w) hf.2 (cid_ge d) v' (.rd g τ ((xs.take hh.toNat).drop l.toNat)) (fun ho => by simp [Ch.own] at ho) (by
      show Pers _ w _
      refine Pers.imp (Pers.mono hsat (Agree.refl _ w) fun b hb => .inl ?_) fun w' hr => ?_
      · rcases hb with hb | ⟨p, hp, hpo, hpb⟩
        · exact .inl hb
        · rcases List.mem_cons.1 hp with rfl | hp
          · simp [Ch.own] at hpo
          · rw [upd_ne ρ v' (hfr p hp).1] at hpb
            exact .inr ⟨p, hp, hpo, hpb⟩
      · rw [hv] at hr
        rw [hv']
        exact rdSl_part hr (by omega) b1 b2 (by omega))
    refine ⟨_, w, ?_, hnew, hE.fresh hf.1 _, keep_upd hf _⟩
    simp only [SV.den, At.den, upd_same]
    rw [hv] at hxe
    obtain ⟨ie, hie⟩ := info_of hsz
    have hcell : C.P.cellsOf ti.elem = τ.sz := hsz
    simp [execOp, ho, Instr.sliceAt, Instr.slice, hxe, run_underlying hu, hb, hv', run_sizeOf w hie, hcell]
  · rename_i τ e xs hc
    split at he
    case h_2 => simp at he
    rename_i hh hhh
    simp only [Option.some.injEq, Prod.mk.injEq] at he
    obtain ⟨rfl, rfl, rfl⟩ := he
    obtain ⟨hf, hk, hsz, g1, g2⟩ := hvc
    have hu := under_slice ht hk
    have hown := h.sat _ (hk_mem hc)
    change w.ownsRow 0 e τ.sz (ρ c) xs.length (xs.flatMap τ.cells) at hown
    rcases hown.2 with ⟨hv, h0⟩ | ⟨gb, cap, cur, hv, hb0, hgb, hnc, hcm, hcs, htake⟩
    · obtain ⟨m', b1, b2, hb⟩ := run_bounds (P := C.P) (w := w) (lo := none) (mx := none) (len := 0) (cap := 0) hE xs.length h0 (Nat.le_refl _) rfl hhh rfl (by simp) (Int.le_refl _) g1 g2 (by omega)
      have hh0 : hh.toNat = 0 := by omega
      have hxs : xs.take hh.toNat = [] := by rw [hh0]; rfl
      obtain ⟨h1, h2⟩ := h.regrow hE hf hc rfl (Agree.refl _ w) (.slice none 0 0) (.row τ e (xs.take hh.toNat)) (fun M ρ' => by
        rw [hxs]; exact World.ownsRow_nil w 0 _ _) (fun g hg => by simp [blk] at hg)
      refine ⟨_, w, ?_, h1, h2, keep_upd hf _⟩
      simp only [SV.den, At.den, upd_same]
      rw [hv] at hxe
      obtain ⟨ie, hie⟩ := info_of hsz
      have hm0 : m' = 0 := by omega
      subst hm0
      rw [hh0] at hb
      simp only [Option.map_none] at hb
      simp [execOp, ho, Instr.sliceAt, Instr.slice, hxe, run_underlying hu, hb, run_sizeOf w hie]
    · obtain ⟨m', b1, b2, hb⟩ := run_bounds (P := C.P) (w := w) (lo := none) (mx := none) (len := xs.length) (cap := cap) hE xs.length rfl hnc rfl hhh rfl (by simp) (Int.le_refl _) g1 g2 (Int.le_refl _)
      have hm' : m' = cap := by
        have := bounds_none (P := C.P) (w := w) hb
        exact this
      subst hm'
      obtain ⟨h1, h2⟩ := h.regrow hE hf hc rfl (Agree.refl _ w) (.slice (some ⟨gb, 0, none⟩) hh.toNat m') (.row τ e (xs.take hh.toNat)) (fun M ρ' => by
        show w.ownsRow 0 e τ.sz _ (xs.take hh.toNat).length ((xs.take hh.toNat).flatMap τ.cells)
        have hlen : (xs.take hh.toNat).length = hh.toNat := by rw [List.length_take]; omega
        rw [hlen, take_flat]
        refine ⟨by rw [List.length_take, flatMap_length]; exact Nat.min_eq_left (Nat.mul_le_mul_right _ (by omega)), .inr ⟨gb, m', cur, rfl, hb0, hgb, by omega, hcm, hcs, ?_⟩⟩
        rw [← htake, List.take_take, Nat.min_eq_left (Nat.mul_le_mul_right _ (by omega))]) (fun g hg => by
        left; rw [hv]; exact hg)
      refine ⟨_, w, ?_, h1, h2, keep_upd hf _⟩
      simp only [SV.den, At.den, upd_same]
      rw [hv] at hxe
      obtain ⟨ie, hie⟩ := info_of hsz
      have hcell : C.P.cellsOf ti.elem = τ.sz := hsz
      simp only [Option.map_none] at hb
      simp [execOp, ho, Instr.sliceAt, Instr.slice, hxe, run_underlying hu, hb, run_sizeOf w hie, hcell, addr_add]
  · simp at he
end
end Go.Proofs.Ytgbmhfbfcbjccaa
