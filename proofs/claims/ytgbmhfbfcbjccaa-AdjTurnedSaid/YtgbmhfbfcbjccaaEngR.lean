/- The engine's ranges over a function: a loop whose body writes what is its caller's. Conditions: none; plain definitions and theorems. -/
import Derived.Test.YtgbmhfbfcbjccaaEngQ
namespace Go.Proofs.Ytgbmhfbfcbjccaa
set_option linter.unusedSimpArgs false
set_option linter.unusedVariables false
open Go.RowKit

/-! ### Blocks that are no cells -/
/-- One world and another one, but for a block that is no cells. -/
structure Turned (D : Nat) (w w' : World) : Prop where
  os : w'.os = w.os
  tape : w'.tape = w.tape
  output : w'.output = w.output
  size : w.heap.size ≤ w'.heap.size
  block : ∀ b, b < w.heap.size → b ≠ D → w'.heap[b]? = w.heap[b]?
  none : ∃ o : Obj, w.heap[D]? = some o ∧ o.isCells = false

theorem Turned.cells {D : Nat} {w w' : World} (h : Turned D w w') {b : Nat} {c : Array Value} {t : TypeId} {f : Nat × Nat} (hb : w.heap[b]? = some (.cells c t f)) : w'.heap[b]? = w.heap[b]? := by
  refine h.block b (Array.getElem?_eq_some_iff.1 hb).1 fun e => ?_
  obtain ⟨o, ho, hc⟩ := h.none
  subst e
  rw [hb] at ho
  simp only [Option.some.injEq] at ho
  subst ho
  cases hc
theorem cell_cells {w : World} {a : Addr} {u : Value} (h : w.cell? a = some u) : ∃ c t f, w.heap[a.block]? = some (.cells c t f) := by
  unfold World.cell? at h
  split at h
  · rename_i c t f hb; exact ⟨c, t, f, hb⟩
  · cases h
theorem Turned.cell {D : Nat} {w w' : World} (h : Turned D w w') {a : Addr} {u : Value} (hc : w.cell? a = some u) : w'.cell? a = some u := by
  obtain ⟨c, t, f, hb⟩ := cell_cells hc
  rw [World.cell?_of_block (h.cells hb)]; exact hc
/-- What speaks of cells alone goes on to hold behind such a turn. -/
theorem Pers.turn {M : Nat → Prop} {D : Nat} {w w' : World} {F : World → Prop} (hF : ∀ w1 w2 : World, F w1 → (∀ a u, w1.cell? a = some u → w2.cell? a = some u) → F w2) (h : Pers M w F) (ht : Turned D w w') : Pers M w' F := by
  intro w2 h2
  obtain ⟨o, ho, hoc⟩ := ht.none
  have hD : D < w.heap.size := (Array.getElem?_eq_some_iff.1 ho).1
  have h3 : Agree M w (w2.putObj D o) := by
    refine ⟨h2.os.trans ht.os, h2.tape.trans ht.tape, h2.output.trans ht.output, ?_, fun b hb hn => ?_⟩
    · simp only [World.putObj, Array.size_setIfInBounds]; exact Nat.le_trans ht.size h2.size
    · by_cases e : b = D
      · subst e
        rw [World.putObj_heap_same (Nat.lt_of_lt_of_le hb (Nat.le_trans ht.size h2.size)), ho]
      · rw [World.putObj_heap_other e, h2.block b (Nat.lt_of_lt_of_le hb ht.size) hn, ht.block b hb e]
  refine hF _ _ (h _ h3) fun a u hu => ?_
  obtain ⟨c, t, f, hb⟩ := cell_cells hu
  by_cases e : a.block = D
  · rw [e, World.putObj_heap_same (Nat.lt_of_lt_of_le hD (Nat.le_trans ht.size h2.size))] at hb
    simp only [Option.some.injEq] at hb
    subst hb
    cases hoc
  · rw [← hu]
    exact (World.cell?_of_block (World.putObj_heap_other e)).symm
theorem rdSl_cells {τ : FTy} {v : Value} {xs : List τ.D} (w1 w2 : World) (h : RdSl τ w1 v xs) (hc : ∀ a u, w1.cell? a = some u → w2.cell? a = some u) : RdSl τ w2 v xs := by
  obtain ⟨A, cap, hv, hm, hn, hcell⟩ := h
  refine ⟨A, cap, hv, hm, hn, fun hp => ?_⟩
  obtain ⟨b, off, hA, h1⟩ := hcell hp
  exact ⟨b, off, hA, fun j u hu => hc _ _ (h1 j u hu)⟩

def noPer (H : Hp) : Bool := H.all fun p => match p.2 with | .per _ _ => false | _ => true
theorem noPer_spec {H : Hp} (h : noPer H = true) : ∀ p ∈ H, ∀ g F, p.2 ≠ .per g F := by
  intro p hp g F e
  have := List.all_eq_true.1 h p hp
  rw [e] at this; cases this
theorem Ch.sat_turn {M : Bool → Nat → Prop} {ρ : Vl} {D : Nat} {w w' : World} {v : Value} {ch : Ch} (h : ch.sat M ρ w v) (hp : ∀ g F, ch ≠ .per g F) (ht : Turned D w w') : ch.sat M ρ w' v := by
  cases ch with
  | box l ty =>
    obtain ⟨b, hv, hh⟩ := h
    exact ⟨b, hv, (ht.cells hh).trans hh⟩
  | row τ e xs =>
    refine ⟨h.1, ?_⟩
    rcases h.2 with hn | ⟨g, cap, cur, rfl, h1, h2, h3⟩
    · exact .inl hn
    · exact .inr ⟨g, cap, cur, rfl, h1, (ht.cells h2).trans h2, h3⟩
  | rd g τ xs => exact Pers.turn (fun w1 w2 h1 hc => rdSl_cells w1 w2 h1 hc) h ht
  | rbox g l =>
    obtain ⟨b, o, hv, hP⟩ := h
    exact ⟨b, o, hv, Pers.turn (fun w1 w2 h1 hc j u hu => hc _ _ (h1 j u hu)) hP ht⟩
  | per g F => exact absurd rfl (hp g F)
theorem Holds.turn {A : Amb} {ρ : Vl} {D : Nat} {w w' : World} {H : Hp} (h : Holds A ρ w H) (hp : noPer H = true) (ht : Turned D w w') (hD : A.w0.heap.size ≤ D) : Holds A ρ w' H := by
  refine ⟨⟨ht.os.trans h.frame.os, ht.tape.trans h.frame.tape, ht.output.trans h.frame.output, Nat.le_trans h.frame.size ht.size, fun b hb hn => ?_⟩, h.nodup, fun p hp' => Ch.sat_turn (h.sat p hp') (noPer_spec hp p hp') ht, h.apart, h.mine, h.mw_m, h.m_lt, h.pin, h.pin_lt⟩
  exact (ht.block b (Nat.lt_of_lt_of_le hb h.frame.size) (by omega)).trans (h.frame.block b hb hn)
/-- One's own blocks are cells. -/
theorem Mine.cells {A : Amb} {ρ : Vl} {w : World} {H : Hp} (h : Holds A ρ w H) {b : Nat} (hm : Mine ρ H b) : ∃ c t f, w.heap[b]? = some (.cells c t f) := by
  obtain ⟨p, hp, ho, hb⟩ := hm
  have hs := h.sat p hp
  cases hc : p.2 with
  | box l ty =>
    rw [hc] at hs
    obtain ⟨b', hv, hh⟩ := hs
    rw [hv] at hb
    simp only [blk, Option.some.injEq] at hb
    subst hb
    exact ⟨_, _, _, hh⟩
  | row τ e xs =>
    rw [hc] at hs
    rcases hs.2 with ⟨hv, _⟩ | ⟨g, cap, cur, hv, h1, h2, h3⟩
    · rw [hv] at hb; simp [blk] at hb
    · rw [hv] at hb
      simp only [blk, Option.some.injEq] at hb
      subst hb
      exact ⟨_, _, _, h2⟩
  | rd g τ xs => rw [hc] at ho; cases ho
  | rbox g l => rw [hc] at ho; cases ho
  | per g F => rw [hc] at ho; cases ho

/-! ### What a loop leaves to its caller -/
def lowH (H : Hp) : Hp := H.filter fun p => decide (p.1 < 100)
def ownAll (H : Hp) : Bool := H.all fun p => p.2.own
def isSomeLow (H : Hp) (c : Nat) : Bool := decide (c < 100) && (hk H c).isSome
def bkOK (b : Nat) (σ : List (Nat × Nat)) (E : Env) (H H0 H1 : Hp) : Bool :=
  nodupB (H1.map fun p => fM σ b p.1) &&
  H1.all fun p => p.2.glob && (p.2.ids.all fun c => (hk H1 c).isSome || isSomeLow H0 c) && (if p.1 < 100 then isOwn (hk H0 p.1) else freshE (p.1 + b) E && freshH (p.1 + b) H)

section
variable {A : Amb} {ρ : Vl} {w : World} {E : Env} {H : Hp} {N : Fm} {a : Act}
/-- The view of what is lent, and those round it. -/
def ambL (A : Amb) (ρ : Vl) (w : World) (H H0 : Hp) (σ : List (Nat × Nat)) : Amb :=
  ⟨w, tot A ρ H true, Mine (fun c => ρ (rnL σ c)) H0, (lowH H0).map (fun p => (p.1, ρ (rnL σ p.1)))⟩
theorem lowH_mem {H : Hp} {p : Nat × Ch} : p ∈ lowH H ↔ p ∈ H ∧ p.1 < 100 := by simp [lowH]
theorem Holds.lend (h : Holds A ρ w H) {σ : List (Nat × Nat)} {H0 : Hp} (hsub : subH (rnL σ) H H0) (hnd : nodupB (H0.map Prod.fst) = true) (hsep : sepIds (rnL σ) H0 = true) : Holds (ambL A ρ w H H0 σ) (fun c => ρ (rnL σ c)) w H0 := by
  have hspec := subH_spec hsub
  refine h.view (A1 := ambL A ρ w H H0 σ) hsub hnd hsep (Agree.refl _ _) (fun b hb => hb) (fun x hx => .inr hx) (fun x hx => ?_) (fun x hx => ?_) (fun p hp => ?_) (fun p hp => ?_)
  · obtain ⟨p, hp, ho, hb⟩ := hx
    obtain ⟨ch', hk', hpr⟩ := hspec p hp
    exact .inr ⟨_, hk_mem hk', prov_own hpr (by rw [Ch.own_ren]; exact ho), hb⟩
  · rcases hx with ⟨_, hx⟩ | hx
    · exact h.tot_lt (.inl hx)
    · exact h.tot_lt (.inr hx)
  · obtain ⟨q, hq, rfl⟩ := List.mem_map.1 hp; rfl
  · obtain ⟨q, hq, rfl⟩ := List.mem_map.1 hp; exact (lowH_mem.1 hq).2

theorem Holds.back {w1 : World} {ρ1 : Vl} {H0 H1 : Hp} {σ : List (Nat × Nat)} {b : Nat} (h : Holds A ρ w H) (hE : EnvOk N ρ E a) (hsub : subH (rnL σ) H H0) (h1 : Holds (ambL A ρ w H H0 σ) ρ1 w1 H1) (hok : bkOK b σ E H H0 H1 = true) :
    ∃ ρ2, Holds A ρ2 w1 (renH (fM σ b) H1 ++ dropH ((ownIds H0).map (rnL σ)) H) ∧ EnvOk N ρ2 E a ∧ Keep E H ρ ρ2 := by
  have hspec := subH_spec hsub
  have hMine : ∀ x, Mine (fun c => ρ (rnL σ c)) H0 x → ∃ q ∈ H, q.1 ∈ (ownIds H0).map (rnL σ) ∧ q.2.own = true ∧ blk (ρ q.1) = some x := by
    rintro x ⟨p, hp, ho, hb⟩
    obtain ⟨ch', hk', hpr⟩ := hspec p hp
    exact ⟨_, hk_mem hk', List.mem_map.2 ⟨p.1, ownIds_mem.2 ⟨p, hp, rfl, ho⟩, rfl⟩, prov_own hpr (by rw [Ch.own_ren]; exact ho), hb⟩
  simp only [bkOK, Bool.and_eq_true, List.all_eq_true, Bool.or_eq_true] at hok
  obtain ⟨hnd1, hall⟩ := hok
  have hnd1' := nodupB_spec hnd1
  classical
  let ρ2 : Vl := fun c => if ∃ p ∈ H1, 100 ≤ p.1 ∧ p.1 + b = c then ρ1 (c - b) else ρ c
  have hnew : ∀ c, (¬ ∃ p ∈ H1, 100 ≤ p.1 ∧ p.1 + b = c) → ρ2 c = ρ c := fun c hc => by simp only [ρ2]; rw [if_neg hc]
  have hfr : ∀ p ∈ H1, 100 ≤ p.1 → freshE (p.1 + b) E = true ∧ freshH (p.1 + b) H = true := fun p hp h100 => by
    have := (hall p hp).2
    rw [if_neg (by omega)] at this
    simpa using this
  have h2' : ∀ c, freshH c H = false → ρ2 c = ρ c := fun c hc => hnew c fun ⟨p, hp, h100, e⟩ => by
    rw [← e, (hfr p hp h100).2] at hc; cases hc
  have hlowc : ∀ c, c < 100 → (hk H0 c).isSome = true → ρ2 (fM σ b c) = ρ1 c := fun c h100 hc => by
    obtain ⟨q, hq, rfl⟩ := List.mem_map.1 (hk_isSome hc)
    have hpin1 : ρ1 q.1 = ρ (rnL σ q.1) := h1.pin (q.1, ρ (rnL σ q.1)) (List.mem_map.2 ⟨q, lowH_mem.2 ⟨hq, h100⟩, rfl⟩)
    rw [hpin1]
    obtain ⟨ch', hk', _⟩ := hspec q hq
    have := h2' (rnL σ q.1) (fresh_in (hk_mem hk'))
    simp only [fM, h100, if_true]
    exact this
  have h2all : ∀ c, ((hk H1 c).isSome = true ∨ isSomeLow H0 c = true) → ρ2 (fM σ b c) = ρ1 c := by
    rintro c (hc | hc)
    · obtain ⟨p, hp, rfl⟩ := List.mem_map.1 (hk_isSome hc)
      by_cases h100 : p.1 < 100
      · have := (hall p hp).2
        rw [if_pos h100] at this
        refine hlowc p.1 h100 ?_
        unfold isOwn at this
        split at this
        · rename_i e; rw [e]; rfl
        · cases this
      · simp only [fM, h100, if_false, ρ2]
        rw [if_pos ⟨p, hp, by omega, rfl⟩]
        congr 1; omega
    · simp only [isSomeLow, Bool.and_eq_true, decide_eq_true_eq] at hc
      exact hlowc c hc.1 hc.2
  have hnf : ∀ c, (∃ p ∈ H1, 100 ≤ p.1 ∧ p.1 + b = c) → frsh c E H := by
    rintro c ⟨p, hp, h100, rfl⟩
    exact hfr p hp h100
  refine ⟨ρ2, ?_, ?_, ?_⟩
  · refine h.mergeM h1 rfl (fun _ => Iff.rfl) hMine hnd1' (fun p hp => (hall p hp).1.1) (fun p hp q hq => ?_) (fun p hp => ?_) (fun p hp c hc => h2all c ((hall p hp).1.2 c (Ch.men_ids hc))) h2' (fun c hc => hnew c fun ⟨p, _, h100, e⟩ => by omega)
    · obtain ⟨hqH, hql⟩ := mem_dropH.1 hq
      have := (hall p hp).2
      by_cases h100 : p.1 < 100
      · rw [if_pos h100] at this
        intro e
        refine hql ?_
        rw [← e]
        simp only [fM, h100, if_true]
        refine List.mem_map.2 ⟨p.1, ownIds_mem.2 ?_, rfl⟩
        unfold isOwn at this
        split at this
        · rename_i ch e'; exact ⟨(p.1, ch), hk_mem e', rfl, this⟩
        · cases this
      · simp only [fM, h100, if_false]
        intro e
        have hf := freshH_spec (hfr p hp (by omega)).2 q hqH
        exact hf.1 e.symm
    · refine h2all p.1 (.inl ?_)
      cases hkp : hk H1 p.1 with
      | some _ => rfl
      | none => exact absurd (List.mem_map.2 ⟨p, hp, rfl⟩) (hk_none' hkp)
  · exact hE.upd fun p hp c hc => hnew c fun hex => by
      have := (hnf c hex).1
      rw [freshE_spec this p hp] at hc; cases hc
  · exact fun c hc => hnew c fun hex => hc (hnf c hex)
end

/-! ### A range over a function -/
/-- The block of the calls that rounds defer: there are none. -/
def DF (D : Nat) : PerP := JP (fun w => w.heap[D]? = some (.deferred (some [])))
/-- The rest of a loop's state: what is read. -/
def rdOnly (H : Hp) : Bool := H.all fun p => decide (p.1 < 100) && (match p.2 with | .rbox _ l => (idsL l).all fun c => decide (c < 100) | .rd _ _ _ => true | _ => false)
def lowE (E : Env) : Bool := E.all fun p => p.2.ids.all fun c => decide (c < 100)
def inRd (Cf : Cfg) (l : Nat) : Cfg := ⟨Cf.P, Cf.G, Fence.wide.inRound l, Cf.n - 1 - 1, good_round l⟩
/-- Behind a round: what the next one begins with. -/
def RoundQ (H1 : Hp) : Exit → Env → Hp → Prop
  | .normal, E, H => ∃ σ, Sub σ E H [] H1
  | _, _, _ => False

section
variable {A : Amb} {ρ : Vl} {w : World} {E : Env} {H : Hp} {N : Fm} {a : Act} {C : Cfg}

/-- What is one's own, in one's own view: whose frame it is does not matter. -/
theorem Holds.reown {A1 A2 : Amb} {ρ1 : Vl} {W : World} {H1 : Hp} (h : Holds A2 ρ1 W H1) (hown : ownAll H1 = true) (hfr : Agree A1.mw A1.w0 W) (hm : ∀ b, Mine ρ1 H1 b → A1.w0.heap.size ≤ b ∨ A1.mw b) (hmm : ∀ b, A1.mw b → A1.m b) (hlt : ∀ b, A1.m b → b < A1.w0.heap.size)
    (hp : A1.pin = A2.pin) : Holds A1 ρ1 W H1 := by
  refine ⟨hfr, h.nodup, fun p hp => Ch.sat_own (h.sat p hp) (List.all_eq_true.1 hown p hp) (fun _ _ => rfl) (fun _ _ => rfl), h.apart, hm, hmm, hlt, fun p hpp => h.pin p (hp ▸ hpp), fun p hpp => h.pin_lt p (hp ▸ hpp)⟩
theorem Holds.dropR {Hr : Hp} (h : Holds A ρ w (H ++ Hr)) : Holds A ρ w H :=
  h.sub (by have := h.nodup; rw [List.map_append] at this; exact (List.nodup_append.1 this).1) fun p hp => List.mem_append_left _ hp

theorem lowE_spec (h : lowE E = true) : ∀ p ∈ E, ∀ c, p.2.men c = true → c < 100 := by
  intro p hp c hc
  have := List.all_eq_true.1 (List.all_eq_true.1 h p hp) c (SV.men_ids hc)
  simpa using this
theorem idsIn (h : (E.all fun p => p.2.ids.all fun c => (hk H c).isSome) = true) : ∀ p ∈ E, ∀ c, p.2.men c = true → c ∈ H.map Prod.fst := by
  intro p hp c hc
  exact hk_isSome (List.all_eq_true.1 (List.all_eq_true.1 h p hp) c (SV.men_ids hc))

/-- A round's view: what is one's own there, and what is read. -/
theorem Holds.roundView {A1 : Amb} {ρ0 ρ1 : Vl} {W : World} {H0 Ho Hr : Hp} (h0 : Holds A1 ρ0 A1.w0 (H0 ++ Hr)) (hm0 : ∀ b, A1.mw b → Mine ρ0 (H0 ++ Hr) b) (h1 : Holds A1 ρ1 W Ho) (hown : ownAll Ho = true) (hrd : rdOnly Hr = true) (hnd : nodupB ((Ho ++ Hr).map Prod.fst) = true)
    (hpin : ∀ c, c < 100 → c ∈ (H0 ++ Hr).map Prod.fst → ρ1 c = ρ0 c) (hids : ∀ p ∈ Hr, ∀ c, p.2.men c = true → c ∈ (H0 ++ Hr).map Prod.fst) :
    Holds ⟨W, fun b => A1.m b ∨ Mine ρ1 Ho b, Mine ρ1 Ho, A1.pin⟩ ρ1 W (Ho ++ Hr) := by
  have hno : ∀ p ∈ Hr, p.2.own = false := fun p hp => by
    have := List.all_eq_true.1 hrd p hp
    simp only [Bool.and_eq_true] at this
    cases hk : p.2 <;> rw [hk] at this <;> first | rfl | (cases this.2)
  have hlow : ∀ p ∈ Hr, p.1 < 100 ∧ ∀ c, p.2.men c = true → c < 100 := fun p hp => by
    have := List.all_eq_true.1 hrd p hp
    simp only [Bool.and_eq_true, decide_eq_true_eq] at this
    refine ⟨this.1, fun c hc => ?_⟩
    cases hk : p.2 with
    | rbox g l =>
      rw [hk] at this hc
      simpa using List.all_eq_true.1 this.2 c (menL_ids hc)
    | rd g τ xs => rw [hk] at hc; simp [Ch.men] at hc
    | box l ty => rw [hk] at this; cases this.2
    | row τ e xs => rw [hk] at this; cases this.2
    | per g F => rw [hk] at this; cases this.2
  have hmine : ∀ b, Mine ρ1 (Ho ++ Hr) b → Mine ρ1 Ho b := by
    rintro b ⟨p, hp, ho, hb⟩
    rcases List.mem_append.1 hp with hp | hp
    · exact ⟨p, hp, ho, hb⟩
    · rw [hno p hp] at ho; cases ho
  have hownp : ∀ p ∈ Ho, p.2.own = true := fun p hp => List.all_eq_true.1 hown p hp
  refine ⟨Agree.refl _ _, nodupB_spec hnd, fun p hp => ?_, fun p hp q hq hop hoq => ?_, fun b hb => .inr (hmine b hb), fun b hb => .inr hb, fun b hb => ?_, h1.pin, h1.pin_lt⟩
  · rcases List.mem_append.1 hp with hp | hp
    · exact Ch.sat_own (h1.sat p hp) (hownp p hp) (fun _ _ => rfl) (fun _ _ => rfl)
    · have hs := h0.sat p (List.mem_append_right _ hp)
      have hl := hlow p hp
      have e1 : ρ1 p.1 = ρ0 p.1 := hpin p.1 hl.1 (List.mem_map.2 ⟨p, List.mem_append_right _ hp, rfl⟩)
      rw [e1]
      refine Ch.sat_pers hs (hno p hp) (fun g => h1.frame.mono fun b _ hb => .inr (hm0 b hb)) (fun g b hb => ?_) (fun c hc => hpin c (hl.2 c hc) (hids p hp c hc))
      have key : Mine ρ1 Ho b → tot A1 ρ0 (H0 ++ Hr) g b ∨ A1.w0.heap.size ≤ b := fun hb => (h1.mine b hb).elim .inr fun hb => .inl (.inr (hm0 b hb))
      rcases hb with ⟨hg, hb⟩ | hb
      · rcases hb with hb | hb
        · exact .inl (.inl ⟨hg, hb⟩)
        · exact key hb
      · exact key (hmine b hb)
  · have hp' : p ∈ Ho := (List.mem_append.1 hp).elim id fun hp => by rw [hno p hp] at hop; cases hop
    have hq' : q ∈ Ho := (List.mem_append.1 hq).elim id fun hq => by rw [hno q hq] at hoq; cases hoq
    exact h1.apart p hp' q hq' hop hoq
  · rcases hb with hb | hb
    · exact Nat.lt_of_lt_of_le (h1.m_lt b hb) h1.frame.size
    · exact Mine.lt h1 hb

theorem ownFrom_holds {α : Type} {A1 : Amb} {Ho : α → Hp} (hown : ∀ x, ownAll (Ho x) = true) : OwnFrom A1.w0.heap.size (fun (x : α) W => ∃ ρ1, Holds A1 ρ1 W (Ho x)) := by
  rintro x W W' row ⟨ρ1, h⟩ hg hr
  have hblock : ∀ b, (b < W.heap.size) → (∀ r, row = some r → r ≠ b) → W'.heap[b]? = W.heap[b]? := fun b hb hn => hg.block b hb fun e => hn b e.symm rfl
  refine ⟨ρ1, ⟨⟨hg.os.trans h.frame.os, hg.tape.trans h.frame.tape, hg.output.trans h.frame.output, Nat.le_trans h.frame.size hg.size, fun b hb hn => ?_⟩, h.nodup, fun p hp => ?_, h.apart, h.mine, h.mw_m, h.m_lt, h.pin, h.pin_lt⟩⟩
  · refine (hblock b (Nat.lt_of_lt_of_le hb h.frame.size) fun r e => ?_).trans (h.frame.block b hb hn)
    have := (hr r e).1
    omega
  · refine Ch.sat_own (h.sat p hp) (List.all_eq_true.1 (hown x) p hp) (fun b hb => ?_) (fun _ _ => rfl)
    have hmb : Mine ρ1 (Ho x) b := ⟨p, hp, List.all_eq_true.1 (hown x) p hp, hb⟩
    obtain ⟨c, t, f, hc⟩ := Mine.cells h hmb
    refine hblock b (Mine.lt h hmb) fun r e e' => ?_
    obtain ⟨_, o, ho, hoc⟩ := hr r e
    subst e'
    rw [hc] at ho
    simp only [Option.some.injEq] at ho
    subst ho
    cases hoc

theorem XF_range {α : Type} {R : Exit → Act → World → Prop} {g : Operand} {ps : Array Tmp} {assign body : Code} {gf : Nat} {caps : List Nat} (n0 : Nat) (enc : α → Value) (xs : List α) (hwide : C.F = Fence.wide) (hn1 : 1 ≤ C.n)
    (hg : opv E g = some (.a (.fn (.func gf) caps))) (hcal : callable C.P gf = true) (hmw : ∀ b, ¬ A.mw b) (hn0 : n0 ≤ A.w0.heap.size) (hps : ps.size = 1)
    (hseq : ∀ ρ w, Holds A ρ w H → SeqStopsK Fence.wide (C.n - 1) C.P gf (caps.map fun c => shiftV (ρ c) 0).toArray (fun x => #[enc x]) (Below n0) (fun ys => ys = xs) (fun _ => True) xs.length w)
    (σ : List (Nat × Nat)) (b : Nat) (E1 : Env) (Ea : α → Env) (Hr : Hp) (Ho : List α → Hp) (asg : Act → α → Act)
    (hassign : ∀ (a : Act) (l : Nat) (x : α) (W : World) (K : Act → World → Prop), a.tmps.size = N.n → K (asg a x) W →
      assign.wpIn (Fence.wide.inRound l) (C.n - 1 - 1) C.P (Exit.then K (fun _ _ _ => False)) { tmps := (ps.zip #[enc x]).foldl (fun t (p, v) => t.setIfInBounds p v) a.tmps, defers := [] } W)
    (hasg : ∀ (ρ : Vl) (a : Act) (x : α), EnvOk ⟨N.n, N.ds⟩ ρ E1 a → EnvOk ⟨N.n, []⟩ ρ (Ea x) (asg a x))
    (hE : subE (rnL σ) E E1) (hH : subH (rnL σ) H (Ho [] ++ Hr)) (hnd : ∀ pre, nodupB ((Ho pre ++ Hr).map Prod.fst) = true) (hsep : sepIds (rnL σ) (Ho [] ++ Hr) = true)
    (hown : ∀ pre, ownAll (Ho pre) = true) (hrd : rdOnly Hr = true) (hidr : (Hr.all fun p => p.2.ids.all fun c => (hk (Ho [] ++ Hr) c).isSome) = true)
    (hlow : ∀ x, lowE (Ea x) = true) (hide : ∀ x, ((Ea x).all fun p => p.2.ids.all fun c => (hk (Ho [] ++ Hr) c).isSome) = true)
    (hbody : ∀ (l : Nat) (A' : Amb) (pre : List α) (x : α), pre.length < xs.length → X (inRd C l) A' ⟨N.n, []⟩ body (Ea x) (Ho pre ++ Hr) (RoundQ (Ho (pre ++ [x]))))
    (cD : Nat) (hcD : 100 ≤ cD) (hok : bkOK b σ E H (Ho [] ++ Hr) (Ho xs) = true) (hfrD : (freshE cD E && freshH cD (renH (fM σ b) (Ho xs) ++ dropH ((ownIds (Ho [] ++ Hr)).map (rnL σ)) H)) = true)
    (hy : ∀ D, A.w0.heap.size ≤ D → ∀ ρ w a, Holds A ρ w ((cD, .per false (DF D)) :: (renH (fM σ b) (Ho xs) ++ dropH ((ownIds (Ho [] ++ Hr)).map (rnL σ)) H)) → EnvOk ⟨N.n, { target := .collected D, args := #[] } :: N.ds⟩ ρ E a → R .normal a w) :
    XF C A N (.rangeFunc g ps assign body) E H R := by
  intro ρ w a h hEa
  have hge := opv_den hEa hg
  simp only [SV.den, At.den] at hge
  obtain ⟨A1, hA1⟩ : ∃ A1, A1 = ambL A ρ w H (Ho [] ++ Hr) σ := ⟨_, rfl⟩
  have h0 : Holds A1 (fun c => ρ (rnL σ c)) w (Ho [] ++ Hr) := by rw [hA1]; exact h.lend hH (hnd []) hsep
  have ew : A1.w0 = w := by rw [hA1]; rfl
  have emw : ∀ b, A1.mw b → Mine (fun c => ρ (rnL σ c)) (Ho [] ++ Hr) b := by rw [hA1]; exact fun b hb => hb
  have hown0 : ∀ b, A1.mw b → A.w0.heap.size ≤ b := fun b hb => by
    obtain ⟨p, hp, ho, hbb⟩ := emw b hb
    obtain ⟨ch', hk', hpr⟩ := subH_spec hH p hp
    rcases h.mine b ⟨_, hk_mem hk', prov_own hpr (by rw [Ch.own_ren]; exact ho), hbb⟩ with h1 | h1
    · exact h1
    · exact absurd h1 (hmw b)
  have hpin : ∀ {ρ1 : Vl} {W : World} {H1 : Hp}, Holds A1 ρ1 W H1 → ∀ c, c < 100 → c ∈ (Ho [] ++ Hr).map Prod.fst → ρ1 c = ρ (rnL σ c) := by
    intro ρ1 W H1 hh c hc hm
    obtain ⟨q, hq, rfl⟩ := List.mem_map.1 hm
    exact hh.pin (q.1, ρ (rnL σ q.1)) (by rw [hA1]; exact List.mem_map.2 ⟨q, lowH_mem.2 ⟨hq, hc⟩, rfl⟩)
  have hnw : n0 ≤ w.heap.size := Nat.le_trans hn0 h.frame.size
  have hidr' : ∀ p ∈ Hr, ∀ c, p.2.men c = true → c ∈ (Ho [] ++ Hr).map Prod.fst := fun p hp c hc => hk_isSome (List.all_eq_true.1 (List.all_eq_true.1 hidr p hp) c (Ch.men_ids hc))
  rw [hwide]
  refine wpIn_rangeFunc_ownF (α := α) (F := Fence.wide) (P := C.P) (w := w) (gf := gf) (lb := (caps.map fun c => shiftV (ρ c) 0).toArray) (encs := fun x => #[enc x]) (Kp := Below n0) (S := fun ys => ys = xs) (Sp := fun _ => True) (N := xs.length) (w0 := w)
    rfl hn1 hge trivial (fun args w => run_callFunc hcal args) (hseq ρ w h) (fun h k => belowK_t h k) (fun W l o o' => belowK_b hnw W l o o') (Below.refl _ _) (fun x => by simp [hps])
    (fun pre W => ∃ ρ1, Holds A1 ρ1 W (Ho pre)) (fun _ _ _ => False) (by rw [← ew]; exact ownFrom_holds hown) (fun c s W W' row hf => hf.elim) ⟨_, h0.dropR⟩ (asg a) (fun l x W K hK => hassign a l x W K hEa.size hK) ?_ ?_ ?_
  · rintro l pre x W ⟨ρ1, h1⟩ hlen
    have hpin1 := hpin h1
    have hv := Holds.roundView (ρ0 := fun c => ρ (rnL σ c)) (by rw [ew]; exact h0) emw h1 (hown pre) hrd (hnd pre) hpin1 hidr'
    have hE0 : EnvOk ⟨N.n, []⟩ ρ1 (Ea x) (asg a x) := (hasg _ a x (subE_ok hEa hE)).upd fun p hp c hc => hpin1 c (lowE_spec (hlow x) p hp c hc) (idsIn (hide x) p hp c hc)
    have hx := hbody l _ pre x hlen ρ1 W (asg a x) hv hE0
    refine wpIn_mono hx fun e a' W' hq => ?_
    obtain ⟨ρ', E', H', k1, k2, k3⟩ := hq
    have hfr := k1.frame
    change Agree (Mine ρ1 (Ho pre)) W W' at hfr
    cases e with
    | normal =>
      obtain ⟨σ', hsub⟩ := k3
      obtain ⟨ρ2, m1, _⟩ := hsub.ok k1 k2
      refine ⟨⟨hfr.size, fun k o hk ho => ?_⟩, ⟨hfr.os, hfr.tape, hfr.output, hfr.size, fun k hk => ?_⟩, ρ2, ?_⟩
      · refine (hfr.block k (Array.getElem?_eq_some_iff.1 hk).1 fun hm => ?_).trans hk
        obtain ⟨c, t, f, hc⟩ := Mine.cells h1 hm
        rw [hk] at hc
        simp only [Option.some.injEq] at hc
        subst hc
        cases ho
      · have hs1 := h1.frame.size
        rw [ew] at hs1
        refine hfr.block k (by omega) fun hm => ?_
        rcases h1.mine k hm with h2 | h2
        · rw [ew] at h2; omega
        · have := hown0 k h2; omega
      · refine m1.reown (hown _) ⟨hfr.os.trans h1.frame.os, hfr.tape.trans h1.frame.tape, hfr.output.trans h1.frame.output, Nat.le_trans h1.frame.size hfr.size, fun k hk hn => ?_⟩ (fun k hk => ?_) h1.mw_m h1.m_lt rfl
        · refine (hfr.block k (Nat.lt_of_lt_of_le hk h1.frame.size) fun hm => ?_).trans (h1.frame.block k hk hn)
          rcases h1.mine k hm with h2 | h2
          · omega
          · exact hn h2
        · rcases m1.mine k hk with h2 | h2
          · exact .inl (Nat.le_trans h1.frame.size h2)
          · exact h1.mine k h2
    | _ => exact k3.elim
  · rintro D ys W hD rfl ⟨ρ1, h1⟩ hDW
    obtain ⟨ρ2, b1, b2, b3⟩ := Holds.back (b := b) h hEa hH (by rw [← hA1]; exact h1) hok
    simp only [Bool.and_eq_true] at hfrD
    have hnew := b1.new (c := cD) (Agree.refl _ W) hfrD.2 hcD (.bool true) (.per false (DF D)) (fun ho => by simp [Ch.own] at ho) (by
      refine ⟨rfl, fun w' hw' => ?_⟩
      refine (hw'.block D (Array.getElem?_eq_some_iff.1 hDW).1 fun hm => ?_).trans hDW
      rcases hm with ⟨hg, _⟩ | ⟨p, hp, ho, hb⟩
      · cases hg
      · rcases List.mem_cons.1 hp with rfl | hp
        · simp [Ch.own] at ho
        · have hne : p.1 ≠ cD := (freshH_spec hfrD.2 p hp).1
          rw [upd_ne _ _ hne] at hb
          obtain ⟨c, t, f, hc⟩ := Mine.cells b1 ⟨p, hp, ho, hb⟩
          rw [hDW] at hc
          cases hc)
    have hyD := hy D (Nat.le_trans h.frame.size hD) _ W { a with defers := { target := .collected D, args := #[] } :: a.defers } hnew
      ⟨by simp only; rw [b2.defers], b2.size, (b2.fresh hfrD.1 (.bool true)).at_⟩
    exact hyD
  · intro D c pre W _ _ hf
    exact hf.elim
end

/-! ### Functions that hold such a loop -/
section
variable {A : Amb} {ρ : Vl} {w : World} {E : Env} {H : Hp} {N : Fm} {a : Act} {C : Cfg}
/-- One piece's assignment: the loop's variable is its parameter. -/
theorem assign1 {P : Program} {m l id p d : Nat} {t : TypeId} {pos : String} {x : Value} {a : Act} {W : World} {K : Act → World → Prop}
    (hp : p < a.tmps.size) (hK : K ⟨(a.tmps.setIfInBounds p x).setIfInBounds d x, []⟩ W) :
    (Code.region id #[⟨some d, .assign (.tmp p), t, pos, #[], none⟩] false).wpIn (Fence.wide.inRound l) m P (Exit.then K fun _ _ _ => False) { tmps := (#[p].zip #[x]).foldl (fun t (p, v) => t.setIfInBounds p v) a.tmps, defers := [] } W := by
  refine wpIn_region_list ?_
  simp only [List.toList_toArray]
  unfold wpListIn
  rw [if_pos (by rfl)]
  unfold Oper.wpIn
  refine ⟨fun _ _ => trivial, ?_⟩
  rw [Oper.semAt_eq _ _ _ (by intro c hc; cases hc)]
  have e : (execOp (Act.eval { tmps := (#[p].zip #[x]).foldl (fun t (p, v) => t.setIfInBounds p v) a.tmps, defers := [] }) ⟨some d, .assign (.tmp p), t, pos, #[], none⟩).run P W = .ok (.value x) W := by
    simp [execOp, Act.eval, hp]
  rw [e]
  simpa [Oper.uponIn, wpListIn, Exit.then, Act.put] using hK

theorem asg1 {n : Nat} {ds : List Deferred} {ρ : Vl} {E1 : Env} {a : Act} (p d : Nat) (x : Value) (hp : p < n) (hd : d < n) (h : EnvOk ⟨n, ds⟩ ρ E1 a) : EnvOk ⟨n, []⟩ ρ ((d, .a (.v x)) :: (p, .a (.v x)) :: E1) ⟨(a.tmps.setIfInBounds p x).setIfInBounds d x, []⟩ := by
  have h1 := (h.put hp (.a (.v x))).put hd (.a (.v x))
  exact ⟨rfl, h1.size, h1.at_⟩
/-- A nil slice that lies in a variable, as an empty one of one's own. -/
theorem XF_adoptBox {c : Code} {R : Exit → Act → World → Prop} (k i d : Nat) (τ : FTy) (e : TypeId) {l : List At} {ty : TypeId} (hb : hk H k = some (.box l ty)) (hi : l[i]? = some (.v (.slice none 0 0))) (hf : frsh (cid d) E H)
    (h : XF C A N c E (hset ((cid d, .row τ e []) :: H) k (.box (l.set i (.ref (cid d))) ty)) R) : XF C A N c E H R := by
  intro ρ w a h1 h2
  obtain ⟨k1, k2⟩ := h1.newRow h2 hf (Agree.refl _ w) (.slice none 0 0) τ e [] (World.ownsRow_nil w _ _ _)
  have hne : cid d ≠ k := fun e => by
    have := freshH_spec hf.2 _ (hk_mem hb)
    exact this.1 e.symm
  have hb' : hk ((cid d, Ch.row τ e []) :: H) k = some (.box l ty) := by
    simp only [hk, hne, if_false]; exact hb
  refine h _ w a (k1.swap hb' rfl fun M hs => ?_) k2
  obtain ⟨b, hv, hh⟩ := hs
  refine ⟨b, hv, ?_⟩
  have hd : denL (Vl.upd ρ (cid d) (.slice none 0 0)) (l.set i (.ref (cid d))) = denL (Vl.upd ρ (cid d) (.slice none 0 0)) l := by
    unfold denL
    rw [List.map_set]
    apply List.ext_getElem?
    intro j
    rw [List.getElem?_set]
    split
    · rename_i e; subst e
      split
      · rw [List.getElem?_map, hi]
        simp [At.den, upd_same]
      · rename_i hlt
        rw [List.getElem?_eq_none (by simpa using hlt)]
    · rfl
  rw [hd]; exact hh

theorem XF_as {c : Code} {R : Exit → Act → World → Prop} {E' : Env} {H' : Hp} (hE : E = E') (hH : H = H') (h : XF C A N c E' H' R) : XF C A N c E H R := by subst hE; subst hH; exact h
theorem Holds.nopin (h : Holds A ρ w H) {A' : Amb} (h1 : A'.w0 = A.w0) (h2 : A'.m = A.m) (h3 : A'.mw = A.mw) (h4 : A'.pin = []) : Holds A' ρ w H := by
  refine ⟨by rw [h1, h3]; exact h.frame, h.nodup, fun p hp => ?_, h.apart, by rw [h1, h3]; exact h.mine, by rw [h2, h3]; exact h.mw_m, by rw [h1, h2]; exact h.m_lt, by rw [h4]; intro p hp; simp at hp, by rw [h4]; intro p hp; simp at hp⟩
  have : tot A' ρ H = tot A ρ H := by funext g b; simp [tot, h2]
  rw [this]; exact h.sat p hp
/-- A function's contract, by whatever walk: the places of its arguments are known by name all along. -/
theorem Fn_of_XF {f : FuncId} {fn : Func} {c : Code} {args : List SV} {H0 : Hp} {α : Type} {φ : α → Prop} {s1 : α → SV} {H1 : α → Hp} (hwide : C.F = Fence.wide) (n : Nat) (hf : C.P.funcs[f]? = some fn) (hb : fn.body = some c) (hn : fn.ntmps = n) (hc : callable C.P f = true)
    (hN : args.length ≤ n) (hlow : low100 H0 = true)
    (hX : ∀ A ρ0, (∀ b, ¬ A.mw b) → A.pin = H0.map (fun p => (p.1, ρ0 p.1)) → Holds A ρ0 A.w0 H0 → XF C A ⟨n, []⟩ c (argE 0 args) H0 (bodyPostM C.F C.n C.P fn fun e w' => ∃ x ρ', φ x ∧ e = .returned ((s1 x).den ρ') ∧ Holds A ρ' w' (H1 x))) : Fn C f args H0 φ s1 H1 := by
  subst hn
  refine ⟨hc, fun A ρ w hw hmw hpin h => ?_⟩
  obtain ⟨A', hA'⟩ : ∃ A' : Amb, A' = ⟨A.w0, A.m, A.mw, H0.map fun p => (p.1, ρ p.1)⟩ := ⟨_, rfl⟩
  have h' : Holds A' ρ w H0 := by
    subst hA'
    refine ⟨h.frame, h.nodup, h.sat, h.apart, h.mine, h.mw_m, h.m_lt, fun p hp => ?_, fun p hp => ?_⟩
    · obtain ⟨q, hq, rfl⟩ := List.mem_map.1 hp; rfl
    · obtain ⟨q, hq, rfl⟩ := List.mem_map.1 hp
      simpa using List.all_eq_true.1 hlow q hq
  have hx := hX A' ρ (by rw [hA']; exact hmw) (by rw [hA']) (by rw [show A'.w0 = w by rw [hA']; exact hw]; exact h') ρ w _ h' (env_args args fn.ntmps hN)
  rw [hwide] at hx
  refine Calls.mono (callsIn_wide.1 (callsIn_of_wp_marks (n := C.n) hf hb trivial hx)) fun e w' he => ?_
  obtain ⟨x, ρ', k1, k2, k3⟩ := he
  exact ⟨x, ρ', k1, k2, k3.nopin (by rw [hA']) (by rw [hA']) (by rw [hA']) hpin⟩
/-- The return of a function that has held a loop: the block of its rounds is shut. -/
theorem retD {n cD D : Nat} {fn : Func} {R : Ending → World → Prop} {s : SV} (hk : hk H cD = some (.per false (DF D))) (hnp : noPer (dropH [cD] H) = true) (hD : A.w0.heap.size ≤ D) (h : Holds A ρ w H) (hE : EnvOk ⟨n, [{ target := .collected D, args := #[] }]⟩ ρ E a)
    (hs : resV C E (dropH [cD] H) fn.results = some s) (hR : ∀ w', Holds A ρ w' (dropH [cD] H) → R (.returned (s.den ρ)) w') : bodyPostM C.F C.n C.P fn R .ret a w := by
  have hDw : w.heap[D]? = some (.deferred (some [])) := Pers.now (h.sat _ (hk_mem hk)).2
  have hlt := (Array.getElem?_eq_some_iff.1 hDw).1
  have h1 : Holds A ρ w (dropH [cD] H) := h.sub ((dropH_sub _ _).nodup h.nodup) fun p hp => (mem_dropH.1 hp).1
  have ht : Turned D w (w.putObj D (.deferred none)) := ⟨rfl, rfl, rfl, by simp [World.putObj], fun b _ hne => World.putObj_heap_other hne, _, hDw, rfl⟩
  have h2 := h1.turn hnp ht hD
  show LeavesInM C.F C.n C.P fn a.tmps R a.defers .returning w
  rw [hE.defers]
  refine ⟨by simp, .inl ⟨D, _, rfl, run_takeDeferred hDw, ?_⟩⟩
  exact ⟨s.den ρ, resV_sound (C := C) hE h2.satH hs, hR _ h2⟩
/-- The return of a function that holds none. -/
theorem retN {n : Nat} {fn : Func} {R : Ending → World → Prop} {s : SV} (h : Holds A ρ w H) (hE : EnvOk ⟨n, []⟩ ρ E a) (hs : resV C E H fn.results = some s) (hR : R (.returned (s.den ρ)) w) : bodyPostM C.F C.n C.P fn R .ret a w := by
  show LeavesInM C.F C.n C.P fn a.tmps R a.defers .returning w
  rw [hE.defers]
  exact ⟨s.den ρ, resV_sound (C := C) hE h.satH hs, hR⟩
/-- What was read at a function's entry lies so wherever all that lay then lies as it lay. -/
theorem far_rd {ρ0 : Vl} {W : World} {H0 : Hp} {c : Nat} {g : Bool} {τ : FTy} {xs : List τ.D} (h0 : Holds A ρ0 A.w0 H0) (hc : hk H0 c = some (.rd g τ xs)) (hmw : ∀ b, ¬ A.mw b) (hpin : A.pin = H0.map (fun p => (p.1, ρ0 p.1))) (h : Holds A ρ w H) (hb : Below A.w0.heap.size w W) : RdSl τ W (ρ c) xs := by
  have e : ρ c = ρ0 c := h.pin (c, ρ0 c) (by rw [hpin]; exact List.mem_map.2 ⟨_, hk_mem hc, rfl⟩)
  rw [e]
  have h1 := h0.sat _ (hk_mem hc)
  have hfr := h.frame
  exact h1 W ⟨hb.os.trans hfr.os, hb.tape.trans hfr.tape, hb.output.trans hfr.output, Nat.le_trans hfr.size hb.size, fun k hk _ => (hb.block k hk).trans (hfr.block k hk (hmw k))⟩
/-- What is read, by other names. -/
theorem Holds.seen (h : Holds A ρ w H) {f : Nat → Nat} {H1 : Hp} (hs : subH f H H1) (hn : nodupB (H1.map Prod.fst) = true) (hno : noOwn H1 = true) : Holds ⟨w, tot A ρ H true, fun _ => False, []⟩ (fun c => ρ (f c)) w H1 := by
  have hnoown : ∀ p ∈ H1, p.2.own = false := fun p hp => by simpa using List.all_eq_true.1 hno p hp
  refine h.view hs hn (by simp only [sepIds, List.all_eq_true]; intro q hq; simp [hnoown q hq]) (Agree.refl _ _) (fun b hb => hb) (fun x hx => ?_) (fun _ hf => hf.elim) (fun x hx => ?_) (fun p hp => by simp at hp) (fun p hp => by simp at hp)
  · obtain ⟨p, hp, ho, _⟩ := hx
    rw [hnoown p hp] at ho; cases ho
  · rcases hx with ⟨_, hx⟩ | hx
    · exact h.tot_lt (.inl hx)
    · exact h.tot_lt (.inr hx)
end
end Go.Proofs.Ytgbmhfbfcbjccaa
