/- An engine for walks: symbolic values, chunks of memory, what a world must satisfy. Conditions: none; plain definitions and theorems. -/
import Derived.WalkKit
import Derived.WalkLawsBesides
import Derived.WalkSpells
import Derived.OrdersHeld
import Derived.OrdersIn
import Derived.Laws.Cover3
import Derived.TacticsIn
import Derived.Sort.LoopGhostIn
import Derived.RangeFuncFrom
import Derived.RangeFuncCalls
import Derived.RangeFuncLeaves
namespace Go.Proofs.Ytgbmhfbfcbjccaa
set_option linter.unusedSimpArgs false
set_option linter.unusedVariables false
open Go.RowKit

/-! ### Worlds that agree but for some blocks -/
structure Agree (M : Nat → Prop) (w w' : World) : Prop where
  os : w'.os = w.os
  tape : w'.tape = w.tape
  output : w'.output = w.output
  size : w.heap.size ≤ w'.heap.size
  block : ∀ b, b < w.heap.size → ¬ M b → w'.heap[b]? = w.heap[b]?

theorem Agree.refl (M : Nat → Prop) (w : World) : Agree M w w := ⟨rfl, rfl, rfl, Nat.le_refl _, fun _ _ _ => rfl⟩
theorem Agree.trans {M : Nat → Prop} {a b c : World} (h : Agree M a b) (k : Agree M b c) : Agree M a c :=
  ⟨k.os.trans h.os, k.tape.trans h.tape, k.output.trans h.output, Nat.le_trans h.size k.size,
   fun i hi hm => (k.block i (Nat.lt_of_lt_of_le hi h.size) hm).trans (h.block i hi hm)⟩
theorem Agree.mono {M M' : Nat → Prop} {a b : World} (h : Agree M a b) (hm : ∀ i, i < a.heap.size → M i → M' i) : Agree M' a b :=
  ⟨h.os, h.tape, h.output, h.size, fun i hi hn => h.block i hi fun hM => hn (hm i hi hM)⟩
theorem Agree.alloc {M : Nat → Prop} (w : World) (o : Obj) : Agree M w (w.alloc o) :=
  ⟨rfl, rfl, rfl, by simp, fun k hk _ => Below.heap_alloc w o k hk⟩
theorem Agree.drew {M : Nat → Prop} (w : World) : Agree M w w.drew := ⟨rfl, rfl, rfl, Nat.le_refl _, fun _ _ _ => rfl⟩
theorem Agree.below {M : Nat → Prop} {w w' : World} (h : Agree M w w') (hM : ∀ b, b < w.heap.size → ¬ M b) : Below w.heap.size w w' :=
  ⟨h.os, h.tape, h.output, h.size, fun k hk => h.block k hk (hM k hk)⟩
theorem agree_of_below {M : Nat → Prop} {w w' : World} (h : Below w.heap.size w w') : Agree M w w' :=
  ⟨h.os, h.tape, h.output, h.size, fun k hk _ => h.block k hk⟩
theorem agree_of_grown {M : Nat → Prop} {w w' : World} {row : Option Nat} (h : w.grownBy w' row) (hr : ∀ k, row = some k → M k) : Agree M w w' :=
  ⟨h.os, h.tape, h.output, h.size, fun k hk hm => h.block k hk fun e => hm (hr k e.symm)⟩
theorem Agree.cell {M : Nat → Prop} {w w' : World} (h : Agree M w w') {a : Addr} (ha : a.block < w.heap.size) (hm : ¬ M a.block) : w'.cell? a = w.cell? a :=
  World.cell?_of_block (h.block a.block ha hm)

/-- What holds of a world and goes on to hold while only the blocks of M, and new ones, turn. -/
def Pers (M : Nat → Prop) (w : World) (F : World → Prop) : Prop := ∀ w', Agree M w w' → F w'
theorem Pers.now {M : Nat → Prop} {w : World} {F : World → Prop} (h : Pers M w F) : F w := h w (Agree.refl M w)
theorem Pers.mono {M M' : Nat → Prop} {w w' : World} {F : World → Prop} (h : Pers M w F) (ha : Agree M w w') (hm : ∀ b, M' b → M b ∨ w.heap.size ≤ b) : Pers M' w' F := fun w'' h'' =>
  h w'' ⟨h''.os.trans ha.os, h''.tape.trans ha.tape, h''.output.trans ha.output, Nat.le_trans ha.size h''.size, fun b hb hn =>
    (h''.block b (Nat.lt_of_lt_of_le hb ha.size) fun hM => (hm b hM).elim hn fun h1 => by omega).trans (ha.block b hb hn)⟩
theorem Pers.imp {M : Nat → Prop} {w : World} {F G : World → Prop} (h : Pers M w F) (hi : ∀ w, F w → G w) : Pers M w G := fun w' h' => hi w' (h w' h')
theorem Pers.const {M : Nat → Prop} {w : World} {p : Prop} (h : p) : Pers M w (fun _ => p) := fun _ _ => h

/-! ### Element types without places of memory -/
structure ArcD where
  From : Int
  To : Int
  Low : Int
  Cap : Int
  Cost : Int
  deriving DecidableEq
def ArcD.cells (a : ArcD) : List Value := [.int .i64 a.From, .int .i64 a.To, .int .i64 a.Low, .int .i64 a.Cap, .int .i64 a.Cost]
def ArcD.zero : ArcD := ⟨0, 0, 0, 0, 0⟩

inductive FTy where
  | int (k : IntKind)
  | bool
  | arc
  deriving DecidableEq
@[reducible] def FTy.D : FTy → Type
  | .int _ => Int
  | .bool => Bool
  | .arc => ArcD
def FTy.sz : FTy → Nat
  | .int _ => 1
  | .bool => 1
  | .arc => 5
def FTy.cells : (τ : FTy) → τ.D → List Value
  | .int k, x => [.int k x]
  | .bool, x => [.bool x]
  | .arc, x => x.cells
def FTy.dflt : (τ : FTy) → τ.D
  | .int _ => (0 : Int)
  | .bool => false
  | .arc => ArcD.zero
def FTy.read : (τ : FTy) → List Value → Option τ.D
  | .int k, [.int k' x] => if k' = k then some x else none
  | .bool, [.bool x] => some x
  | .arc, [.int .i64 a, .int .i64 b, .int .i64 c, .int .i64 d, .int .i64 e] => some (ArcD.mk a b c d e)
  | _, _ => none
/-- What one list of elements is as another one's. -/
def FTy.castL : (τ σ : FTy) → List τ.D → Option (List σ.D)
  | .int k, .int k', xs => if k = k' then some xs else none
  | .bool, .bool, xs => some xs
  | .arc, .arc, xs => some xs
  | _, _, _ => none
theorem FTy.len (τ : FTy) (d : τ.D) : (τ.cells d).length = τ.sz := by cases τ <;> rfl
theorem FTy.one (τ : FTy) (d : τ.D) : ∀ u ∈ τ.cells d, u.oneCell' = true := by
  intro u h
  cases τ <;> simp only [FTy.cells, ArcD.cells, List.mem_cons, List.not_mem_nil, or_false] at h
  · subst h; rfl
  · subst h; rfl
  · rcases h with rfl | rfl | rfl | rfl | rfl <;> rfl
theorem FTy.read_ok (τ : FTy) (l : List Value) (d : τ.D) (h : τ.read l = some d) : τ.cells d = l := by
  unfold FTy.read at h
  split at h
  · split at h
    · rename_i e; subst e; simp at h; subst h; rfl
    · simp at h
  · simp at h; subst h; rfl
  · simp at h; subst h; rfl
  · simp at h
theorem FTy.castL_ok {τ σ : FTy} {xs : List τ.D} {ys : List σ.D} (h : FTy.castL τ σ xs = some ys) : τ = σ ∧ xs.length = ys.length ∧ xs.flatMap τ.cells = ys.flatMap σ.cells := by
  unfold FTy.castL at h
  split at h
  · split at h
    · rename_i e; subst e; simp at h; subst h; exact ⟨rfl, rfl, rfl⟩
    · simp at h
  · simp at h; subst h; exact ⟨rfl, rfl, rfl⟩
  · simp at h; subst h; exact ⟨rfl, rfl, rfl⟩
  · simp at h

/-- A slice that is read: nil, empty or not. -/
def RdSl (τ : FTy) (w : World) (v : Value) (xs : List τ.D) : Prop :=
  ∃ A cap, v = .slice A xs.length cap ∧ (xs.length ≤ 9223372036854775807 ∧ xs.length ≤ cap) ∧ (A = none → xs.length = 0 ∧ cap = 0) ∧
    (0 < xs.length → ∃ b off, A = some ⟨b, off, none⟩ ∧ ∀ j u, (xs.flatMap τ.cells)[j]? = some u → w.cell? ⟨b, off + j, none⟩ = some u)

/-! ### Symbolic values -/
inductive At where
  | v (x : Value)
  | ref (c : Nat)
  | ptr (c off : Nat)
  | elem (c k sz off : Nat)
  | fn (f : Fn) (caps : List Nat)
inductive Pt where
  | a (x : At)
  | g (l : List At)
inductive SV where
  | a (x : At)
  | g (l : List At)
  | t (l : List Pt)

def shiftV (v : Value) (n : Nat) : Value :=
  match v with
  | .pointer (some a) => .pointer (some ⟨a.block, a.off + n, none⟩)
  | .slice (some a) _ _ => .pointer (some ⟨a.block, a.off + n, none⟩)
  | _ => .pointer (some ⟨0, 0 + n, none⟩)
theorem shiftV_pointer (b o n : Nat) (s : Option Nat) : shiftV (.pointer (some ⟨b, o, s⟩)) n = .pointer (some ⟨b, o + n, none⟩) := rfl
theorem shiftV_slice (b o n l c : Nat) (s : Option Nat) : shiftV (.slice (some ⟨b, o, s⟩) l c) n = .pointer (some ⟨b, o + n, none⟩) := rfl
theorem shiftV_all (v : Value) : ∃ b o, ∀ n, shiftV v n = .pointer (some ⟨b, o + n, none⟩) := by
  unfold shiftV; split <;> exact ⟨_, _, fun _ => rfl⟩
theorem shiftV_form (v : Value) (n : Nat) : ∃ b o, shiftV v n = .pointer (some ⟨b, o, none⟩) := by
  obtain ⟨b, o, h⟩ := shiftV_all v
  exact ⟨b, o + n, h n⟩

abbrev Vl := Nat → Value
def At.den (ρ : Vl) : At → Value
  | .v x => x
  | .ref c => ρ c
  | .ptr c off => shiftV (ρ c) off
  | .elem c k sz off => shiftV (ρ c) (k * sz + off)
  | .fn f caps => .func f #[] (caps.map fun c => shiftV (ρ c) 0).toArray
def denL (ρ : Vl) (l : List At) : List Value := l.map (At.den ρ)
def Pt.den (ρ : Vl) : Pt → Value
  | .a x => x.den ρ
  | .g l => .agg (denL ρ l).toArray
def SV.den (ρ : Vl) : SV → Value
  | .a x => x.den ρ
  | .g l => .agg (denL ρ l).toArray
  | .t l => .tuple (l.map (Pt.den ρ)).toArray
/-- The cells of a value that is stored. -/
def SV.cells : SV → List At
  | .a x => [x]
  | .g l => l
  | .t _ => []
/-- Is each of them the value of one cell? -/
def At.one : At → Bool
  | .v x => x.oneCell'
  | _ => true

def At.men (c : Nat) : At → Bool
  | .v _ => false
  | .ref d => d == c
  | .ptr d _ => d == c
  | .elem d _ _ _ => d == c
  | .fn _ caps => caps.any (· == c)
def menL (c : Nat) (l : List At) : Bool := l.any (At.men c)
def Pt.men (c : Nat) : Pt → Bool
  | .a x => x.men c
  | .g l => menL c l
def SV.men (c : Nat) : SV → Bool
  | .a x => x.men c
  | .g l => menL c l
  | .t l => l.any (Pt.men c)

theorem At.den_upd {ρ ρ' : Vl} {x : At} (h : ∀ c, x.men c = true → ρ' c = ρ c) : x.den ρ' = x.den ρ := by
  cases x with
  | v x => rfl
  | ref c => exact h c (by simp [At.men])
  | ptr c off => simp only [At.den]; rw [h c (by simp [At.men])]
  | elem c k sz off => simp only [At.den]; rw [h c (by simp [At.men])]
  | fn f caps =>
    simp only [At.den]
    congr 2
    refine List.map_congr_left fun c hc => ?_
    rw [h c (by simp only [At.men, List.any_eq_true]; exact ⟨c, hc, by simp⟩)]
theorem denL_upd {ρ ρ' : Vl} {l : List At} (h : ∀ c, menL c l = true → ρ' c = ρ c) : denL ρ' l = denL ρ l := by
  unfold denL
  refine List.map_congr_left fun x hx => At.den_upd fun c hc => h c ?_
  simp only [menL, List.any_eq_true]; exact ⟨x, hx, hc⟩
theorem Pt.den_upd {ρ ρ' : Vl} {x : Pt} (h : ∀ c, x.men c = true → ρ' c = ρ c) : x.den ρ' = x.den ρ := by
  cases x with
  | a x => exact At.den_upd h
  | g l => simp only [Pt.den]; rw [denL_upd h]
theorem SV.den_upd {ρ ρ' : Vl} {x : SV} (h : ∀ c, x.men c = true → ρ' c = ρ c) : x.den ρ' = x.den ρ := by
  cases x with
  | a x => exact At.den_upd h
  | g l => simp only [SV.den]; rw [denL_upd h]
  | t l =>
    simp only [SV.den]
    congr 2
    refine List.map_congr_left fun x hx => Pt.den_upd fun c hc => h c ?_
    simp only [SV.men, List.any_eq_true]; exact ⟨x, hx, hc⟩

/-- What goes on to hold of a value. -/
structure PerP where
  p : (Nat → Prop) → World → Value → Prop
  mono : ∀ {M M' : Nat → Prop} {w w' : World} {v : Value}, p M w v → Agree M w w' → (∀ b, M' b → M b ∨ w.heap.size ≤ b) → p M' w' v
  one : ∀ {M : Nat → Prop} {w : World} {v : Value}, p M w v → v.oneCell' = true

/-! ### Chunks of memory -/
inductive Ch where
  /-- a block of one's own, cell by cell -/
  | box (cells : List At) (ty : TypeId)
  /-- a slice that owns its block -/
  | row (τ : FTy) (e : TypeId) (xs : List τ.D)
  /-- a slice that is only read (true: whoever is round may write what he likes of his own; false: it holds while this function runs) -/
  | rd (g : Bool) (τ : FTy) (xs : List τ.D)
  /-- cells behind a pointer that are only read -/
  | rbox (g : Bool) (cells : List At)
  /-- whatever goes on to hold of a value -/
  | per (g : Bool) (F : PerP)

def Ch.own : Ch → Bool
  | .box _ _ => true
  | .row _ _ _ => true
  | _ => false
def blk : Value → Option Nat
  | .pointer (some a) => some a.block
  | .slice (some a) _ _ => some a.block
  | _ => none
def Ch.men (c : Nat) : Ch → Bool
  | .box l _ => menL c l
  | .rbox _ l => menL c l
  | _ => false

def Ch.sat (M : Bool → Nat → Prop) (ρ : Vl) (w : World) (v : Value) : Ch → Prop
  | .box l ty => ∃ b, v = .pointer (some ⟨b, 0, none⟩) ∧ w.heap[b]? = some (.cells (denL ρ l).toArray ty (0, 0))
  | .row τ e xs => w.ownsRow 0 e τ.sz v xs.length (xs.flatMap τ.cells)
  | .rd g τ xs => Pers (M g) w (fun w => RdSl τ w v xs)
  | .rbox g l => ∃ b o, v = .pointer (some ⟨b, o, none⟩) ∧ Pers (M g) w (fun w => ∀ j u, (denL ρ l)[j]? = some u → w.cell? ⟨b, o + j, none⟩ = some u)
  | .per g F => F.p (M g) w v

abbrev Hp := List (Nat × Ch)
def Mine (ρ : Vl) (H : Hp) (b : Nat) : Prop := ∃ p ∈ H, p.2.own = true ∧ blk (ρ p.1) = some b

/-- Round a function's run: the world at its entry; the blocks that somebody round it may write; those of them that it may write itself; places that are known by name. -/
structure Amb where
  w0 : World
  m : Nat → Prop
  mw : Nat → Prop
  pin : List (Nat × Value)

/-- What may turn: for good, what anybody round may write; else one's own alone. -/
def tot (A : Amb) (ρ : Vl) (H : Hp) (g : Bool) (b : Nat) : Prop := (g = true ∧ A.m b) ∨ Mine ρ H b

structure Holds (A : Amb) (ρ : Vl) (w : World) (H : Hp) : Prop where
  frame : Agree A.mw A.w0 w
  nodup : (H.map Prod.fst).Nodup
  sat : ∀ p ∈ H, p.2.sat (tot A ρ H) ρ w (ρ p.1)
  apart : ∀ p ∈ H, ∀ q ∈ H, p.2.own = true → q.2.own = true → p.1 ≠ q.1 → ∀ b, blk (ρ p.1) = some b → blk (ρ q.1) ≠ some b
  mine : ∀ b, Mine ρ H b → A.w0.heap.size ≤ b ∨ A.mw b
  mw_m : ∀ b, A.mw b → A.m b
  m_lt : ∀ b, A.m b → b < A.w0.heap.size
  pin : ∀ p ∈ A.pin, ρ p.1 = p.2
  pin_lt : ∀ p ∈ A.pin, p.1 < 100

theorem Ch.own_lt {M : Bool → Nat → Prop} {ρ : Vl} {w : World} {v : Value} {ch : Ch} (h : ch.sat M ρ w v) (ho : ch.own = true) {b : Nat} (hb : blk v = some b) : b < w.heap.size := by
  cases ch with
  | box l ty =>
    obtain ⟨b', rfl, hh⟩ := h
    simp only [blk, Option.some.injEq] at hb
    subst hb
    exact (Array.getElem?_eq_some_iff.1 hh).1
  | row τ e xs =>
    have : v.ownBlock = some b := by
      unfold blk at hb
      have h2 := h.2
      rcases h2 with ⟨rfl, _⟩ | ⟨g, cap, cur, rfl, _⟩
      · simp at hb
      · simpa [Value.ownBlock] using hb
    exact (World.ownsRow.lt h b this).2
  | _ => simp [Ch.own] at ho

theorem Mine.lt {A : Amb} {ρ : Vl} {w : World} {H : Hp} (h : Holds A ρ w H) {b : Nat} (hm : Mine ρ H b) : b < w.heap.size := by
  obtain ⟨p, hp, ho, hb⟩ := hm
  exact Ch.own_lt (h.sat p hp) ho hb

/-- A chunk that is not one's own goes on to hold. -/
theorem Ch.sat_pers {M M' : Bool → Nat → Prop} {ρ ρ' : Vl} {w w' : World} {v : Value} {ch : Ch} (h : ch.sat M ρ w v) (ho : ch.own = false)
    (ha : ∀ g, Agree (M g) w w') (hm : ∀ g b, M' g b → M g b ∨ w.heap.size ≤ b) (hρ : ∀ c, ch.men c = true → ρ' c = ρ c) : ch.sat M' ρ' w' v := by
  cases ch with
  | box l ty => simp [Ch.own] at ho
  | row τ e xs => simp [Ch.own] at ho
  | rd g τ xs => exact Pers.mono h (ha g) (hm g)
  | rbox g l =>
    obtain ⟨b, o, rfl, h⟩ := h
    refine ⟨b, o, rfl, ?_⟩
    rw [denL_upd (l := l) (by simpa [Ch.men] using hρ)]
    exact Pers.mono h (ha g) (hm g)
  | per g F => exact F.mono h (ha g) (hm g)
/-- A chunk of one's own goes on to hold where its block is as it was. -/
theorem Ch.sat_own {M M' : Bool → Nat → Prop} {ρ ρ' : Vl} {w w' : World} {v : Value} {ch : Ch} (h : ch.sat M ρ w v) (ho : ch.own = true)
    (hb : ∀ b, blk v = some b → w'.heap[b]? = w.heap[b]?) (hρ : ∀ c, ch.men c = true → ρ' c = ρ c) : ch.sat M' ρ' w' v := by
  cases ch with
  | box l ty =>
    obtain ⟨b, rfl, hh⟩ := h
    refine ⟨b, rfl, ?_⟩
    rw [denL_upd (l := l) (by simpa [Ch.men] using hρ), hb b rfl]
    exact hh
  | row τ e xs =>
    refine ⟨h.1, ?_⟩
    rcases h.2 with hn | ⟨g, cap, cur, rfl, h1, h2, h3⟩
    · exact .inl hn
    · exact .inr ⟨g, cap, cur, rfl, h1, by rw [hb g rfl]; exact h2, h3⟩
  | _ => simp [Ch.own] at ho

/-! ### Looking things up -/
abbrev Env := List (Nat × SV)
def lk : Env → Nat → Option SV
  | [], _ => none
  | (k, x) :: r, t => if k = t then some x else lk r t
def hk : Hp → Nat → Option Ch
  | [], _ => none
  | (k, x) :: r, t => if k = t then some x else hk r t
def hset : Hp → Nat → Ch → Hp
  | [], _, _ => []
  | (k, x) :: r, t, y => if k = t then (k, y) :: r else (k, x) :: hset r t y
def hdel : Hp → Nat → Hp
  | [], _ => []
  | (k, x) :: r, t => if k = t then r else (k, x) :: hdel r t

theorem hk_mem {H : Hp} {c : Nat} {ch : Ch} (h : hk H c = some ch) : (c, ch) ∈ H := by
  induction H with
  | nil => simp [hk] at h
  | cons p r ih =>
    obtain ⟨k, x⟩ := p
    simp only [hk] at h
    split at h
    · rename_i e; subst e; simp at h; subst h; exact List.mem_cons_self
    · exact List.mem_cons_of_mem _ (ih h)
theorem hk_none {H : Hp} {c : Nat} (h : hk H c = none) : c ∉ H.map Prod.fst := by
  induction H with
  | nil => simp
  | cons p r ih =>
    obtain ⟨k, x⟩ := p
    simp only [hk] at h
    split at h
    · simp at h
    · rename_i e
      simp only [List.map_cons, List.mem_cons, not_or]
      exact ⟨fun e' => e e'.symm, ih h⟩

/-- A function's frame: how many slots; what it has deferred. -/
structure Fm where
  n : Nat
  ds : List Deferred
structure EnvOk (N : Fm) (ρ : Vl) (E : Env) (a : Act) : Prop where
  defers : a.defers = N.ds
  size : a.tmps.size = N.n
  at_ : ∀ t x, lk E t = some x → a.tmps[t]? = some (x.den ρ)

theorem EnvOk.put {N : Fm} {ρ : Vl} {E : Env} {a : Act} (h : EnvOk N ρ E a) {d : Nat} (hd : d < N.n) (x : SV) : EnvOk N ρ ((d, x) :: E) (a.put (some d) (x.den ρ)) := by
  refine ⟨h.defers, by simp [Act.put, h.size], fun t y hy => ?_⟩
  simp only [lk] at hy
  simp only [Act.put, Array.getElem?_setIfInBounds]
  split at hy
  · rename_i e; subst e
    simp only [Option.some.injEq] at hy; subst hy
    simp [h.size, hd]
  · rename_i e
    rw [if_neg e]
    exact h.at_ t y hy
theorem EnvOk.upd {N : Fm} {ρ ρ' : Vl} {E : Env} {a : Act} (h : EnvOk N ρ E a) (hρ : ∀ p ∈ E, ∀ c, p.2.men c = true → ρ' c = ρ c) : EnvOk N ρ' E a := by
  refine ⟨h.defers, h.size, fun t x hx => ?_⟩
  have hm : (t, x) ∈ E := by
    clear h hρ
    induction E with
    | nil => simp [lk] at hx
    | cons p r ih =>
      obtain ⟨k, y⟩ := p
      simp only [lk] at hx
      split at hx
      · rename_i e; subst e; simp at hx; subst hx; exact List.mem_cons_self
      · exact List.mem_cons_of_mem _ (ih hx)
  rw [SV.den_upd (hρ _ hm)]
  exact h.at_ t x hx

/-- An operand's value. -/
def constSV : Value → SV
  | .agg cs => .g (cs.toList.map At.v)
  | v => .a (.v v)
theorem constSV_den (ρ : Vl) (v : Value) : (constSV v).den ρ = v := by
  cases v <;> simp [constSV, SV.den, At.den, denL, Function.comp_def]
def opv (E : Env) : Operand → Option SV
  | .tmp t => lk E t
  | .const v => some (constSV v)
  | .func f => some (.a (.fn (.func f) []))
  | .global _ => none
theorem opv_den {N : Fm} {ρ : Vl} {E : Env} {a : Act} (h : EnvOk N ρ E a) {x : Operand} {s : SV} (hx : opv E x = some s) : a.eval x = s.den ρ := by
  cases x with
  | tmp t => simp only [Act.eval, Array.getD_eq_getD_getElem?]; rw [h.at_ t s hx]; rfl
  | const v => simp only [opv, Option.some.injEq] at hx; subst hx; rw [constSV_den]; rfl
  | func f => simp only [opv, Option.some.injEq] at hx; subst hx; simp [Act.eval, SV.den, At.den]
  | global g => simp [opv] at hx

end Go.Proofs.Ytgbmhfbfcbjccaa
