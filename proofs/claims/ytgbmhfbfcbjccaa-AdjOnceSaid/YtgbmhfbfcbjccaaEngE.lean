/- The engine's steps on memory: what is known goes on to hold behind a new block, a write, a call. Conditions: none; plain theorems. -/
import Derived.Test.YtgbmhfbfcbjccaaEngD
namespace Go.Proofs.Ytgbmhfbfcbjccaa
set_option linter.unusedSimpArgs false
set_option linter.unusedVariables false
open Go.RowKit

def Vl.upd (ρ : Vl) (c : Nat) (v : Value) : Vl := fun x => if x = c then v else ρ x
theorem upd_same (ρ : Vl) (c : Nat) (v : Value) : (Vl.upd ρ c v) c = v := by simp [Vl.upd]
theorem upd_ne (ρ : Vl) {c x : Nat} (v : Value) (h : x ≠ c) : (Vl.upd ρ c v) x = ρ x := by simp [Vl.upd, h]

def freshE (c : Nat) (E : Env) : Bool := E.all fun p => !p.2.men c
def freshH (c : Nat) (H : Hp) : Bool := H.all fun p => !(p.1 == c) && !p.2.men c

theorem freshE_spec {c : Nat} {E : Env} (h : freshE c E = true) : ∀ p ∈ E, p.2.men c = false := by
  intro p hp
  have := List.all_eq_true.1 h p hp
  simpa using this
theorem freshH_spec {c : Nat} {H : Hp} (h : freshH c H = true) : ∀ p ∈ H, p.1 ≠ c ∧ p.2.men c = false := by
  intro p hp
  have := List.all_eq_true.1 h p hp
  simp only [Bool.and_eq_true, Bool.not_eq_true', beq_eq_false_iff_ne, ne_eq] at this
  exact this

theorem EnvOk.fresh {N : Fm} {ρ : Vl} {E : Env} {a : Act} (h : EnvOk N ρ E a) {c : Nat} (hf : freshE c E = true) (v : Value) : EnvOk N (Vl.upd ρ c v) E a :=
  h.upd fun p hp c' hc' => upd_ne ρ v fun e => by subst e; rw [freshE_spec hf p hp] at hc'; cases hc'

section
variable {A : Amb} {ρ : Vl} {w w' : World} {H : Hp}

theorem Holds.tot_lt (h : Holds A ρ w H) {b : Nat} (hb : A.m b ∨ Mine ρ H b) : b < w.heap.size := by
  rcases hb with hb | hb
  · exact Nat.lt_of_lt_of_le (h.m_lt b hb) h.frame.size
  · exact Mine.lt h hb

/-- Nothing that was there turns. -/
theorem Holds.calm (h : Holds A ρ w H) (ha : Agree (fun _ => False) w w') : Holds A ρ w' H := by
  refine ⟨h.frame.trans (ha.mono fun _ _ hf => hf.elim), h.nodup, fun p hp => ?_, h.apart, h.mine, h.mw_m, h.m_lt, h.pin, h.pin_lt⟩
  have hs := h.sat p hp
  by_cases ho : p.2.own = true
  · exact Ch.sat_own hs ho (fun b hb => ha.block b (Ch.own_lt hs ho hb) (fun hf => hf)) (fun _ _ => rfl)
  · exact Ch.sat_pers hs (by simpa using ho) (fun g => ha.mono fun _ _ hf => hf.elim) (fun g b hb => .inl hb) (fun _ _ => rfl)

/-- A new chunk, in new memory (or none). -/
theorem Holds.new (h : Holds A ρ w H) (ha : Agree (fun _ => False) w w') {c : Nat} (hf : freshH c H = true) (hc100 : 100 ≤ c) (v : Value) (ch : Ch)
    (hb : ch.own = true → ∀ b, blk v = some b → w.heap.size ≤ b)
    (hs : ch.sat (tot A (Vl.upd ρ c v) ((c, ch) :: H)) (Vl.upd ρ c v) w' v) : Holds A (Vl.upd ρ c v) w' ((c, ch) :: H) := by
  have hfr := freshH_spec hf
  have h100 : ∀ p ∈ A.pin, p.1 ≠ c := fun p hp => by have := h.pin_lt p hp; omega
  have hρ : ∀ p ∈ H, (Vl.upd ρ c v) p.1 = ρ p.1 := fun p hp => upd_ne ρ v (hfr p hp).1
  have hmine : ∀ b, Mine (Vl.upd ρ c v) ((c, ch) :: H) b → Mine ρ H b ∨ (ch.own = true ∧ blk v = some b) := by
    rintro b ⟨p, hp, ho, hbb⟩
    rcases List.mem_cons.1 hp with rfl | hp
    · right; rw [upd_same] at hbb; exact ⟨ho, hbb⟩
    · left; rw [hρ p hp] at hbb; exact ⟨p, hp, ho, hbb⟩
  refine ⟨h.frame.trans (ha.mono fun _ _ hf => hf.elim), ?_, ?_, ?_, ?_, h.mw_m, h.m_lt, fun p hp => (upd_ne ρ v (h100 p hp)).trans (h.pin p hp), h.pin_lt⟩
  · simp only [List.map_cons, List.nodup_cons]
    refine ⟨fun hm => ?_, h.nodup⟩
    obtain ⟨p, hp, e⟩ := List.mem_map.1 hm
    exact (hfr p hp).1 e
  · intro p hp
    rcases List.mem_cons.1 hp with rfl | hp'
    · rw [upd_same]; exact hs
    · rw [hρ p hp']
      have hs := h.sat p hp'
      have hm : ∀ c', p.2.men c' = true → (Vl.upd ρ c v) c' = ρ c' := fun c' hc' => upd_ne ρ v fun e => by subst e; rw [(hfr p hp').2] at hc'; cases hc'
      by_cases ho : p.2.own = true
      · exact Ch.sat_own hs ho (fun b hb => ha.block b (Ch.own_lt hs ho hb) (fun hf => hf)) hm
      · refine Ch.sat_pers hs (by simpa using ho) (fun g => ha.mono fun _ _ hf => hf.elim) (fun g b hbM => ?_) hm
        rcases hbM with hbM | hbM
        · exact .inl (.inl hbM)
        · rcases hmine b hbM with h1 | ⟨h1, h2⟩
          · exact .inl (.inr h1)
          · exact .inr (hb h1 b h2)
  · have key : ∀ q ∈ H, ch.own = true → q.2.own = true → ∀ b, blk v = some b → blk ((Vl.upd ρ c v) q.1) ≠ some b := by
      intro q hq ho hoq b hbb hqb
      rw [hρ q hq] at hqb
      have := Ch.own_lt (h.sat q hq) hoq hqb
      have := hb ho b hbb
      omega
    intro p hp q hq hop hoq hne b hbp
    rcases List.mem_cons.1 hp with rfl | hp <;> rcases List.mem_cons.1 hq with rfl | hq
    · exact absurd rfl hne
    · rw [upd_same] at hbp
      exact key q hq hop hoq b hbp
    · intro hbq
      rw [upd_same] at hbq
      exact key p hp hoq hop b hbq hbp
    · rw [hρ p hp] at hbp; rw [hρ q hq]
      exact h.apart p hp q hq hop hoq hne b hbp
  · intro b hb'
    rcases hmine b hb' with h1 | ⟨h1, h2⟩
    · exact h.mine b h1
    · exact .inl (Nat.le_trans h.frame.size (hb h1 b h2))

theorem hset_fst (H : Hp) (c : Nat) (y : Ch) : (hset H c y).map Prod.fst = H.map Prod.fst := by
  induction H with
  | nil => rfl
  | cons p r ih =>
    obtain ⟨k, x⟩ := p
    simp only [hset]
    split
    · simp
    · simp [ih]
theorem mem_hset {H : Hp} {c : Nat} {y : Ch} (hn : (H.map Prod.fst).Nodup) {p : Nat × Ch} (hp : p ∈ hset H c y) : p = (c, y) ∨ (p ∈ H ∧ p.1 ≠ c) := by
  induction H with
  | nil => simp [hset] at hp
  | cons q r ih =>
    obtain ⟨k, x⟩ := q
    simp only [List.map_cons, List.nodup_cons] at hn
    simp only [hset] at hp
    split at hp
    · rename_i e; subst e
      rcases List.mem_cons.1 hp with rfl | hp
      · exact .inl rfl
      · exact .inr ⟨List.mem_cons_of_mem _ hp, fun e => hn.1 (List.mem_map.2 ⟨p, hp, e⟩)⟩
    · rename_i e
      rcases List.mem_cons.1 hp with rfl | hp
      · exact .inr ⟨List.mem_cons_self, e⟩
      · rcases ih hn.2 hp with h1 | ⟨h1, h2⟩
        · exact .inl h1
        · exact .inr ⟨List.mem_cons_of_mem _ h1, h2⟩
theorem mem_hdel {H : Hp} {c : Nat} (hn : (H.map Prod.fst).Nodup) {p : Nat × Ch} (hp : p ∈ hdel H c) : p ∈ H ∧ p.1 ≠ c := by
  induction H with
  | nil => simp [hdel] at hp
  | cons q r ih =>
    obtain ⟨k, x⟩ := q
    simp only [List.map_cons, List.nodup_cons] at hn
    simp only [hdel] at hp
    split at hp
    · rename_i e; subst e
      exact ⟨List.mem_cons_of_mem _ hp, fun e => hn.1 (List.mem_map.2 ⟨p, hp, e⟩)⟩
    · rename_i e
      rcases List.mem_cons.1 hp with rfl | hp
      · exact ⟨List.mem_cons_self, e⟩
      · exact ⟨List.mem_cons_of_mem _ (ih hn.2 hp).1, (ih hn.2 hp).2⟩

/-- A chunk of one's own is written: its block alone turns. -/
theorem Holds.write (h : Holds A ρ w H) {c : Nat} {ch : Ch} (hc : hk H c = some ch) (ho : ch.own = true) (ha : Agree (fun b => blk (ρ c) = some b) w w') (ch' : Ch) (ho' : ch'.own = true)
    (hs : ch'.sat (tot A ρ (hset H c ch')) ρ w' (ρ c)) : Holds A ρ w' (hset H c ch') := by
  have hcm := hk_mem hc
  have hmine : ∀ b, Mine ρ (hset H c ch') b → Mine ρ H b := by
    rintro b ⟨p, hp, hop, hb⟩
    rcases mem_hset h.nodup hp with rfl | ⟨hp, _⟩
    · exact ⟨(c, ch), hcm, ho, hb⟩
    · exact ⟨p, hp, hop, hb⟩
  have hbm : ∀ b, blk (ρ c) = some b → Mine ρ H b := fun b hb => ⟨(c, ch), hcm, ho, hb⟩
  refine ⟨⟨ha.os.trans h.frame.os, ha.tape.trans h.frame.tape, ha.output.trans h.frame.output, Nat.le_trans h.frame.size ha.size, fun b hb hn => ?_⟩, by rw [hset_fst]; exact h.nodup, ?_, ?_, fun b hb => h.mine b (hmine b hb), h.mw_m, h.m_lt, h.pin, h.pin_lt⟩
  · refine (ha.block b (Nat.lt_of_lt_of_le hb h.frame.size) fun hf => ?_).trans (h.frame.block b hb hn)
    rcases h.mine b (hbm b hf) with h1 | h1
    · omega
    · exact hn h1
  · intro p hp
    rcases mem_hset h.nodup hp with rfl | ⟨hp, hne⟩
    · exact hs
    · have hsp := h.sat p hp
      by_cases hop : p.2.own = true
      · exact Ch.sat_own hsp hop (fun b hb => ha.block b (Ch.own_lt hsp hop hb) (fun hf => h.apart p hp _ hcm hop ho hne b hb hf)) (fun _ _ => rfl)
      · exact Ch.sat_pers hsp (by simpa using hop) (fun g => ha.mono fun b _ hf => .inr (hbm b hf)) (fun g b hb => by rcases hb with hb | hb; exact .inl (.inl hb); exact .inl (.inr (hmine b hb))) (fun _ _ => rfl)
  · intro p hp q hq hop hoq hne b hb
    rcases mem_hset h.nodup hp with rfl | ⟨hp, hpc⟩ <;> rcases mem_hset h.nodup hq with rfl | ⟨hq, hqc⟩
    · exact absurd rfl hne
    · exact h.apart _ hcm q hq ho hoq hne b hb
    · exact h.apart p hp _ hcm hop ho hne b hb
    · exact h.apart p hp q hq hop hoq hne b hb

/-- What is known is forgotten. -/
theorem Holds.sub {H' : Hp} (h : Holds A ρ w H) (hn : (H'.map Prod.fst).Nodup) (hs : ∀ p ∈ H', p ∈ H) : Holds A ρ w H' := by
  have hmine : ∀ b, Mine ρ H' b → Mine ρ H b := by
    rintro b ⟨p, hp, hop, hb⟩
    exact ⟨p, hs p hp, hop, hb⟩
  refine ⟨h.frame, hn, fun p hp => ?_, fun p hp q hq => h.apart p (hs p hp) q (hs q hq), fun b hb => h.mine b (hmine b hb), h.mw_m, h.m_lt, h.pin, h.pin_lt⟩
  have hsp := h.sat p (hs p hp)
  by_cases hop : p.2.own = true
  · exact Ch.sat_own hsp hop (fun _ _ => rfl) (fun _ _ => rfl)
  · exact Ch.sat_pers hsp (by simpa using hop) (fun g => Agree.refl _ _) (fun g b hb => by rcases hb with hb | hb; exact .inl (.inl hb); exact .inl (.inr (hmine b hb))) (fun _ _ => rfl)

/-- A slice of one's own is from here on only read. -/
theorem Holds.toRd (h : Holds A ρ w H) (hmw : ∀ b, ¬ A.mw b) {c : Nat} {τ : FTy} {e : TypeId} {xs : List τ.D} (hc : hk H c = some (.row τ e xs)) : Holds A ρ w (hset H c (.rd true τ xs)) := by
  have hcm := hk_mem hc
  have hmine : ∀ b, Mine ρ (hset H c (.rd true τ xs)) b → Mine ρ H b ∧ blk (ρ c) ≠ some b := by
    rintro b ⟨p, hp, hop, hb⟩
    rcases mem_hset h.nodup hp with rfl | ⟨hp, hne⟩
    · simp [Ch.own] at hop
    · exact ⟨⟨p, hp, hop, hb⟩, h.apart p hp _ hcm hop rfl hne b hb⟩
  refine ⟨h.frame, by rw [hset_fst]; exact h.nodup, ?_, ?_, fun b hb => h.mine b (hmine b hb).1, h.mw_m, h.m_lt, h.pin, h.pin_lt⟩
  · intro p hp
    rcases mem_hset h.nodup hp with rfl | ⟨hp, hne⟩
    · intro w' hw'
      have hsat := h.sat _ hcm
      refine sl_flat (M := fun _ _ => True) (ρ := ρ) (Ch.sat_own (M' := fun _ _ => True) (ρ' := ρ) hsat rfl (fun b hb => hw'.block b (Ch.own_lt hsat rfl hb) fun hf => ?_) (fun _ _ => rfl)) (.inl ⟨e, rfl⟩)
      rcases hf with hf | hf
      · rcases h.mine b ⟨_, hcm, rfl, hb⟩ with h1 | h1
        · have := h.m_lt b hf.2; omega
        · exact hmw b h1
      · exact (hmine b hf).2 hb
    · have hsp := h.sat p hp
      by_cases hop : p.2.own = true
      · exact Ch.sat_own hsp hop (fun _ _ => rfl) (fun _ _ => rfl)
      · exact Ch.sat_pers hsp (by simpa using hop) (fun g => Agree.refl _ _) (fun g b hb => by rcases hb with hb | hb; exact .inl (.inl hb); exact .inl (.inr (hmine b hb).1)) (fun _ _ => rfl)
  · intro p hp q hq hop hoq hne b hb
    rcases mem_hset h.nodup hp with rfl | ⟨hp, hpc⟩ <;> rcases mem_hset h.nodup hq with rfl | ⟨hq, hqc⟩
    · exact absurd rfl hne
    · simp [Ch.own] at hop
    · simp [Ch.own] at hoq
    · exact h.apart p hp q hq hop hoq hne b hb

end
end Go.Proofs.Ytgbmhfbfcbjccaa
