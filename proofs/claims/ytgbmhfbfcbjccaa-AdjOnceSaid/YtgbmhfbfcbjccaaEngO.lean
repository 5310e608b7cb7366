/- The engine's changes of what is known: nil slices in variables, what nobody writes any more. Conditions: none; plain theorems. -/
import Derived.Test.YtgbmhfbfcbjccaaEngN
namespace Go.Proofs.Ytgbmhfbfcbjccaa
set_option linter.unusedSimpArgs false
set_option linter.unusedVariables false
open Go.RowKit

section
variable {A : Amb} {ρ : Vl} {w : World} {H : Hp} {E : Env} {N : Fm} {C : Cfg}
/-- One chunk as another one that says the same. -/
theorem Holds.swap (h : Holds A ρ w H) {c : Nat} {ch ch' : Ch} (hc : hk H c = some ch) (ho : ch'.own = ch.own) (hs : ∀ M, ch.sat M ρ w (ρ c) → ch'.sat M ρ w (ρ c)) : Holds A ρ w (hset H c ch') := by
  have hcm := hk_mem hc
  have hmine : ∀ b, Mine ρ (hset H c ch') b → Mine ρ H b := by
    rintro b ⟨p, hp, hop, hb⟩
    rcases mem_hset h.nodup hp with rfl | ⟨hp, hne⟩
    · exact ⟨_, hcm, by rw [← ho]; exact hop, hb⟩
    · exact ⟨p, hp, hop, hb⟩
  refine ⟨h.frame, by rw [hset_fst]; exact h.nodup, ?_, ?_, fun b hb => h.mine b (hmine b hb), h.mw_m, h.m_lt, h.pin, h.pin_lt⟩
  · intro p hp
    have htot : ∀ g b, tot A ρ (hset H c ch') g b → tot A ρ H g b := fun g b hb => hb.imp id (hmine b)
    rcases mem_hset h.nodup hp with rfl | ⟨hp, hne⟩
    · have h1 := hs _ (h.sat _ hcm)
      by_cases hop : ch'.own = true
      · exact Ch.sat_own h1 hop (fun _ _ => rfl) (fun _ _ => rfl)
      · exact Ch.sat_pers h1 (by simpa using hop) (fun g => Agree.refl _ _) (fun g b hb => .inl (htot g b hb)) (fun _ _ => rfl)
    · have hsp := h.sat p hp
      by_cases hop : p.2.own = true
      · exact Ch.sat_own hsp hop (fun _ _ => rfl) (fun _ _ => rfl)
      · exact Ch.sat_pers hsp (by simpa using hop) (fun g => Agree.refl _ _) (fun g b hb => .inl (htot g b hb)) (fun _ _ => rfl)
  · intro p hp q hq hop hoq hne b hb
    rcases mem_hset h.nodup hp with rfl | ⟨hp, hpc⟩ <;> rcases mem_hset h.nodup hq with rfl | ⟨hq, hqc⟩
    · exact absurd rfl hne
    · exact h.apart _ hcm q hq (by rw [← ho]; exact hop) hoq hne b hb
    · exact h.apart p hp _ hcm hop (by rw [← ho]; exact hoq) hne b hb
    · exact h.apart p hp q hq hop hoq hne b hb

/-- A nil slice that lies in a variable, as an empty one of one's own. -/
theorem X_adoptBox {c : Code} {Q : Exit → Env → Hp → Prop} (k i d : Nat) (τ : FTy) (e : TypeId) {l : List At} {ty : TypeId} (hb : hk H k = some (.box l ty)) (hi : l[i]? = some (.v (.slice none 0 0))) (hf : frsh (cid d) E H)
    (h : X C A N c E (hset ((cid d, .row τ e []) :: H) k (.box (l.set i (.ref (cid d))) ty)) Q) : X C A N c E H Q := by
  intro ρ w a h1 h2
  obtain ⟨k1, k2⟩ := h1.newRow h2 hf (Agree.refl _ w) (.slice none 0 0) τ e [] (World.ownsRow_nil w _ _ _)
  have hne : cid d ≠ k := fun e => by
    have := freshH_spec hf.2 _ (hk_mem hb)
    exact this.1 e.symm
  have hb' : hk ((cid d, Ch.row τ e []) :: H) k = some (.box l ty) := by
    simp only [hk, hne, if_false]; exact hb
  refine h _ w a (k1.swap hb' rfl fun M hs => ?_) k2
  obtain ⟨b, hv, hh⟩ := hs
  refine ⟨b, hv, ?_⟩
  have hd : denL (Vl.upd ρ (cid d) (.slice none 0 0)) (l.set i (.ref (cid d))) = denL (Vl.upd ρ (cid d) (.slice none 0 0)) l := by
    unfold denL
    rw [List.map_set]
    apply List.ext_getElem?
    intro j
    rw [List.getElem?_set]
    split
    · rename_i e; subst e
      split
      · rw [List.getElem?_map, hi]
        simp [At.den, upd_same]
      · rename_i hlt
        rw [List.getElem?_eq_none (by simpa using hlt)]
    · rfl
  rw [hd]; exact hh

theorem Holds.toRbox (h : Holds A ρ w H) (hmw : ∀ b, ¬ A.mw b) {c : Nat} {l : List At} {ty : TypeId} (hc : hk H c = some (.box l ty)) : Holds A ρ w (hset H c (.rbox true l)) := by
  have hcm := hk_mem hc
  have hmine : ∀ b, Mine ρ (hset H c (.rbox true l)) b → Mine ρ H b ∧ blk (ρ c) ≠ some b := by
    rintro b ⟨p, hp, hop, hb⟩
    rcases mem_hset h.nodup hp with rfl | ⟨hp, hne⟩
    · simp [Ch.own] at hop
    · exact ⟨⟨p, hp, hop, hb⟩, h.apart p hp _ hcm hop rfl hne b hb⟩
  refine ⟨h.frame, by rw [hset_fst]; exact h.nodup, ?_, ?_, fun b hb => h.mine b (hmine b hb).1, h.mw_m, h.m_lt, h.pin, h.pin_lt⟩
  · intro p hp
    rcases mem_hset h.nodup hp with rfl | ⟨hp, hne⟩
    · have hsat := h.sat _ hcm
      obtain ⟨b, hv, hh⟩ := hsat
      refine ⟨b, 0, hv, fun w' hw' j u hu => ?_⟩
      have hbl : blk (ρ c) = some b := by rw [hv]; rfl
      have hlt : b < w.heap.size := (Array.getElem?_eq_some_iff.1 hh).1
      have hbk := hw'.block b hlt fun hf => by
        rcases hf with hf | hf
        · rcases h.mine b ⟨_, hcm, rfl, hbl⟩ with h1 | h1
          · have := h.m_lt b hf.2; omega
          · exact hmw b h1
        · exact (hmine b hf).2 hbl
      rw [hh] at hbk
      have hc' : w'.cell? ⟨b, 0 + j, none⟩ = ((denL ρ l).toArray)[0 + j]? := by
        simp only [World.cell?, hbk]; rfl
      rw [hc', Nat.zero_add]
      simpa using hu
    · have hsp := h.sat p hp
      by_cases hop : p.2.own = true
      · exact Ch.sat_own hsp hop (fun _ _ => rfl) (fun _ _ => rfl)
      · exact Ch.sat_pers hsp (by simpa using hop) (fun g => Agree.refl _ _) (fun g b hb => by rcases hb with hb | hb; exact .inl (.inl hb); exact .inl (.inr (hmine b hb).1)) (fun _ _ => rfl)
  · intro p hp q hq hop hoq hne b hb
    rcases mem_hset h.nodup hp with rfl | ⟨hp, hpc⟩ <;> rcases mem_hset h.nodup hq with rfl | ⟨hq, hqc⟩
    · exact absurd rfl hne
    · simp [Ch.own] at hop
    · simp [Ch.own] at hoq
    · exact h.apart p hp q hq hop hoq hne b hb
theorem ent_toRbox {s : SV} {H : Hp} {c : Nat} {l : List At} {ty : TypeId} (hc : hk H c = some (.box l ty)) : Ent s H s (hset H c (.rbox true l)) :=
  fun _ ρ _ hmw _ g => ⟨ρ, rfl, g.toRbox hmw hc⟩
/-- Nobody writes it any more. -/
theorem X_toRd {c : Code} {Q : Exit → Env → Hp → Prop} (hmw : ∀ b, ¬ A.mw b) {k : Nat} {τ : FTy} {e : TypeId} {xs : List τ.D} (hc : hk H k = some (.row τ e xs)) (h : X C A N c E (hset H k (.rd true τ xs)) Q) : X C A N c E H Q :=
  fun ρ w a h1 h2 => h ρ w a (h1.toRd hmw hc) h2
theorem X_toRbox {c : Code} {Q : Exit → Env → Hp → Prop} (hmw : ∀ b, ¬ A.mw b) {k : Nat} {l : List At} {ty : TypeId} (hc : hk H k = some (.box l ty)) (h : X C A N c E (hset H k (.rbox true l)) Q) : X C A N c E H Q :=
  fun ρ w a h1 h2 => h ρ w a (h1.toRbox hmw hc) h2
/-- Another way to write down what is known. -/
theorem X_as {c : Code} {Q : Exit → Env → Hp → Prop} {E' : Env} {H' : Hp} (hE : E = E') (hH : H = H') (h : X C A N c E' H' Q) : X C A N c E H Q := by subst hE; subst hH; exact h
end
end Go.Proofs.Ytgbmhfbfcbjccaa
