/- Plain laws: what a node's arcs are, counted. Conditions: none. -/
import Derived.Test.YtgbmhfbfcbjccaaWM
namespace Go.Proofs.Ytgbmhfbfcbjccaa
set_option linter.unusedSimpArgs false
set_option linter.unusedVariables false

def mk (m : Nat) (f : Nat → Int) : List Int := (List.range m).map f
theorem mk_len (m : Nat) (f : Nat → Int) : (mk m f).length = m := by simp [mk]
theorem mk_get {m i : Nat} (f : Nat → Int) (h : i < m) : (mk m f).getD i 0 = f i := by simp [mk, List.getD, h]
theorem mk_congr {m : Nat} {f g : Nat → Int} (h : ∀ a, a < m → f a = g a) : mk m f = mk m g := List.map_congr_left fun a ha => h a (List.mem_range.1 ha)
theorem mk_set {m i : Nat} (f : Nat → Int) (v : Int) : (mk m f).set i v = mk m (fun a => if a = i then v else f a) := by
  apply List.ext_getElem
  · simp [mk]
  · intro j h1 h2
    simp only [mk, List.length_set, List.length_map, List.length_range] at h1
    simp only [mk, List.getElem_set, List.getElem_map, List.getElem_range]
    by_cases e : i = j
    · subst e; simp
    · rw [if_neg e, if_neg (fun h => e h.symm)]
def keyA (o : Bool) (a : ArcD) : Int := if o = true then a.From else a.To
theorem mem_someL {n : Int} {rs : List ArcD} {x : Int} {k : Nat} (o : Bool) {a : Nat} : (a : Int) ∈ someL n rs x o (!o) k ↔ a < k ∧ fitB n rs a = true ∧ keyA o (rs.getD a ArcD.zero) = x := by
  unfold someL
  simp only [List.mem_map, List.mem_filter, List.mem_range, tch, Bool.and_eq_true, Bool.or_eq_true, decide_eq_true_eq]
  constructor
  · rintro ⟨b, ⟨h1, h2, h3⟩, h4⟩
    have : b = a := by omega
    subst this
    refine ⟨h1, h2, ?_⟩
    cases o <;> simp [keyA] at h3 ⊢ <;> exact h3
  · rintro ⟨h1, h2, h3⟩
    refine ⟨a, ⟨h1, h2, ?_⟩, rfl⟩
    cases o <;> simp [keyA] at h3 ⊢ <;> exact h3
theorem someL_nat {n : Int} {rs : List ArcD} {x : Int} {o i : Bool} {k : Nat} {a : Int} (h : a ∈ someL n rs x o i k) : ∃ b : Nat, a = b := by
  unfold someL at h
  obtain ⟨b, _, rfl⟩ := List.mem_map.1 h
  exact ⟨b, rfl⟩
theorem someL_lt (n : Int) (rs : List ArcD) (x : Int) (o i : Bool) (k : Nat) : (someL n rs x o i k).Pairwise (· < ·) := by
  unfold someL
  refine List.Pairwise.map _ (fun a b h => ?_) ((List.pairwise_lt_range).filter _)
  exact Int.ofNat_lt.2 h
theorem getD_not_take {l : List Int} (h : l.Pairwise (· < ·)) {k : Nat} (hk : k < l.length) : l.getD k 0 ∉ l.take k := by
  intro hm
  have e : l.getD k 0 = l[k] := by simp [List.getD, hk]
  rw [e] at hm
  obtain ⟨j, hj, he⟩ := List.mem_iff_getElem.1 hm
  simp only [List.length_take] at hj
  rw [List.getElem_take] at he
  have := List.pairwise_iff_getElem.1 h j k (by omega) hk (by omega)
  omega
theorem getD_mem {l : List Int} {k : Nat} (hk : k < l.length) : l.getD k 0 ∈ l := by
  have e : l.getD k 0 = l[k] := by simp [List.getD, hk]
  rw [e]; exact List.getElem_mem hk

/-- How often each arc has been met, nodes before x done, of x those in P. -/
def incL (rs : List ArcD) (o : Bool) (x : Int) (P : List Int) : List Int := mk rs.length fun a => (if keyA o (rs.getD a ArcD.zero) < x then 1 else 0) + (if (a : Int) ∈ P then 1 else 0)
theorem incL_len (rs : List ArcD) (o : Bool) (x : Int) (P : List Int) : (incL rs o x P).length = rs.length := mk_len _ _
theorem incL_step {n : Int} {rs : List ArcD} {o : Bool} {x : Int} {k : Nat} (hk : k < (someL n rs x o (!o) rs.length).length) :
    0 ≤ (someL n rs x o (!o) rs.length).getD k 0 ∧ ((someL n rs x o (!o) rs.length).getD k 0).toNat < rs.length ∧ (incL rs o x ((someL n rs x o (!o) rs.length).take k)).getD ((someL n rs x o (!o) rs.length).getD k 0).toNat 0 = 0 ∧
    (incL rs o x ((someL n rs x o (!o) rs.length).take k)).set ((someL n rs x o (!o) rs.length).getD k 0).toNat 1 = incL rs o x ((someL n rs x o (!o) rs.length).take (k + 1)) := by
  have hm := getD_mem hk
  have hn := getD_not_take (someL_lt n rs x o (!o) rs.length) hk
  have ht : (someL n rs x o (!o) rs.length).take (k + 1) = (someL n rs x o (!o) rs.length).take k ++ [(someL n rs x o (!o) rs.length).getD k 0] := take_snoc _ k 0 hk
  rw [ht]
  generalize (someL n rs x o (!o) rs.length).take k = P at *
  obtain ⟨b, hb⟩ := someL_nat hm
  rw [hb] at hm hn ⊢
  obtain ⟨h1, h2, h3⟩ := (mem_someL o).1 hm
  rw [Int.toNat_natCast]
  refine ⟨by omega, h1, ?_, ?_⟩
  · unfold incL
    rw [mk_get _ h1, if_neg (by rw [h3]; omega), if_neg hn]; rfl
  · unfold incL
    rw [mk_set]
    refine mk_congr fun a ha => ?_
    by_cases e : a = b
    · subst e
      rw [if_pos rfl, if_neg (by rw [h3]; omega), if_pos (by simp)]; rfl
    · rw [if_neg e]
      congr 1
      have : ((a : Int) ∈ P ++ [(b : Int)]) ↔ (a : Int) ∈ P := by
        simp only [List.mem_append, List.mem_singleton]
        constructor
        · rintro (h | h)
          · exact h
          · omega
        · exact .inl
      simp only [this]
theorem incL_next {n : Int} {rs : List ArcD} (hfit : ∀ a : Nat, a < rs.length → fitB n rs a = true) (o : Bool) (x : Int) : incL rs o x (someL n rs x o (!o) rs.length) = incL rs o (x + 1) [] := by
  refine mk_congr fun a ha => ?_
  have := mem_someL (n := n) (rs := rs) (x := x) (k := rs.length) o (a := a)
  have hf := hfit a ha
  by_cases h : keyA o (rs.getD a ArcD.zero) = x
  · rw [if_neg (by omega), if_pos (this.2 ⟨ha, hf, h⟩), if_pos (by omega), if_neg (by simp)]; rfl
  · rw [if_neg (c := (a : Int) ∈ someL n rs x o (!o) rs.length) (fun hm => h (this.1 hm).2.2), if_neg (c := (a : Int) ∈ ([] : List Int)) (by simp)]
    congr 1
    by_cases h2 : keyA o (rs.getD a ArcD.zero) < x
    · rw [if_pos h2, if_pos (by omega)]
    · rw [if_neg h2, if_neg (by omega)]
theorem key_fit {n : Int} {rs : List ArcD} {a : Nat} (h : fitB n rs a = true) (o : Bool) : 0 ≤ keyA o (rs.getD a ArcD.zero) ∧ keyA o (rs.getD a ArcD.zero) < n := by
  simp only [fitB, okArc, okN, Bool.and_eq_true, decide_eq_true_eq, Int.toNat_natCast] at h
  unfold keyA
  cases o
  · rw [if_neg (by simp)]; omega
  · rw [if_pos rfl]; omega
theorem incL_zero {n : Int} {rs : List ArcD} (hfit : ∀ a : Nat, a < rs.length → fitB n rs a = true) (o : Bool) : List.replicate rs.length 0 = incL rs o 0 [] := by
  unfold incL mk
  rw [List.map_congr_left (g := fun _ => (0 : Int)) (fun a ha => by
    have := key_fit (hfit a (List.mem_range.1 ha)) o
    rw [if_neg (by omega), if_neg (by simp)]; rfl), List.map_const', List.length_range]
theorem incL_end {n : Int} {rs : List ArcD} (hfit : ∀ a : Nat, a < rs.length → fitB n rs a = true) (o : Bool) {a : Nat} (ha : a < rs.length) : (incL rs o n []).getD a 0 = 1 := by
  unfold incL
  rw [mk_get _ ha]
  have := key_fit (hfit a ha) o
  rw [if_pos (by omega), if_neg (by simp)]; rfl
theorem other_other {n : Int} {rs : List ArcD} {x : Int} {k j : Nat} (hj : j < (someL n rs x true false k).length) : otherAt n rs ((someL n rs x true false k).getD j 0) (otherAt n rs ((someL n rs x true false k).getD j 0) x) = x := by
  have hm := getD_mem hj
  obtain ⟨b, hb⟩ := someL_nat hm
  rw [hb] at hm ⊢
  obtain ⟨_, h2, h3⟩ := (mem_someL true).1 hm
  simp only [keyA, if_true] at h3
  simp only [otherAt, h2, if_true, Int.toNat_natCast, h3]
  by_cases h4 : x = (rs.getD b ArcD.zero).To
  · rw [if_pos h4]; exact h4.symm
  · rw [if_neg h4]
theorem at_len (n : Int) (rs : List ArcD) (x : Int) (k : Nat) : ((someL n rs x true true k).length : Int) = (someL n rs x true false k).length + (someL n rs x false true k).length - loopsN n rs x k := by
  induction k with
  | zero => simp [someL, loopsN]
  | succ k ih =>
    rw [someL_succ, someL_succ, someL_succ, loopsN_succ]
    simp only [List.length_append, tch, Bool.true_and, Bool.false_and, Bool.or_false, Bool.false_or]
    cases hf : fitB n rs (k : Int)
    · simp; omega
    · by_cases h1 : (rs.getD k ArcD.zero).From = x <;> by_cases h2 : (rs.getD k ArcD.zero).To = x <;> simp [h1, h2, -List.getD_eq_getElem?_getD] <;> omega
theorem rsI_fit {c : List Int} (hc : byteL c) (d : List Int) (a : Nat) (h : a < (rsI c d).length) : fitB (supI c d).length (rsI c d) a = true := by
  have h1 := rsI_ok hc d a
  rw [supI_len]
  simp only [fitB, okArc, okN, Bool.and_eq_true, decide_eq_true_eq, Int.toNat_natCast]
  omega
end Go.Proofs.Ytgbmhfbfcbjccaa
