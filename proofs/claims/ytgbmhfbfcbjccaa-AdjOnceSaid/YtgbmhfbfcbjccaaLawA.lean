/- Counting sort of arcs by nodes: the plain law. Conditions: none but what a theorem says; plain theorems. -/
import Derived.Test.YtgbmhfbfcbjccaaDef
namespace Go.Proofs.Ytgbmhfbfcbjccaa
set_option linter.unusedSimpArgs false
set_option linter.unusedVariables false
open Go.RowKit

def keyO (x : ArcD) : Nat := 2 * x.From.toNat
def keyI (x : ArcD) : Nat := 2 * x.To.toNat + 1
def putsAt (n : Int) (rs : List ArcD) (a : Nat) : List (Nat × Nat) := if fitB n rs (a : Int) then [(keyO (rs.getD a ArcD.zero), a), (keyI (rs.getD a ArcD.zero), a)] else []
def puts (n : Int) (rs : List ArcD) (k : Nat) : List (Nat × Nat) := (List.range k).flatMap (putsAt n rs)
def cnt (P : List (Nat × Nat)) (j : Nat) : Nat := (P.filter fun p => p.1 == j).length
def pre (P : List (Nat × Nat)) (j : Nat) : Nat := (P.filter fun p => decide (p.1 < j)).length
def sel (P : List (Nat × Nat)) (j : Nat) : List Int := (P.filter fun p => p.1 == j).map fun p => (p.2 : Int)

theorem puts_succ (n : Int) (rs : List ArcD) (k : Nat) : puts n rs (k + 1) = puts n rs k ++ putsAt n rs k := by
  simp [puts, List.range_succ, List.flatMap_append]
theorem cnt_append (P Q : List (Nat × Nat)) (j : Nat) : cnt (P ++ Q) j = cnt P j + cnt Q j := by simp [cnt]
theorem sel_append (P Q : List (Nat × Nat)) (j : Nat) : sel (P ++ Q) j = sel P j ++ sel Q j := by simp [sel]
theorem sel_len (P : List (Nat × Nat)) (j : Nat) : (sel P j).length = cnt P j := by simp [sel, cnt]
theorem cnt_nil (j : Nat) : cnt [] j = 0 := rfl
theorem cnt_one (p : Nat × Nat) (j : Nat) : cnt [p] j = if p.1 = j then 1 else 0 := by
  simp only [cnt, List.filter_cons, List.filter_nil, beq_iff_eq]
  split <;> simp
theorem sel_one (p : Nat × Nat) (j : Nat) : sel [p] j = if p.1 = j then [(p.2 : Int)] else [] := by
  simp only [sel, List.filter_cons, List.filter_nil, beq_iff_eq]
  split <;> simp
theorem pre_zero (P : List (Nat × Nat)) : pre P 0 = 0 := by simp [pre]
theorem pre_succ (P : List (Nat × Nat)) (j : Nat) : pre P (j + 1) = pre P j + cnt P j := by
  induction P with
  | nil => rfl
  | cons p P ih =>
    simp only [pre, cnt, List.filter_cons, decide_eq_true_eq, beq_iff_eq] at ih ⊢
    by_cases h1 : p.1 < j
    · rw [if_pos (by omega), if_pos h1, if_neg (by omega)]
      simp only [List.length_cons]; omega
    · by_cases h2 : p.1 = j
      · rw [if_pos (by omega), if_neg h1, if_pos h2]
        simp only [List.length_cons]; omega
      · rw [if_neg (by omega), if_neg h1, if_neg h2]
        exact ih
theorem pre_mono (P : List (Nat × Nat)) {i j : Nat} (h : i ≤ j) : pre P i ≤ pre P j := by
  obtain ⟨d, rfl⟩ := Nat.le.dest h
  induction d with
  | zero => exact Nat.le_refl _
  | succ d ih =>
    have := pre_succ P (i + d)
    have := ih (by omega)
    rw [show i + (d + 1) = i + d + 1 from by omega]
    omega
theorem pre_le (P : List (Nat × Nat)) (j : Nat) : pre P j ≤ P.length := List.length_filter_le _ _
theorem cnt_le (P : List (Nat × Nat)) (j : Nat) : cnt P j ≤ P.length := List.length_filter_le _ _
theorem puts_len (n : Int) (rs : List ArcD) (k : Nat) : (puts n rs k).length ≤ 2 * k := by
  induction k with
  | zero => simp [puts]
  | succ k ih =>
    rw [puts_succ, List.length_append]
    have : (putsAt n rs k).length ≤ 2 := by unfold putsAt; split <;> simp
    omega
theorem fit_ends {n : Nat} {rs : List ArcD} {a : Nat} (h : fitB n rs (a : Int) = true) : a < rs.length ∧ 0 ≤ (rs.getD a ArcD.zero).From ∧ (rs.getD a ArcD.zero).From < n ∧ 0 ≤ (rs.getD a ArcD.zero).To ∧ (rs.getD a ArcD.zero).To < n := by
  simp only [fitB, okN, okArc, Bool.and_eq_true, decide_eq_true_eq, Int.toNat_natCast] at h
  omega

theorem puts_split (n : Int) (rs : List ArcD) {k m : Nat} (h : k < m) : ∃ R, puts n rs m = puts n rs k ++ (putsAt n rs k ++ R) := by
  induction m with
  | zero => omega
  | succ m ih =>
    rcases Nat.lt_or_ge k m with h1 | h1
    · obtain ⟨R, hR⟩ := ih h1
      exact ⟨R ++ putsAt n rs m, by rw [puts_succ, hR]; simp⟩
    · obtain rfl : k = m := by omega
      exact ⟨[], by rw [puts_succ, List.append_nil]⟩
/-! ### Counting -/
def bump (st : List Int) (i : Nat) : List Int := st.set i (IntKind.i64.wrap (st.getD i 0 + 1))
theorem getD_set (l : List Int) (i j : Nat) (v : Int) (h : i < l.length) : (l.set i v).getD j 0 = if i = j then v else l.getD j 0 := by
  rw [List.getD_eq_getElem?_getD, List.getD_eq_getElem?_getD, List.getElem?_set]
  split
  · subst_vars; first | rfl | (rw [if_pos h]; rfl)
  · rfl
theorem bump_len (st : List Int) (i : Nat) : (bump st i).length = st.length := by simp [bump]
theorem bump_get {st : List Int} {i : Nat} (h : i < st.length) {c : Nat} (hc : st.getD i 0 = c) (hs : c ≤ 100000000) (j : Nat) : (bump st i).getD j 0 = if i = j then ((c + 1 : Nat) : Int) else st.getD j 0 := by
  unfold bump
  rw [getD_set _ _ _ _ h, hc, wrap64 (by omega) (by omega)]
  simp

/-- Counted so far. -/
def J1 (n : Nat) (P : List (Nat × Nat)) (st : List Int) : Prop := st.length = 2 * n + 1 ∧ st.getD 0 0 = 0 ∧ ∀ j, j < 2 * n → st.getD (j + 1) 0 = (cnt P j : Int)
theorem J1_zero (n : Nat) : J1 n [] (List.replicate (2 * n + 1) 0) := by
  refine ⟨by simp, ?_, fun j hj => ?_⟩ <;> simp [cnt_nil, List.getD_eq_getElem?_getD, List.getElem?_replicate] <;> split <;> simp
theorem J1_put {n : Nat} {P : List (Nat × Nat)} {st : List Int} (h : J1 n P st) (hP : P.length ≤ 10000000) (p : Nat × Nat) (hp : p.1 < 2 * n) : J1 n (P ++ [p]) (bump st (p.1 + 1)) := by
  obtain ⟨h1, h2, h3⟩ := h
  have hc := cnt_le P p.1
  refine ⟨by rw [bump_len]; exact h1, ?_, fun j hj => ?_⟩
  · rw [bump_get (by omega) (h3 p.1 hp) (by omega), if_neg (by omega)]; exact h2
  · rw [bump_get (by omega) (h3 p.1 hp) (by omega), cnt_append, cnt_one]
    by_cases e : p.1 = j
    · subst e; rw [if_pos rfl, if_pos rfl]
    · rw [if_neg (by omega), if_neg e, h3 j hj]; simp

/-- Added up so far. -/
def J2 (n : Nat) (P : List (Nat × Nat)) (k : Nat) (st : List Int) : Prop := st.length = 2 * n + 1 ∧ (∀ j, j ≤ k → j ≤ 2 * n → st.getD j 0 = (pre P j : Int)) ∧ ∀ j, k ≤ j → j < 2 * n → st.getD (j + 1) 0 = (cnt P j : Int)
theorem J2_of_J1 {n : Nat} {P : List (Nat × Nat)} {st : List Int} (h : J1 n P st) : J2 n P 0 st := by
  obtain ⟨h1, h2, h3⟩ := h
  refine ⟨h1, fun j hj _ => ?_, fun j _ hj => h3 j hj⟩
  obtain rfl : j = 0 := by omega
  rw [h2, pre_zero]; rfl
theorem J2_step {n : Nat} {P : List (Nat × Nat)} {k : Nat} {st : List Int} (h : J2 n P k st) (hk : k < 2 * n) (hP : P.length ≤ 10000000) : J2 n P (k + 1) (st.set (k + 1) (IntKind.i64.wrap (st.getD (k + 1) 0 + st.getD k 0))) := by
  obtain ⟨h1, h2, h3⟩ := h
  have e1 := h3 k (Nat.le_refl _) hk
  have e2 := h2 k (Nat.le_refl _) (by omega)
  have hc := cnt_le P k
  have hp := pre_le P k
  have hw : IntKind.i64.wrap (st.getD (k + 1) 0 + st.getD k 0) = (pre P (k + 1) : Int) := by
    rw [e1, e2, wrap64 (by omega) (by omega), pre_succ]; omega
  rw [hw]
  refine ⟨by simp [h1], fun j hj hj2 => ?_, fun j hj hj2 => ?_⟩
  · rw [getD_set _ _ _ _ (by omega)]
    by_cases e : k + 1 = j
    · subst e; rw [if_pos rfl]
    · rw [if_neg e]; exact h2 j (by omega) hj2
  · rw [getD_set _ _ _ _ (by omega), if_neg (by omega)]
    exact h3 j (by omega) hj2

/-- Laid down so far. -/
structure J3 (n : Nat) (P Q : List (Nat × Nat)) (nx ls : List Int) : Prop where
  nlen : nx.length = 2 * n + 1
  llen : ls.length = pre P (2 * n)
  next : ∀ j, j < 2 * n → nx.getD j 0 = ((pre P j + cnt Q j : Nat) : Int)
  laid : ∀ j, j < 2 * n → ∀ i, i < cnt Q j → ls.getD (pre P j + i) 0 = (sel Q j).getD i 0
theorem J3_zero {n : Nat} {P : List (Nat × Nat)} {st : List Int} (h : J2 n P (2 * n) st) : J3 n P [] st (List.replicate (pre P (2 * n)) 0) := by
  obtain ⟨h1, h2, h3⟩ := h
  refine ⟨h1, by simp, fun j hj => by rw [h2 j (by omega) (by omega), cnt_nil, Nat.add_zero], fun j hj i hi => by simp [cnt_nil] at hi⟩
theorem J3_put {n : Nat} {P Q R : List (Nat × Nat)} {nx ls : List Int} {p : Nat × Nat} (h : J3 n P Q nx ls) (hP : P = Q ++ p :: R) (hlen : P.length ≤ 10000000) (hp : p.1 < 2 * n) :
    (0 ≤ nx.getD p.1 0 ∧ nx.getD p.1 0 < ls.length) ∧ J3 n P (Q ++ [p]) (nx.set p.1 (nx.getD p.1 0 + 1)) (ls.set (nx.getD p.1 0).toNat (p.2 : Int)) := by
  obtain ⟨h1, h2, h3, h4⟩ := h
  have hcp : cnt P p.1 = cnt Q p.1 + 1 + cnt R p.1 := by
    rw [hP, cnt_append, show p :: R = [p] ++ R from rfl, cnt_append, cnt_one, if_pos rfl]; omega
  have hx := h3 p.1 hp
  have hs := pre_succ P p.1
  have hm := pre_mono P (show p.1 + 1 ≤ 2 * n from hp)
  have hpl := pre_le P (2 * n)
  have hb : pre P p.1 + cnt Q p.1 < ls.length := by omega
  have htn : (nx.getD p.1 0).toNat = pre P p.1 + cnt Q p.1 := by rw [hx]; omega
  refine ⟨by rw [hx]; omega, ⟨by simp [h1], by simp [h2], fun j hj => ?_, fun j hj i hi => ?_⟩⟩
  · rw [getD_set _ _ _ _ (by omega), cnt_append, cnt_one]
    by_cases e : p.1 = j
    · subst e; rw [if_pos rfl, if_pos rfl, hx]; omega
    · rw [if_neg e, if_neg e, h3 j hj]; simp
  · rw [htn, getD_set _ _ _ _ hb, sel_append, sel_one]
    rw [cnt_append, cnt_one] at hi
    have hlj := sel_len Q j
    by_cases e : p.1 = j
    · subst e
      rw [if_pos rfl] at hi ⊢
      by_cases e2 : i = cnt Q p.1
      · subst e2
        rw [if_pos rfl, List.getD_eq_getElem?_getD, List.getElem?_append_right (by omega), hlj, Nat.sub_self]; rfl
      · rw [if_neg (by omega), h4 p.1 hj i (by omega), List.getD_eq_getElem?_getD, List.getD_eq_getElem?_getD, List.getElem?_append_left (by omega)]
    · rw [if_neg e] at hi ⊢
      have hne : ¬ pre P p.1 + cnt Q p.1 = pre P j + i := by
        rcases Nat.lt_or_ge p.1 j with hlt | hge
        · have := pre_mono P (show p.1 + 1 ≤ j from hlt); omega
        · have hlt : j + 1 ≤ p.1 := by omega
          have := pre_mono P hlt
          have hsj := pre_succ P j
          have hcj : cnt Q j ≤ cnt P j := by rw [hP, cnt_append]; omega
          omega
      rw [if_neg hne, List.append_nil, h4 j hj i (by simpa using hi)]

/-! ### What a graph's lists say -/
structure GOK (n : Nat) (rs : List ArcD) (ls st : List Int) : Prop where
  len : st.length = 2 * n + 1
  mono : ∀ j, j < 2 * n → 0 ≤ st.getD j 0 ∧ st.getD j 0 ≤ st.getD (j + 1) 0 ∧ st.getD (j + 1) 0 ≤ ls.length
  piece : ∀ x, x < n → ∀ o : Bool, (ls.take (st.getD (2 * x + (if o then 0 else 1) + 1) 0).toNat).drop (st.getD (2 * x + (if o then 0 else 1)) 0).toNat = someL n rs x o (!o) rs.length
theorem sel_some (n : Nat) (rs : List ArcD) (x : Nat) (o : Bool) (k : Nat) : sel (puts n rs k) (2 * x + (if o then 0 else 1)) = someL n rs x o (!o) k := by
  induction k with
  | zero => simp [puts, sel, someL]
  | succ k ih =>
    rw [puts_succ, sel_append, ih, someL_succ]
    congr 1
    unfold putsAt
    by_cases hf : fitB n rs (k : Int) = true
    · obtain ⟨_, f1, f2, t1, t2⟩ := fit_ends hf
      rw [if_pos hf, show ([(keyO (rs.getD k ArcD.zero), k), (keyI (rs.getD k ArcD.zero), k)] : List (Nat × Nat)) = [(keyO (rs.getD k ArcD.zero), k)] ++ [(keyI (rs.getD k ArcD.zero), k)] from rfl, sel_append, sel_one, sel_one]
      cases o
      · simp only [tch, hf, keyO, keyI, Bool.false_eq_true, if_false, Bool.false_and, Bool.not_false, Bool.true_and, Bool.false_or, decide_eq_true_eq]
        rw [if_neg (by omega), List.nil_append]
        by_cases e : (rs.getD k ArcD.zero).To = x
        · rw [if_pos (by omega), if_pos e]
        · rw [if_neg (by omega), if_neg e]
      · simp only [tch, hf, keyO, keyI, if_true, Bool.true_and, Bool.not_true, Bool.false_and, Bool.or_false, decide_eq_true_eq]
        rw [if_neg (show ¬ 2 * (rs.getD k ArcD.zero).To.toNat + 1 = 2 * x + 0 by omega), List.append_nil]
        by_cases e : (rs.getD k ArcD.zero).From = x
        · rw [if_pos (by omega), if_pos e]
        · rw [if_neg (by omega), if_neg e]
    · rw [if_neg hf]
      simp [sel, tch, hf]
theorem GOK_of {n : Nat} {rs : List ArcD} {st nx ls : List Int} (h2 : J2 n (puts n rs rs.length) (2 * n) st) (h3 : J3 n (puts n rs rs.length) (puts n rs rs.length) nx ls) : GOK n rs ls st := by
  obtain ⟨a1, a2, _⟩ := h2
  refine ⟨a1, fun j hj => ?_, fun x hx o => ?_⟩
  · have e1 := a2 j (by omega) (by omega)
    have e2 := a2 (j + 1) (by omega) (by omega)
    have m1 := pre_mono (puts n rs rs.length) (show j ≤ j + 1 by omega)
    have m2 := pre_mono (puts n rs rs.length) (show j + 1 ≤ 2 * n by omega)
    have := h3.llen
    omega
  · rw [← sel_some]
    generalize hj : 2 * x + (if o = true then 0 else 1) = j
    have hjn : j < 2 * n := by cases o <;> simp at hj <;> omega
    have e1 := a2 j (by omega) (by omega)
    have e2 := a2 (j + 1) (by omega) (by omega)
    rw [e1, e2, Int.toNat_natCast, Int.toNat_natCast]
    have hs := pre_succ (puts n rs rs.length) j
    have m2 := pre_mono (puts n rs rs.length) (show j + 1 ≤ 2 * n by omega)
    have hl := h3.llen
    have hsl := sel_len (puts n rs rs.length) j
    apply List.ext_getElem?
    intro i
    rw [List.getElem?_drop, List.getElem?_take]
    by_cases hi : i < cnt (puts n rs rs.length) j
    · rw [if_pos (by omega)]
      have := h3.laid j hjn i hi
      rw [List.getD_eq_getElem?_getD, List.getD_eq_getElem?_getD, List.getElem?_eq_getElem (by omega), List.getElem?_eq_getElem (by omega)] at this
      rw [List.getElem?_eq_getElem (by omega), List.getElem?_eq_getElem (by omega)]
      simpa using this
    · rw [if_neg (by omega), List.getElem?_eq_none (by omega)]
end Go.Proofs.Ytgbmhfbfcbjccaa
