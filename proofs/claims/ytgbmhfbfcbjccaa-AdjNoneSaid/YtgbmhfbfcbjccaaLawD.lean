/- Plain laws: arcs turned round. Conditions: none. -/
import Derived.Test.YtgbmhfbfcbjccaaLawC
namespace Go.Proofs.Ytgbmhfbfcbjccaa
set_option linter.unusedSimpArgs false
set_option linter.unusedVariables false

theorem getD_seta {α : Type} (l : List α) (k : Nat) (a d : α) (h : k < l.length) : (l.set k a).getD k d = a := by simp [List.getD, h]
def turnA (a : ArcD) : ArcD := ⟨a.To, a.From, a.Low, a.Cap, a.Cost⟩
def tl (rs : List ArcD) (k : Nat) : List ArcD := (rs.map turnA).take k ++ rs.drop k
theorem tl_zero (rs : List ArcD) : tl rs 0 = rs := by simp [tl]
theorem tl_all (rs : List ArcD) : tl rs rs.length = rs.map turnA := by
  unfold tl
  rw [List.drop_length, List.append_nil, List.take_of_length_le (by simp)]
theorem tl_len (rs : List ArcD) (k : Nat) : (tl rs k).length = rs.length := by simp [tl]; omega
theorem tl_get {rs : List ArcD} {k : Nat} (h : k < rs.length) : (tl rs k).getD k ArcD.zero = rs.getD k ArcD.zero := by
  unfold tl
  simp only [List.getD_eq_getElem?_getD]
  rw [List.getElem?_append_right (by simp; omega)]
  simp only [List.length_take, List.length_map, List.getElem?_drop]
  rw [show k + (k - min k rs.length) = k by omega]
theorem tl_set {rs : List ArcD} {k : Nat} (h : k < rs.length) : (tl rs k).set k (turnA (rs.getD k ArcD.zero)) = tl rs (k + 1) := by
  have e : rs.getD k ArcD.zero = rs[k] := by simp [List.getD, h]
  rw [e]
  apply List.ext_getElem?
  intro j
  simp only [tl, List.getElem?_set, List.length_append, List.length_take, List.length_map, List.length_drop]
  by_cases hj : k = j
  · subst hj
    rw [if_pos rfl, if_pos (by omega), List.getElem?_append_left (by simp; omega), List.getElem?_take_of_lt (by omega), List.getElem?_map, List.getElem?_eq_getElem h]; rfl
  · rw [if_neg hj]
    by_cases hlt : j < k
    · rw [List.getElem?_append_left (by simp; omega), List.getElem?_append_left (by simp; omega), List.getElem?_take_of_lt hlt, List.getElem?_take_of_lt (by omega)]
    · rw [List.getElem?_append_right (by simp; omega), List.getElem?_append_right (by simp; omega)]
      simp only [List.length_take, List.length_map, List.getElem?_drop]
      congr 1; omega
theorem turn_get (rs : List ArcD) (a : Nat) : (rs.map turnA).getD a ArcD.zero = turnA (rs.getD a ArcD.zero) := by
  simp only [List.getD_eq_getElem?_getD, List.getElem?_map]
  cases rs[a]? <;> rfl
theorem turn_fit (n : Int) (rs : List ArcD) (a : Int) : fitB n (rs.map turnA) a = fitB n rs a := by
  simp only [fitB, List.length_map, turn_get, okArc, turnA]
  rw [Bool.and_comm (okN n (rs.getD a.toNat ArcD.zero).To)]
theorem turn_some (n : Int) (rs : List ArcD) (x : Int) (o i : Bool) (k : Nat) : someL n (rs.map turnA) x o i k = someL n rs x i o k := by
  unfold someL
  congr 1
  refine List.filter_congr fun a _ => ?_
  simp only [tch, turn_fit, turn_get, turnA]
  rw [Bool.or_comm]
theorem turn_loops (n : Int) (rs : List ArcD) (x : Int) (k : Nat) : loopsN n (rs.map turnA) x k = loopsN n rs x k := by
  unfold loopsN
  congr 2
  refine List.filter_congr fun a _ => ?_
  simp only [lpB, turn_fit, turn_get, turnA]
  rw [Bool.and_assoc, Bool.and_assoc, Bool.and_comm (decide _)]
theorem someL_off {n : Nat} {rs : List ArcD} {x : Int} (h : okN (n : Int) x = false) (o i : Bool) (k : Nat) : someL n rs x o i k = [] := by
  unfold someL
  rw [List.filter_eq_nil_iff.2]
  · rfl
  · intro a _ ht
    simp only [tch, Bool.and_eq_true, Bool.or_eq_true, decide_eq_true_eq] at ht
    obtain ⟨h1, h2⟩ := ht
    have h3 := fit_ends h1
    simp only [okN, Bool.and_eq_false_iff, decide_eq_false_iff_not] at h
    rcases h2 with ⟨_, h2⟩ | ⟨_, h2⟩ <;> omega
theorem loopsN_off {n : Nat} {rs : List ArcD} {x : Int} (h : okN (n : Int) x = false) (k : Nat) : loopsN n rs x k = 0 := by
  have := cnt_loops n rs x k
  rw [someL_off h] at this
  rw [← this]; rfl
theorem other_off {n : Int} {rs : List ArcD} {x : Int} (h : okN n x = false) (a : Int) : otherAt n rs a x = -1 := by
  unfold otherAt
  split
  · rename_i hf
    simp only [okN, Bool.and_eq_false_iff, decide_eq_false_iff_not] at h
    simp only [fitB, okArc, okN, Bool.and_eq_true, decide_eq_true_eq] at hf
    rw [if_neg (by omega), if_neg (by omega)]
  · rfl
end Go.Proofs.Ytgbmhfbfcbjccaa
