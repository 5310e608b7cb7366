/- Plain laws: what touches a node, in order. Conditions: none. -/
import Derived.Test.YtgbmhfbfcbjccaaWI
namespace Go.Proofs.Ytgbmhfbfcbjccaa
set_option linter.unusedSimpArgs false
set_option linter.unusedVariables false

theorem perm_sorted_eq : ∀ (l m : List Int), l.Perm m → l.Pairwise (· ≤ ·) → m.Pairwise (· ≤ ·) → l = m := by
  intro l
  induction l with
  | nil => intro m h _ _; exact (List.nil_perm.1 h).symm
  | cons a l ih =>
    intro m h h1 h2
    cases m with
    | nil => exact absurd h.symm (by simp)
    | cons b m =>
      rw [List.pairwise_cons] at h1 h2
      have hab : a = b := by
        have ha : a ∈ b :: m := h.subset (by simp)
        have hb : b ∈ a :: l := h.symm.subset (by simp)
        rcases List.mem_cons.1 ha with e | ha
        · exact e
        · rcases List.mem_cons.1 hb with e | hb
          · exact e.symm
          · have := h2.1 a ha; have := h1.1 b hb; omega
      subst hab
      rw [ih m (h.cons_inv) h1.2 h2.2]
theorem someL_sorted (n : Int) (rs : List ArcD) (x : Int) (o i : Bool) (k : Nat) : (someL n rs x o i k).Pairwise (· ≤ ·) := by
  unfold someL
  refine List.Pairwise.map _ (fun a b h => ?_) ((List.pairwise_lt_range).filter _)
  exact Int.ofNat_le.2 (Nat.le_of_lt h)
theorem at_perm (n : Int) (rs : List ArcD) (x : Int) (k : Nat) : (someL n rs x true false k ++ notFrom rs x (someL n rs x false true k)).Perm (someL n rs x true true k) := by
  induction k with
  | zero => simp [someL, notFrom]
  | succ k ih =>
    rw [someL_succ, someL_succ, someL_succ]
    have e : ∀ l m : List Int, notFrom rs x (l ++ m) = notFrom rs x l ++ notFrom rs x m := fun l m => List.filter_append ..
    rw [e]
    have happ : ∀ (a b c d f : List Int), (a ++ b).Perm c → (d ++ f).Perm [] ∨ True → ((a ++ d) ++ (b ++ f)).Perm (c ++ (d ++ f)) := by
      intro a b c d f h _
      have h1 : ((a ++ d) ++ (b ++ f)).Perm ((a ++ b) ++ (d ++ f)) := by
        rw [List.append_assoc, List.append_assoc]
        refine List.Perm.append_left a ?_
        rw [← List.append_assoc, ← List.append_assoc]
        exact List.Perm.append_right f List.perm_append_comm
      exact h1.trans (h.append_right _)
    refine (happ _ _ _ _ _ ih (.inr trivial)).trans (List.Perm.append_left _ ?_)
    have key : (if tch n rs x true false k = true then [(k : Int)] else []) ++ notFrom rs x (if tch n rs x false true k = true then [(k : Int)] else []) = if tch n rs x true true k = true then [(k : Int)] else [] := by
      simp only [tch, Bool.true_and, Bool.false_and, Bool.or_false, Bool.false_or]
      cases fitB n rs (k : Int)
      · simp [notFrom]
      · by_cases h1 : (rs.getD k ArcD.zero).From = x <;> by_cases h2 : (rs.getD k ArcD.zero).To = x <;> simp [notFrom, h1, h2, List.filter, -List.getD_eq_getElem?_getD]
    rw [key]
theorem at_law (n : Int) (rs : List ArcD) (x : Int) (k : Nat) : (someL n rs x true false k ++ notFrom rs x (someL n rs x false true k)).mergeSort (fun x y => decide (x ≤ y)) = someL n rs x true true k := by
  refine perm_sorted_eq _ _ ((List.mergeSort_perm _ _).trans (at_perm n rs x k)) ?_ (someL_sorted n rs x true true k)
  have h := List.pairwise_mergeSort (le := fun (x y : Int) => decide (x ≤ y)) (fun a b c h1 h2 => by simp only [decide_eq_true_eq] at *; omega) (fun a b => by simp only [Bool.or_eq_true, decide_eq_true_eq]; omega) (someL n rs x true false k ++ notFrom rs x (someL n rs x false true k))
  exact h.imp fun h => by simpa using h
end Go.Proofs.Ytgbmhfbfcbjccaa
