/- What the functions compute, in plain Lean. Conditions: none; plain definitions. -/
import Derived.Test.YtgbmhfbfcbjccaaEngO
import Derived.Test.YtgbmhfbfcbjccaaTab
namespace Go.Proofs.Ytgbmhfbfcbjccaa
set_option linter.unusedSimpArgs false
set_option linter.unusedVariables false
open Go.RowKit

theorem take_snoc {α : Type} (xs : List α) (k : Nat) (d : α) (h : k < xs.length) : xs.take (k + 1) = xs.take k ++ [xs.getD k d] := by
  rw [List.take_add_one, List.getD_eq_getElem?_getD]
  congr 1
  rw [List.getElem?_eq_getElem h]; rfl
/-! ### Instances, arcs -/
def arcL (x : ArcD) : List At := [.v (.int .i64 x.From), .v (.int .i64 x.To), .v (.int .i64 x.Low), .v (.int .i64 x.Cap), .v (.int .i64 x.Cost)]
def okN (n x : Int) : Bool := decide (0 ≤ x) && decide (x < n)
def okArc (n : Int) (x : ArcD) : Bool := okN n x.From && okN n x.To
def fitB (n : Int) (rs : List ArcD) (a : Int) : Bool := okN rs.length a && okArc n (rs.getD a.toNat ArcD.zero)
theorem fitB_spec {n : Int} {rs : List ArcD} {a : Int} (h : fitB n rs a = true) : 0 ≤ a ∧ a < rs.length := by
  simp [fitB, okN] at h; omega
def arcOr (n : Int) (rs : List ArcD) (a : Int) : ArcD := if fitB n rs a = true then rs.getD a.toNat ArcD.zero else ArcD.zero
def otherAt (n : Int) (rs : List ArcD) (a x : Int) : Int :=
  if fitB n rs a then (if (rs.getD a.toNat ArcD.zero).From = x then (rs.getD a.toNat ArcD.zero).To else if (rs.getD a.toNat ArcD.zero).To = x then (rs.getD a.toNat ArcD.zero).From else -1) else -1
/-- A graph in memory: how many nodes, arcs, the list by nodes, where pieces begin. -/
def GH (n : Int) (rs : List ArcD) (ls st : List Int) : Hp :=
  [(1, .rbox false [.v (.int .i64 n), .ref 2, .ref 3, .ref 4]), (2, .rd false .arc rs), (3, .rd false (.int .i64) ls), (4, .rd false (.int .i64) st)]
/-- An instance in memory. -/
def IH (su : List Int) (rs : List ArcD) : Hp := [(1, .rd false (.int .i64) su), (2, .rd false .arc rs)]
/-- Does arc a go out of x, or come in? -/
def tch (n : Int) (rs : List ArcD) (x : Int) (o i : Bool) (a : Nat) : Bool :=
  fitB n rs a && (o && decide ((rs.getD a ArcD.zero).From = x) || i && decide ((rs.getD a ArcD.zero).To = x))
def someL (n : Int) (rs : List ArcD) (x : Int) (o i : Bool) (k : Nat) : List Int := ((List.range k).filter (tch n rs x o i)).map fun (a : Nat) => (a : Int)
theorem someL_succ (n : Int) (rs : List ArcD) (x : Int) (o i : Bool) (k : Nat) : someL n rs x o i (k + 1) = someL n rs x o i k ++ (if tch n rs x o i k then [(k : Int)] else []) := by
  unfold someL
  rw [List.range_succ, List.filter_append, List.map_append]
  congr 1
  simp only [List.filter_cons, List.filter_nil]
  split <;> simp
theorem someL_len (n : Int) (rs : List ArcD) (x : Int) (o i : Bool) (k : Nat) : (someL n rs x o i k).length ≤ k := by
  unfold someL
  rw [List.length_map]
  exact Nat.le_trans (List.length_filter_le _ _) (by simp)
def lpB (n : Int) (rs : List ArcD) (x : Int) (a : Nat) : Bool := fitB n rs a && decide ((rs.getD a ArcD.zero).From = x) && decide ((rs.getD a ArcD.zero).To = x)
def loopsN (n : Int) (rs : List ArcD) (x : Int) (k : Nat) : Int := ((List.range k).filter (lpB n rs x)).length
theorem loopsN_succ (n : Int) (rs : List ArcD) (x : Int) (k : Nat) : loopsN n rs x (k + 1) = loopsN n rs x k + if fitB n rs k = true ∧ (rs.getD k ArcD.zero).From = x ∧ (rs.getD k ArcD.zero).To = x then 1 else 0 := by
  unfold loopsN
  rw [List.range_succ, List.filter_append, List.length_append]
  simp only [List.filter_cons, List.filter_nil, lpB, Bool.and_eq_true, decide_eq_true_eq, and_assoc]
  split <;> simp
theorem loopsN_le (n : Int) (rs : List ArcD) (x : Int) (k : Nat) : 0 ≤ loopsN n rs x k ∧ loopsN n rs x k ≤ k := by
  unfold loopsN
  have := List.length_filter_le (lpB n rs x) (List.range k)
  simp at this
  omega
@[simp] theorem zF : ArcD.zero.From = 0 := rfl
@[simp] theorem zT : ArcD.zero.To = 0 := rfl
@[simp] theorem zL : ArcD.zero.Low = 0 := rfl
@[simp] theorem zC : ArcD.zero.Cap = 0 := rfl
@[simp] theorem zK : ArcD.zero.Cost = 0 := rfl
attribute [go_sem] arcL GH IH
end Go.Proofs.Ytgbmhfbfcbjccaa
