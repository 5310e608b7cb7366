/- What the makers of instances compute, in plain Lean. Conditions: none. -/
import Derived.Test.YtgbmhfbfcbjccaaLawB
namespace Go.Proofs.Ytgbmhfbfcbjccaa
set_option linter.unusedSimpArgs false
set_option linter.unusedVariables false
open Go.RowKit

def byteL (c : List Int) : Prop := ∀ x ∈ c, 0 ≤ x ∧ x ≤ 255
theorem byte_getD {c : List Int} (h : byteL c) (k : Nat) : 0 ≤ c.getD k 0 ∧ c.getD k 0 ≤ 255 := by
  rw [List.getD_eq_getElem?_getD]
  cases hk : c[k]? with
  | none => simp
  | some x => simpa using h x (List.mem_of_getElem? hk)
def mkArc (many b0 b1 b2 b3 : Int) : ArcD :=
  ⟨b0 % many, b0 / 16 % many, if b3 % 8 = 1 then 0 else b1 % 3, if b3 % 8 = 0 then 4611686018427387904 else b1 % 3 + b1 / 3 % 6, if b3 % 8 = 2 then 0 else b2 % 21 - 8⟩
def arcK (c : List Int) (many : Int) (j : Nat) : ArcD := mkArc many (c.getD (4 * j) 0) (c.getD (4 * j + 1) 0) (c.getD (4 * j + 2) 0) (c.getD (4 * j + 3) 0)
def arcsL (c : List Int) (many : Int) (j : Nat) : List ArcD := (List.range j).map (arcK c many)
def arcsN (c : List Int) : Nat := min 18 (c.length / 4)
theorem arcsL_succ (c : List Int) (many : Int) (j : Nat) : arcsL c many (j + 1) = arcsL c many j ++ [arcK c many j] := by
  unfold arcsL
  rw [List.range_succ, List.map_append]; rfl
theorem arcsL_len (c : List Int) (many : Int) (j : Nat) : (arcsL c many j).length = j := by simp [arcsL]
theorem arcsL_get (c : List Int) (many : Int) {j k : Nat} (h : k < j) : (arcsL c many j).getD k ArcD.zero = arcK c many k := by
  simp [arcsL, List.getD, h]
theorem arcK_ok {c : List Int} {many : Int} (hc : byteL c) (h1 : 1 ≤ many) (j : Nat) : 0 ≤ (arcK c many j).From ∧ (arcK c many j).From < many ∧ 0 ≤ (arcK c many j).To ∧ (arcK c many j).To < many ∧ 0 ≤ (arcK c many j).Low ∧ (arcK c many j).Low ≤ 2 ∧
    0 ≤ (arcK c many j).Cap ∧ ((arcK c many j).Cap ≤ 7 ∨ (arcK c many j).Cap = 4611686018427387904) ∧ (arcK c many j).Low ≤ (arcK c many j).Cap ∧ -8 ≤ (arcK c many j).Cost ∧ (arcK c many j).Cost ≤ 12 := by
  have b0 := byte_getD hc (4 * j)
  have b1 := byte_getD hc (4 * j + 1)
  have b2 := byte_getD hc (4 * j + 2)
  have b3 := byte_getD hc (4 * j + 3)
  unfold arcK mkArc
  generalize c.getD (4 * j) 0 = y0 at *
  generalize c.getD (4 * j + 1) 0 = y1 at *
  generalize c.getD (4 * j + 2) 0 = y2 at *
  generalize c.getD (4 * j + 3) 0 = y3 at *
  refine ⟨Int.emod_nonneg _ (by omega), Int.emod_lt_of_pos _ (by omega), Int.emod_nonneg _ (by omega), Int.emod_lt_of_pos _ (by omega), ?_⟩
  simp only
  refine ⟨?_, ?_, ?_, ?_, ?_, ?_, ?_⟩ <;> split <;> first | omega | (split <;> omega)
def nI (d : List Int) : Nat := if 0 < d.length then 1 + (d.getD 0 0 % 7).toNat else 1
theorem nI_ok {d : List Int} : 1 ≤ nI d ∧ nI d ≤ 7 := by
  unfold nI; split <;> omega
def addAt (su : List Int) (p x : Int) : List Int := su.set p.toNat (IntKind.i64.wrap (su.getD p.toNat 0 + x))
def subAt (su : List Int) (p x : Int) : List Int := su.set p.toNat (IntKind.i64.wrap (su.getD p.toNat 0 - x))
def flowX (d : List Int) (a : ArcD) (k : Nat) : Int := if k + 1 < d.length then (if a.Cap < a.Low + d.getD (k + 1) 0 % 4 then a.Cap else a.Low + d.getD (k + 1) 0 % 4) else a.Low
def supK (c d : List Int) : Nat → List Int
  | 0 => List.replicate (nI d) 0
  | k + 1 => subAt (addAt (supK c d k) (arcK c (nI d) k).From (flowX d (arcK c (nI d) k) k)) (arcK c (nI d) k).To (flowX d (arcK c (nI d) k) k)
def supI (c d : List Int) : List Int :=
  if 1 < d.length ∧ d.getD (d.length - 1) 0 % 5 = 0 then subAt (addAt (supK c d (arcsN c)) 0 (d.getD 1 0 % 3)) ((nI d : Int) - 1) (d.getD 1 0 % 3) else supK c d (arcsN c)
def rsI (c d : List Int) : List ArcD := arcsL c (nI d) (arcsN c)
theorem addAt_len (su : List Int) (p x : Int) : (addAt su p x).length = su.length := by simp [addAt]
theorem subAt_len (su : List Int) (p x : Int) : (subAt su p x).length = su.length := by simp [subAt]
theorem supK_len (c d : List Int) (k : Nat) : (supK c d k).length = nI d := by
  induction k with
  | zero => simp [supK]
  | succ k ih => simp only [supK, subAt_len, addAt_len, ih]
theorem supI_len (c d : List Int) : (supI c d).length = nI d := by
  unfold supI
  split
  · rw [subAt_len, addAt_len, supK_len]
  · exact supK_len c d _
theorem rsI_ok {c : List Int} (hc : byteL c) (d : List Int) (k : Nat) : 0 ≤ ((rsI c d).getD k ArcD.zero).From ∧ ((rsI c d).getD k ArcD.zero).From < nI d ∧ 0 ≤ ((rsI c d).getD k ArcD.zero).To ∧ ((rsI c d).getD k ArcD.zero).To < nI d ∧ 0 ≤ ((rsI c d).getD k ArcD.zero).Low ∧ ((rsI c d).getD k ArcD.zero).Low ≤ 2 ∧
    0 ≤ ((rsI c d).getD k ArcD.zero).Cap ∧ (((rsI c d).getD k ArcD.zero).Cap ≤ 7 ∨ ((rsI c d).getD k ArcD.zero).Cap = 4611686018427387904) ∧ ((rsI c d).getD k ArcD.zero).Low ≤ ((rsI c d).getD k ArcD.zero).Cap ∧ -8 ≤ ((rsI c d).getD k ArcD.zero).Cost ∧ ((rsI c d).getD k ArcD.zero).Cost ≤ 12 := by
  have hn := nI_ok (d := d)
  by_cases hk : k < arcsN c
  · have e : (rsI c d).getD k ArcD.zero = arcK c (nI d) k := arcsL_get c _ hk
    rw [e]
    exact arcK_ok hc (by omega) k
  · have e : (rsI c d).getD k ArcD.zero = ArcD.zero := by
      have hl : (rsI c d).length = arcsN c := arcsL_len _ _ _
      simp only [List.getD_eq_getElem?_getD, List.getElem?_eq_none (show (rsI c d).length ≤ k by omega), Option.getD_none]
    rw [e]
    simp only [ArcD.zero]
    omega
end Go.Proofs.Ytgbmhfbfcbjccaa
