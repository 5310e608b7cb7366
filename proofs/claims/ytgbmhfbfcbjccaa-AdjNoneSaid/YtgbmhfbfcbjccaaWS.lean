/- Walks: the library's sort of integers, by the shelf's contract. Conditions: what the theorem says; it is a contract. -/
import Derived.Test.YtgbmhfbfcbjccaaShelf
import Derived.Test.YtgbmhfbfcbjccaaLawB
import Derived.Sort.OwnSortedInts
namespace Go.Proofs.Ytgbmhfbfcbjccaa
set_option linter.unusedSimpArgs false
set_option linter.unusedVariables false
open Go.RowKit
set_option maxHeartbeats 4000000
set_option maxRecDepth 20000
attribute [local irreducible] X CallOK gF gK stepK runOps runD runU skipU takeU Ent Fn XCall

theorem sort_fn : SortSpec := by
  intro xs hxs
  refine ⟨cal31, fun A ρ w hw hmw hpin h => ?_⟩
  have hsat := h.sat (1, .row (.int .i64) 3 xs) (by simp)
  change w.ownsRow 0 3 1 (ρ 1) xs.length (xs.flatMap fun x => [Value.int .i64 x]) at hsat
  have hfl : ∀ l : List Int, (l.flatMap fun x => [Value.int .i64 x]) = l.map (Value.int .i64) := fun l => by induction l <;> simp_all
  have hlm : (xs.mergeSort fun x y => decide (x ≤ y)).length = xs.length := (List.mergeSort_perm _ _).length_eq
  rcases hsat.2 with ⟨hv, h0⟩ | ⟨g, cap, cur, hv, hb, hg, hnc, hcm, hcs, htake⟩
  · have hx0 : xs = [] := List.eq_nil_of_length_eq_zero h0
    subst hx0
    refine Calls.mono (P := Try.prog) (f := 31) (args := (List.map (SV.den ρ) [.a (.ref 1)]).toArray) (R := fun e w' => e = .returned (.tuple #[]) ∧ w' = w) ?_ ?_
    · have := Try.slices_Sort_int_none none 0 w
      simpa only [List.map_cons, List.map_nil, SV.den, At.den, hv] using this
    · rintro e w' ⟨rfl, rfl⟩
      exact ⟨(), ρ, trivial, rfl, by simpa using h⟩
  · rw [hfl] at htake
    have hblk : blk (ρ 1) = some g := by rw [hv]; rfl
    have hlt : g < w.heap.size := (Array.getElem?_eq_some_iff.1 hg).1
    have hH := holds_of_blockI (w := w) (g := g) (cur := cur) (e := 3) (ss := xs) hg (by rw [← htake, Nat.mul_one])
    have hc := Try.slices_Sort_int g 0 cap xs w hH hlt (by omega)
    refine Calls.mono (P := Try.prog) (f := 31) (args := (List.map (SV.den ρ) [.a (.ref 1)]).toArray) (by simpa only [List.map_cons, List.map_nil, SV.den, At.den, hv] using hc) ?_
    rintro e w' ⟨rfl, n, os, rfl⟩
    refine ⟨(), ρ, trivial, rfl, ?_⟩
    have hgr := grownBy_sortedI (w := w) (g := g) (n := n) (os := os) (xs.mergeSort fun x y => decide (x ≤ y)).toArray
    have hown := ownsRow_sortedI (w := w) (base := 0) (g := g) (cap := cap) (n := n) (e := 3) (os := os) (cur := cur) (ss := xs) (ts := xs.mergeSort fun x y => decide (x ≤ y)) hlm (Nat.zero_le _) hg hnc hcm hcs
    refine h.write (c := 1) (ch := .row (.int .i64) 3 xs) rfl rfl ?_ (.row (.int .i64) 3 (xs.mergeSort fun x y => decide (x ≤ y))) rfl ?_
    · exact agree_of_grown hgr (fun k hk => by simp only [Option.some.injEq] at hk; subst hk; exact hblk)
    · show World.ownsRow _ 0 3 1 (ρ 1) (xs.mergeSort fun x y => decide (x ≤ y)).length ((xs.mergeSort fun x y => decide (x ≤ y)).flatMap fun x => [Value.int .i64 x])
      rw [hfl, hv, hlm]
      exact hown
theorem At_fn (k : Int) (n : Nat) (rs : List ArcD) (ls st : List Int) (hG : GOK n rs ls st) (hn : n ≤ 1000000) (hr : rs.length ≤ 1000000) : Fn cfg 16 [.a (.ptr 1 0), .a (.v (.int .i64 k))] (GH n rs ls st)
    (fun _ : Unit => True) (fun _ => .a (.ref 101)) (fun _ => [(101, .row (.int .i64) 3 (someL n rs k true true rs.length))]) := by
  have := At_fn' sort_fn k n rs ls st hG hn hr
  rw [at_law] at this
  exact this
end Go.Proofs.Ytgbmhfbfcbjccaa
