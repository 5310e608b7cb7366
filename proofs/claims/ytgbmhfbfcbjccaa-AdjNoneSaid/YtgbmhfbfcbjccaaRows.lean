/-
  No cell of these rows narrows 'for every input' (looked for: loops, veiled, ifaces, maps, wideKeys, modest, calm, conditions, laid).
  DERIVED. THE GIVEN ROWS OF THIS SEAT. 4 by the template 'for every input the law returns true; each argument reads behind the call as it read before'; 0 by the template 'total and deterministic' (their statements: YtgbmhfbfcbjccaaTotals.lean).
  GIVEN WITH THE SEED: the statements are not yours to turn. If you find one false, say at which input.
  Laid BY PROGRAM, IN A SANDBOX (cutbox-rows.mjs): the forced cells as the released guide's own fill.sh prints them over the translation 8c85342b882277c6… (all of the seat's roots in one cut). By AI agents, Wed Nov 11 2026. No macro, syntax, notation, axiom, sorry.
-/
import Derived.Test.YtgbmhfbfcbjccaaChecked
import GoSem.Claim
import GoSem.ClaimJoined
import GoSem.ClaimMapViews
import Derived.JoinedTies
import Derived.KernelRfl
namespace Go.Proofs.Ytgbmhfbfcbjccaa
/- THE CELL 'sum', in the pinned program and in every row, IS THE sha256 OF THE DUMP (.gsa) THAT YtgbmhfbfcbjccaaProg.lean LOADS. Nothing in Lean hashes anything: it is a label: what it is worth is what the hold of that sum in a sandbox is worth. -/
noncomputable def Try.pinned : Pinned := { name := "ytgbmhfbfcbjccaa", sum := "8c85342b882277c64823e79f9228d4d9b68557ded5291627cdad7d5fc2f490e0", checked := Try.checked }
namespace Rows
def none {H : Type} : Left H := { results := [], args := [] }

/-- 'quittancelaw04.AdjAsks': WHATEVER THE INPUT: true; the input reads as it did. -/
def adjAsksSpec : ChangeSpec := { name := "adjAsks", fn := fun _ => fun
  | [d1, d2, d3, d4, d5, d6] => { results := [.lit (.bool true)], args := [d1, d2, d3, d4, d5, d6] }
  | _ => none }
def adjAsksRow : OpenClaim := { program := "ytgbmhfbfcbjccaa", sum := "8c85342b882277c64823e79f9228d4d9b68557ded5291627cdad7d5fc2f490e0", func := "quittance/quittancelaw04.AdjAsks", spec := "adjAsks", unfollowed := true, recurses := true, apart := false }
def AdjAsksSaid : Prop := adjAsksRow.holds Try.pinned (OpenSpec.ofChange adjAsksSpec)

/-- ITS FALSE NEIGHBOUR: 'it returns false'. Refute it at one input. -/
def adjAsksWrong : ChangeSpec := { name := "adjAsks", fn := fun _ => fun
  | [d1, d2, d3, d4, d5, d6] => { results := [.lit (.bool false)], args := [d1, d2, d3, d4, d5, d6] }
  | _ => none }
def AdjAsksWrongFalsely : Prop := adjAsksRow.holds Try.pinned (OpenSpec.ofChange adjAsksWrong)

/-- 'quittancelaw04.AdjOnce': WHATEVER THE INPUT: true; the input reads as it did. -/
def adjOnceSpec : ChangeSpec := { name := "adjOnce", fn := fun _ => fun
  | [d1, d2] => { results := [.lit (.bool true)], args := [d1, d2] }
  | _ => none }
def adjOnceRow : OpenClaim := { program := "ytgbmhfbfcbjccaa", sum := "8c85342b882277c64823e79f9228d4d9b68557ded5291627cdad7d5fc2f490e0", func := "quittance/quittancelaw04.AdjOnce", spec := "adjOnce", unfollowed := true, recurses := true, apart := false }
def AdjOnceSaid : Prop := adjOnceRow.holds Try.pinned (OpenSpec.ofChange adjOnceSpec)

/-- ITS FALSE NEIGHBOUR: 'it returns false'. Refute it at one input. -/
def adjOnceWrong : ChangeSpec := { name := "adjOnce", fn := fun _ => fun
  | [d1, d2] => { results := [.lit (.bool false)], args := [d1, d2] }
  | _ => none }
def AdjOnceWrongFalsely : Prop := adjOnceRow.holds Try.pinned (OpenSpec.ofChange adjOnceWrong)

/-- 'quittancelaw04.AdjNone': WHATEVER THE INPUT: true; the input reads as it did. -/
def adjNoneSpec : ChangeSpec := { name := "adjNone", fn := fun _ => fun
  | [d1, d2, d3, d4] => { results := [.lit (.bool true)], args := [d1, d2, d3, d4] }
  | _ => none }
def adjNoneRow : OpenClaim := { program := "ytgbmhfbfcbjccaa", sum := "8c85342b882277c64823e79f9228d4d9b68557ded5291627cdad7d5fc2f490e0", func := "quittance/quittancelaw04.AdjNone", spec := "adjNone", unfollowed := true, recurses := true, apart := false }
def AdjNoneSaid : Prop := adjNoneRow.holds Try.pinned (OpenSpec.ofChange adjNoneSpec)

/-- ITS FALSE NEIGHBOUR: 'it returns false'. Refute it at one input. -/
def adjNoneWrong : ChangeSpec := { name := "adjNone", fn := fun _ => fun
  | [d1, d2, d3, d4] => { results := [.lit (.bool false)], args := [d1, d2, d3, d4] }
  | _ => none }
def AdjNoneWrongFalsely : Prop := adjNoneRow.holds Try.pinned (OpenSpec.ofChange adjNoneWrong)

/-- 'quittancelaw04.AdjTurned': WHATEVER THE INPUT: true; the input reads as it did. -/
def adjTurnedSpec : ChangeSpec := { name := "adjTurned", fn := fun _ => fun
  | [d1, d2] => { results := [.lit (.bool true)], args := [d1, d2] }
  | _ => none }
def adjTurnedRow : OpenClaim := { program := "ytgbmhfbfcbjccaa", sum := "8c85342b882277c64823e79f9228d4d9b68557ded5291627cdad7d5fc2f490e0", func := "quittance/quittancelaw04.AdjTurned", spec := "adjTurned", unfollowed := true, recurses := true, apart := false }
def AdjTurnedSaid : Prop := adjTurnedRow.holds Try.pinned (OpenSpec.ofChange adjTurnedSpec)

/-- ITS FALSE NEIGHBOUR: 'it returns false'. Refute it at one input. -/
def adjTurnedWrong : ChangeSpec := { name := "adjTurned", fn := fun _ => fun
  | [d1, d2] => { results := [.lit (.bool false)], args := [d1, d2] }
  | _ => none }
def AdjTurnedWrongFalsely : Prop := adjTurnedRow.holds Try.pinned (OpenSpec.ofChange adjTurnedWrong)

/- THE SECOND FORM. 'bulk': how many values and letters a reading holds, each counted each time it is reached (what is shared counts as often as it is met; a slice's spare places count too). A statement '..UptoSaid' is the law's where the arguments, and the package variables that the reading takes, are together of bulk at most 1048576: NARROWER than '..Said'. Prove '..Said' where nothing that the law and all that it calls make is longer than what came in: it says more and counts as full. Else prove '..UptoSaid'. A law counts once. -/
mutual
def uptoBulk {H : Type} : DataW H → Nat
  | .lit (.string bytes) => bytes.length + 1
  | .lit _ => 1
  | .nil => 1
  | .ptr d => uptoBulk d + 1
  | .slice elems spare => uptoBulkAll elems + uptoBulkAll spare + 1
  | .agg parts => uptoBulkAll parts + 1
  | .iface _ d => uptoBulk d + 1
  | .map entries => uptoBulkEntries entries + 1
  | .held _ => 1
def uptoBulkAll {H : Type} : List (DataW H) → Nat
  | [] => 0
  | d :: r => uptoBulk d + uptoBulkAll r
def uptoBulkEntries {H : Type} : List (Lit × DataW H) → Nat
  | [] => 0
  | x :: r => uptoBulkEntry x + uptoBulkEntries r
def uptoBulkEntry {H : Type} : Lit × DataW H → Nat
  | (.string bytes, d) => bytes.length + uptoBulk d + 1
  | (_, d) => uptoBulk d + 1
 end
def uptoSmall : (H : Type) → List (DataW H) → Bool := fun _ ds => decide (uptoBulkAll ds ≤ 1048576)
def OpenSpec.upto (s : _root_.Go.ChangeSpec) : _root_.Go.OpenSpec := { _root_.Go.OpenSpec.ofChange s with cond := some uptoSmall }

/-- 'quittancelaw04.AdjAsks', WHERE WHAT IT READS IS OF BULK AT MOST 1048576: true; the input reads as it did. -/
def adjAsksUptoRow : OpenClaim := { program := "ytgbmhfbfcbjccaa", sum := "8c85342b882277c64823e79f9228d4d9b68557ded5291627cdad7d5fc2f490e0", func := "quittance/quittancelaw04.AdjAsks", spec := "adjAsks", unfollowed := true, recurses := true, apart := false, narrowed := true }
def AdjAsksUptoSaid : Prop := adjAsksUptoRow.holds Try.pinned (OpenSpec.upto adjAsksSpec)

/-- 'quittancelaw04.AdjOnce', WHERE WHAT IT READS IS OF BULK AT MOST 1048576: true; the input reads as it did. -/
def adjOnceUptoRow : OpenClaim := { program := "ytgbmhfbfcbjccaa", sum := "8c85342b882277c64823e79f9228d4d9b68557ded5291627cdad7d5fc2f490e0", func := "quittance/quittancelaw04.AdjOnce", spec := "adjOnce", unfollowed := true, recurses := true, apart := false, narrowed := true }
def AdjOnceUptoSaid : Prop := adjOnceUptoRow.holds Try.pinned (OpenSpec.upto adjOnceSpec)

/-- 'quittancelaw04.AdjNone', WHERE WHAT IT READS IS OF BULK AT MOST 1048576: true; the input reads as it did. -/
def adjNoneUptoRow : OpenClaim := { program := "ytgbmhfbfcbjccaa", sum := "8c85342b882277c64823e79f9228d4d9b68557ded5291627cdad7d5fc2f490e0", func := "quittance/quittancelaw04.AdjNone", spec := "adjNone", unfollowed := true, recurses := true, apart := false, narrowed := true }
def AdjNoneUptoSaid : Prop := adjNoneUptoRow.holds Try.pinned (OpenSpec.upto adjNoneSpec)

/-- 'quittancelaw04.AdjTurned', WHERE WHAT IT READS IS OF BULK AT MOST 1048576: true; the input reads as it did. -/
def adjTurnedUptoRow : OpenClaim := { program := "ytgbmhfbfcbjccaa", sum := "8c85342b882277c64823e79f9228d4d9b68557ded5291627cdad7d5fc2f490e0", func := "quittance/quittancelaw04.AdjTurned", spec := "adjTurned", unfollowed := true, recurses := true, apart := false, narrowed := true }
def AdjTurnedUptoSaid : Prop := adjTurnedUptoRow.holds Try.pinned (OpenSpec.upto adjTurnedSpec)

end Rows
end Go.Proofs.Ytgbmhfbfcbjccaa
