/-
  NARROWER THAN 'FOR EVERY INPUT', by the rows' own cells (each row's printed sentence says how): HeapMarks: loops · HeapShares: loops · HeapFalls: loops.
  DERIVED. THE GIVEN ROWS OF THIS SEAT. 3 by the template 'for every input the law returns true; each argument reads behind the call as it read before'; 0 by the template 'total and deterministic' (their statements: YtjhhacighfpdbaaTotals.lean).
  GIVEN WITH THE SEED: the statements are not yours to turn. If you find one false, say at which input.
  Laid BY PROGRAM, IN A SANDBOX (cutbox-rows.mjs): the forced cells as the released guide's own fill.sh prints them over the translation 45df770a4d454353… (all of the seat's roots in one cut). By AI agents, Wed Nov 11 2026. No macro, syntax, notation, axiom, sorry.
-/
import Derived.Test.YtjhhacighfpdbaaChecked
import GoSem.Claim
import GoSem.ClaimJoined
import GoSem.ClaimMapViews
import Derived.JoinedTies
import Derived.KernelRfl
namespace Go.Proofs.Ytjhhacighfpdbaa
/- THE CELL 'sum', in the pinned program and in every row, IS THE sha256 OF THE DUMP (.gsa) THAT YtjhhacighfpdbaaProg.lean LOADS. Nothing in Lean hashes anything: it is a label: what it is worth is what the hold of that sum in a sandbox is worth. -/
noncomputable def Try.pinned : Pinned := { name := "ytjhhacighfpdbaa", sum := "45df770a4d4543537726b3b9febce6191b820fde3110d810696dad3e657b14aa", checked := Try.checked }
namespace Rows
def none {H : Type} : Left H := { results := [], args := [] }

/-- 'pythialaw13.HeapMarks': WHATEVER THE INPUT: true; the input reads as it did. -/
def heapMarksSpec : ChangeSpec := { name := "heapMarks", fn := fun _ => fun
  | [d1, d2, d3] => { results := [.lit (.bool true)], args := [d1, d2, d3] }
  | _ => none }
def heapMarksRow : OpenClaim := { program := "ytjhhacighfpdbaa", sum := "45df770a4d4543537726b3b9febce6191b820fde3110d810696dad3e657b14aa", func := "pythia/pythialaw13.HeapMarks", spec := "heapMarks", unfollowed := true, recurses := true, loops := true, apart := false }
def HeapMarksSaid : Prop := heapMarksRow.holds Try.pinned (OpenSpec.ofChange heapMarksSpec)

/-- ITS FALSE NEIGHBOUR: 'it returns false'. Refute it at one input. -/
def heapMarksWrong : ChangeSpec := { name := "heapMarks", fn := fun _ => fun
  | [d1, d2, d3] => { results := [.lit (.bool false)], args := [d1, d2, d3] }
  | _ => none }
def HeapMarksWrongFalsely : Prop := heapMarksRow.holds Try.pinned (OpenSpec.ofChange heapMarksWrong)

/-- 'pythialaw13.HeapShares': WHATEVER THE INPUT: true; the input reads as it did. -/
def heapSharesSpec : ChangeSpec := { name := "heapShares", fn := fun _ => fun
  | [d1, d2] => { results := [.lit (.bool true)], args := [d1, d2] }
  | _ => none }
def heapSharesRow : OpenClaim := { program := "ytjhhacighfpdbaa", sum := "45df770a4d4543537726b3b9febce6191b820fde3110d810696dad3e657b14aa", func := "pythia/pythialaw13.HeapShares", spec := "heapShares", unfollowed := true, recurses := true, loops := true, apart := false }
def HeapSharesSaid : Prop := heapSharesRow.holds Try.pinned (OpenSpec.ofChange heapSharesSpec)

/-- ITS FALSE NEIGHBOUR: 'it returns false'. Refute it at one input. -/
def heapSharesWrong : ChangeSpec := { name := "heapShares", fn := fun _ => fun
  | [d1, d2] => { results := [.lit (.bool false)], args := [d1, d2] }
  | _ => none }
def HeapSharesWrongFalsely : Prop := heapSharesRow.holds Try.pinned (OpenSpec.ofChange heapSharesWrong)

/-- 'pythialaw13.HeapFalls': WHATEVER THE INPUT: true; the input reads as it did. -/
def heapFallsSpec : ChangeSpec := { name := "heapFalls", fn := fun _ => fun
  | [d1, d2, d3] => { results := [.lit (.bool true)], args := [d1, d2, d3] }
  | _ => none }
def heapFallsRow : OpenClaim := { program := "ytjhhacighfpdbaa", sum := "45df770a4d4543537726b3b9febce6191b820fde3110d810696dad3e657b14aa", func := "pythia/pythialaw13.HeapFalls", spec := "heapFalls", unfollowed := true, recurses := true, loops := true, apart := false }
def HeapFallsSaid : Prop := heapFallsRow.holds Try.pinned (OpenSpec.ofChange heapFallsSpec)

/-- ITS FALSE NEIGHBOUR: 'it returns false'. Refute it at one input. -/
def heapFallsWrong : ChangeSpec := { name := "heapFalls", fn := fun _ => fun
  | [d1, d2, d3] => { results := [.lit (.bool false)], args := [d1, d2, d3] }
  | _ => none }
def HeapFallsWrongFalsely : Prop := heapFallsRow.holds Try.pinned (OpenSpec.ofChange heapFallsWrong)

/- THE SECOND FORM. 'bulk': how many values and letters a reading holds, each counted each time it is reached (what is shared counts as often as it is met; a slice's spare places count too). A statement '..UptoSaid' is the law's where the arguments, and the package variables that the reading takes, are together of bulk at most 1048576: NARROWER than '..Said'. Prove '..Said' where nothing that the law and all that it calls make is longer than what came in: it says more and counts as full. Else prove '..UptoSaid'. A law counts once. -/
mutual
def uptoBulk {H : Type} : DataW H → Nat
  | .lit (.string bytes) => bytes.length + 1
  | .lit _ => 1
  | .nil => 1
  | .ptr d => uptoBulk d + 1
  | .slice elems spare => uptoBulkAll elems + uptoBulkAll spare + 1
  | .agg parts => uptoBulkAll parts + 1
  | .iface _ d => uptoBulk d + 1
  | .map entries => uptoBulkEntries entries + 1
  | .held _ => 1
def uptoBulkAll {H : Type} : List (DataW H) → Nat
  | [] => 0
  | d :: r => uptoBulk d + uptoBulkAll r
def uptoBulkEntries {H : Type} : List (Lit × DataW H) → Nat
  | [] => 0
  | x :: r => uptoBulkEntry x + uptoBulkEntries r
def uptoBulkEntry {H : Type} : Lit × DataW H → Nat
  | (.string bytes, d) => bytes.length + uptoBulk d + 1
  | (_, d) => uptoBulk d + 1
 end
def uptoSmall : (H : Type) → List (DataW H) → Bool := fun _ ds => decide (uptoBulkAll ds ≤ 1048576)
def OpenSpec.upto (s : _root_.Go.ChangeSpec) : _root_.Go.OpenSpec := { _root_.Go.OpenSpec.ofChange s with cond := some uptoSmall }

/-- 'pythialaw13.HeapMarks', WHERE WHAT IT READS IS OF BULK AT MOST 1048576: true; the input reads as it did. -/
def heapMarksUptoRow : OpenClaim := { program := "ytjhhacighfpdbaa", sum := "45df770a4d4543537726b3b9febce6191b820fde3110d810696dad3e657b14aa", func := "pythia/pythialaw13.HeapMarks", spec := "heapMarks", unfollowed := true, recurses := true, loops := true, apart := false, narrowed := true }
def HeapMarksUptoSaid : Prop := heapMarksUptoRow.holds Try.pinned (OpenSpec.upto heapMarksSpec)

/-- 'pythialaw13.HeapShares', WHERE WHAT IT READS IS OF BULK AT MOST 1048576: true; the input reads as it did. -/
def heapSharesUptoRow : OpenClaim := { program := "ytjhhacighfpdbaa", sum := "45df770a4d4543537726b3b9febce6191b820fde3110d810696dad3e657b14aa", func := "pythia/pythialaw13.HeapShares", spec := "heapShares", unfollowed := true, recurses := true, loops := true, apart := false, narrowed := true }
def HeapSharesUptoSaid : Prop := heapSharesUptoRow.holds Try.pinned (OpenSpec.upto heapSharesSpec)

/-- 'pythialaw13.HeapFalls', WHERE WHAT IT READS IS OF BULK AT MOST 1048576: true; the input reads as it did. -/
def heapFallsUptoRow : OpenClaim := { program := "ytjhhacighfpdbaa", sum := "45df770a4d4543537726b3b9febce6191b820fde3110d810696dad3e657b14aa", func := "pythia/pythialaw13.HeapFalls", spec := "heapFalls", unfollowed := true, recurses := true, loops := true, apart := false, narrowed := true }
def HeapFallsUptoSaid : Prop := heapFallsUptoRow.holds Try.pinned (OpenSpec.upto heapFallsSpec)

end Rows
end Go.Proofs.Ytjhhacighfpdbaa
