/-
  NARROWER THAN 'FOR EVERY INPUT', by the rows' own cells (each row's printed sentence says how): TermTells: loops · TermOrder: loops · TermLists: loops · TermRenames: loops · TermUnites: loops · TermLeast: loops · TermApplies: loops · TermGrounds: loops · TermCounts: loops · TermKeeps: loops.
  DERIVED. THE GIVEN ROWS OF THIS SEAT. 10 by the template 'for every input the law returns true; each argument reads behind the call as it read before'; 0 by the template 'total and deterministic' (their statements: YtpnkaggkedepeaaTotals.lean).
  GIVEN WITH THE SEED: the statements are not yours to turn. If you find one false, say at which input.
  Laid BY PROGRAM, IN A SANDBOX (cutbox-rows.mjs): the forced cells as the released guide's own fill.sh prints them over the translation 7cb2460fe36f936d… (all of the seat's roots in one cut). By AI agents, Wed Nov 11 2026. No macro, syntax, notation, axiom, sorry.
-/
import Derived.Test.YtpnkaggkedepeaaChecked
import GoSem.Claim
import GoSem.ClaimJoined
import GoSem.ClaimMapViews
import Derived.JoinedTies
import Derived.KernelRfl
namespace Go.Proofs.Ytpnkaggkedepeaa
/- THE CELL 'sum', in the pinned program and in every row, IS THE sha256 OF THE DUMP (.gsa) THAT YtpnkaggkedepeaaProg.lean LOADS. Nothing in Lean hashes anything: it is a label: what it is worth is what the hold of that sum in a sandbox is worth. -/
noncomputable def Try.pinned : Pinned := { name := "ytpnkaggkedepeaa", sum := "7cb2460fe36f936d95ef45398bfd7f3f3e7d2e2202adb6de54c9682084954ecd", checked := Try.checked }
namespace Rows
def none {H : Type} : Left H := { results := [], args := [] }

/-- 'pythialaw07.TermTells': WHATEVER THE INPUT: true; the input reads as it did. -/
def termTellsSpec : ChangeSpec := { name := "termTells", fn := fun _ => fun
  | [d1, d2] => { results := [.lit (.bool true)], args := [d1, d2] }
  | _ => none }
def termTellsRow : OpenClaim := { program := "ytpnkaggkedepeaa", sum := "7cb2460fe36f936d95ef45398bfd7f3f3e7d2e2202adb6de54c9682084954ecd", func := "pythia/pythialaw07.TermTells", spec := "termTells", inPlace := ["internal/bytealg.abigen_runtime_cmpstring"], unfollowed := true, recurses := true, loops := true, apart := false }
def TermTellsSaid : Prop := termTellsRow.holds Try.pinned (OpenSpec.ofChange termTellsSpec)

/-- ITS FALSE NEIGHBOUR: 'it returns false'. Refute it at one input. -/
def termTellsWrong : ChangeSpec := { name := "termTells", fn := fun _ => fun
  | [d1, d2] => { results := [.lit (.bool false)], args := [d1, d2] }
  | _ => none }
def TermTellsWrongFalsely : Prop := termTellsRow.holds Try.pinned (OpenSpec.ofChange termTellsWrong)

/-- 'pythialaw07.TermOrder': WHATEVER THE INPUT: true; the input reads as it did. -/
def termOrderSpec : ChangeSpec := { name := "termOrder", fn := fun _ => fun
  | [d1, d2, d3, d4] => { results := [.lit (.bool true)], args := [d1, d2, d3, d4] }
  | _ => none }
def termOrderRow : OpenClaim := { program := "ytpnkaggkedepeaa", sum := "7cb2460fe36f936d95ef45398bfd7f3f3e7d2e2202adb6de54c9682084954ecd", func := "pythia/pythialaw07.TermOrder", spec := "termOrder", inPlace := ["internal/bytealg.abigen_runtime_cmpstring"], unfollowed := true, recurses := true, loops := true, apart := false }
def TermOrderSaid : Prop := termOrderRow.holds Try.pinned (OpenSpec.ofChange termOrderSpec)

/-- ITS FALSE NEIGHBOUR: 'it returns false'. Refute it at one input. -/
def termOrderWrong : ChangeSpec := { name := "termOrder", fn := fun _ => fun
  | [d1, d2, d3, d4] => { results := [.lit (.bool false)], args := [d1, d2, d3, d4] }
  | _ => none }
def TermOrderWrongFalsely : Prop := termOrderRow.holds Try.pinned (OpenSpec.ofChange termOrderWrong)

/-- 'pythialaw07.TermLists': WHATEVER THE INPUT: true; the input reads as it did. -/
def termListsSpec : ChangeSpec := { name := "termLists", fn := fun _ => fun
  | [d1, d2] => { results := [.lit (.bool true)], args := [d1, d2] }
  | _ => none }
def termListsRow : OpenClaim := { program := "ytpnkaggkedepeaa", sum := "7cb2460fe36f936d95ef45398bfd7f3f3e7d2e2202adb6de54c9682084954ecd", func := "pythia/pythialaw07.TermLists", spec := "termLists", inPlace := ["internal/bytealg.abigen_runtime_cmpstring"], unfollowed := true, recurses := true, loops := true, apart := false }
def TermListsSaid : Prop := termListsRow.holds Try.pinned (OpenSpec.ofChange termListsSpec)

/-- ITS FALSE NEIGHBOUR: 'it returns false'. Refute it at one input. -/
def termListsWrong : ChangeSpec := { name := "termLists", fn := fun _ => fun
  | [d1, d2] => { results := [.lit (.bool false)], args := [d1, d2] }
  | _ => none }
def TermListsWrongFalsely : Prop := termListsRow.holds Try.pinned (OpenSpec.ofChange termListsWrong)

/-- 'pythialaw07.TermRenames': WHATEVER THE INPUT: true; the input reads as it did. -/
def termRenamesSpec : ChangeSpec := { name := "termRenames", fn := fun _ => fun
  | [d1, d2, d3] => { results := [.lit (.bool true)], args := [d1, d2, d3] }
  | _ => none }
def termRenamesRow : OpenClaim := { program := "ytpnkaggkedepeaa", sum := "7cb2460fe36f936d95ef45398bfd7f3f3e7d2e2202adb6de54c9682084954ecd", func := "pythia/pythialaw07.TermRenames", spec := "termRenames", inPlace := ["internal/bytealg.abigen_runtime_cmpstring"], unfollowed := true, recurses := true, loops := true, apart := false }
def TermRenamesSaid : Prop := termRenamesRow.holds Try.pinned (OpenSpec.ofChange termRenamesSpec)

/-- ITS FALSE NEIGHBOUR: 'it returns false'. Refute it at one input. -/
def termRenamesWrong : ChangeSpec := { name := "termRenames", fn := fun _ => fun
  | [d1, d2, d3] => { results := [.lit (.bool false)], args := [d1, d2, d3] }
  | _ => none }
def TermRenamesWrongFalsely : Prop := termRenamesRow.holds Try.pinned (OpenSpec.ofChange termRenamesWrong)

/-- 'pythialaw07.TermUnites': WHATEVER THE INPUT: true; the input reads as it did. -/
def termUnitesSpec : ChangeSpec := { name := "termUnites", fn := fun _ => fun
  | [d1, d2] => { results := [.lit (.bool true)], args := [d1, d2] }
  | _ => none }
def termUnitesRow : OpenClaim := { program := "ytpnkaggkedepeaa", sum := "7cb2460fe36f936d95ef45398bfd7f3f3e7d2e2202adb6de54c9682084954ecd", func := "pythia/pythialaw07.TermUnites", spec := "termUnites", inPlace := ["internal/bytealg.abigen_runtime_cmpstring"], unfollowed := true, recurses := true, loops := true, apart := false }
def TermUnitesSaid : Prop := termUnitesRow.holds Try.pinned (OpenSpec.ofChange termUnitesSpec)

/-- ITS FALSE NEIGHBOUR: 'it returns false'. Refute it at one input. -/
def termUnitesWrong : ChangeSpec := { name := "termUnites", fn := fun _ => fun
  | [d1, d2] => { results := [.lit (.bool false)], args := [d1, d2] }
  | _ => none }
def TermUnitesWrongFalsely : Prop := termUnitesRow.holds Try.pinned (OpenSpec.ofChange termUnitesWrong)

/-- 'pythialaw07.TermLeast': WHATEVER THE INPUT: true; the input reads as it did. -/
def termLeastSpec : ChangeSpec := { name := "termLeast", fn := fun _ => fun
  | [d1, d2, d3] => { results := [.lit (.bool true)], args := [d1, d2, d3] }
  | _ => none }
def termLeastRow : OpenClaim := { program := "ytpnkaggkedepeaa", sum := "7cb2460fe36f936d95ef45398bfd7f3f3e7d2e2202adb6de54c9682084954ecd", func := "pythia/pythialaw07.TermLeast", spec := "termLeast", inPlace := ["internal/bytealg.abigen_runtime_cmpstring"], unfollowed := true, recurses := true, loops := true, apart := false }
def TermLeastSaid : Prop := termLeastRow.holds Try.pinned (OpenSpec.ofChange termLeastSpec)

/-- ITS FALSE NEIGHBOUR: 'it returns false'. Refute it at one input. -/
def termLeastWrong : ChangeSpec := { name := "termLeast", fn := fun _ => fun
  | [d1, d2, d3] => { results := [.lit (.bool false)], args := [d1, d2, d3] }
  | _ => none }
def TermLeastWrongFalsely : Prop := termLeastRow.holds Try.pinned (OpenSpec.ofChange termLeastWrong)

/-- 'pythialaw07.TermApplies': WHATEVER THE INPUT: true; the input reads as it did. -/
def termAppliesSpec : ChangeSpec := { name := "termApplies", fn := fun _ => fun
  | [d1, d2, d3, d4] => { results := [.lit (.bool true)], args := [d1, d2, d3, d4] }
  | _ => none }
def termAppliesRow : OpenClaim := { program := "ytpnkaggkedepeaa", sum := "7cb2460fe36f936d95ef45398bfd7f3f3e7d2e2202adb6de54c9682084954ecd", func := "pythia/pythialaw07.TermApplies", spec := "termApplies", inPlace := ["internal/bytealg.abigen_runtime_cmpstring"], unfollowed := true, recurses := true, loops := true, apart := false }
def TermAppliesSaid : Prop := termAppliesRow.holds Try.pinned (OpenSpec.ofChange termAppliesSpec)

/-- ITS FALSE NEIGHBOUR: 'it returns false'. Refute it at one input. -/
def termAppliesWrong : ChangeSpec := { name := "termApplies", fn := fun _ => fun
  | [d1, d2, d3, d4] => { results := [.lit (.bool false)], args := [d1, d2, d3, d4] }
  | _ => none }
def TermAppliesWrongFalsely : Prop := termAppliesRow.holds Try.pinned (OpenSpec.ofChange termAppliesWrong)

/-- 'pythialaw07.TermGrounds': WHATEVER THE INPUT: true; the input reads as it did. -/
def termGroundsSpec : ChangeSpec := { name := "termGrounds", fn := fun _ => fun
  | [d1, d2, d3] => { results := [.lit (.bool true)], args := [d1, d2, d3] }
  | _ => none }
def termGroundsRow : OpenClaim := { program := "ytpnkaggkedepeaa", sum := "7cb2460fe36f936d95ef45398bfd7f3f3e7d2e2202adb6de54c9682084954ecd", func := "pythia/pythialaw07.TermGrounds", spec := "termGrounds", inPlace := ["internal/bytealg.abigen_runtime_cmpstring"], unfollowed := true, recurses := true, loops := true, apart := false }
def TermGroundsSaid : Prop := termGroundsRow.holds Try.pinned (OpenSpec.ofChange termGroundsSpec)

/-- ITS FALSE NEIGHBOUR: 'it returns false'. Refute it at one input. -/
def termGroundsWrong : ChangeSpec := { name := "termGrounds", fn := fun _ => fun
  | [d1, d2, d3] => { results := [.lit (.bool false)], args := [d1, d2, d3] }
  | _ => none }
def TermGroundsWrongFalsely : Prop := termGroundsRow.holds Try.pinned (OpenSpec.ofChange termGroundsWrong)

/-- 'pythialaw07.TermCounts': WHATEVER THE INPUT: true; the input reads as it did. -/
def termCountsSpec : ChangeSpec := { name := "termCounts", fn := fun _ => fun
  | [d1, d2, d3] => { results := [.lit (.bool true)], args := [d1, d2, d3] }
  | _ => none }
def termCountsRow : OpenClaim := { program := "ytpnkaggkedepeaa", sum := "7cb2460fe36f936d95ef45398bfd7f3f3e7d2e2202adb6de54c9682084954ecd", func := "pythia/pythialaw07.TermCounts", spec := "termCounts", inPlace := ["internal/bytealg.abigen_runtime_cmpstring"], unfollowed := true, recurses := true, loops := true, apart := false }
def TermCountsSaid : Prop := termCountsRow.holds Try.pinned (OpenSpec.ofChange termCountsSpec)

/-- ITS FALSE NEIGHBOUR: 'it returns false'. Refute it at one input. -/
def termCountsWrong : ChangeSpec := { name := "termCounts", fn := fun _ => fun
  | [d1, d2, d3] => { results := [.lit (.bool false)], args := [d1, d2, d3] }
  | _ => none }
def TermCountsWrongFalsely : Prop := termCountsRow.holds Try.pinned (OpenSpec.ofChange termCountsWrong)

/-- 'pythialaw07.TermKeeps': WHATEVER THE INPUT: true; the input reads as it did. -/
def termKeepsSpec : ChangeSpec := { name := "termKeeps", fn := fun _ => fun
  | [d1, d2] => { results := [.lit (.bool true)], args := [d1, d2] }
  | _ => none }
def termKeepsRow : OpenClaim := { program := "ytpnkaggkedepeaa", sum := "7cb2460fe36f936d95ef45398bfd7f3f3e7d2e2202adb6de54c9682084954ecd", func := "pythia/pythialaw07.TermKeeps", spec := "termKeeps", inPlace := ["internal/bytealg.abigen_runtime_cmpstring"], unfollowed := true, recurses := true, loops := true, apart := false }
def TermKeepsSaid : Prop := termKeepsRow.holds Try.pinned (OpenSpec.ofChange termKeepsSpec)

/-- ITS FALSE NEIGHBOUR: 'it returns false'. Refute it at one input. -/
def termKeepsWrong : ChangeSpec := { name := "termKeeps", fn := fun _ => fun
  | [d1, d2] => { results := [.lit (.bool false)], args := [d1, d2] }
  | _ => none }
def TermKeepsWrongFalsely : Prop := termKeepsRow.holds Try.pinned (OpenSpec.ofChange termKeepsWrong)

/- THE SECOND FORM. 'bulk': how many values and letters a reading holds, each counted each time it is reached (what is shared counts as often as it is met; a slice's spare places count too). A statement '..UptoSaid' is the law's where the arguments, and the package variables that the reading takes, are together of bulk at most 1048576: NARROWER than '..Said'. Prove '..Said' where nothing that the law and all that it calls make is longer than what came in: it says more and counts as full. Else prove '..UptoSaid'. A law counts once. -/
mutual
def uptoBulk {H : Type} : DataW H → Nat
  | .lit (.string bytes) => bytes.length + 1
  | .lit _ => 1
  | .nil => 1
  | .ptr d => uptoBulk d + 1
  | .slice elems spare => uptoBulkAll elems + uptoBulkAll spare + 1
  | .agg parts => uptoBulkAll parts + 1
  | .iface _ d => uptoBulk d + 1
  | .map entries => uptoBulkEntries entries + 1
  | .held _ => 1
def uptoBulkAll {H : Type} : List (DataW H) → Nat
  | [] => 0
  | d :: r => uptoBulk d + uptoBulkAll r
def uptoBulkEntries {H : Type} : List (Lit × DataW H) → Nat
  | [] => 0
  | x :: r => uptoBulkEntry x + uptoBulkEntries r
def uptoBulkEntry {H : Type} : Lit × DataW H → Nat
  | (.string bytes, d) => bytes.length + uptoBulk d + 1
  | (_, d) => uptoBulk d + 1
 end
def uptoSmall : (H : Type) → List (DataW H) → Bool := fun _ ds => decide (uptoBulkAll ds ≤ 1048576)
def OpenSpec.upto (s : _root_.Go.ChangeSpec) : _root_.Go.OpenSpec := { _root_.Go.OpenSpec.ofChange s with cond := some uptoSmall }

/-- 'pythialaw07.TermTells', WHERE WHAT IT READS IS OF BULK AT MOST 1048576: true; the input reads as it did. -/
def termTellsUptoRow : OpenClaim := { program := "ytpnkaggkedepeaa", sum := "7cb2460fe36f936d95ef45398bfd7f3f3e7d2e2202adb6de54c9682084954ecd", func := "pythia/pythialaw07.TermTells", spec := "termTells", inPlace := ["internal/bytealg.abigen_runtime_cmpstring"], unfollowed := true, recurses := true, loops := true, apart := false, narrowed := true }
def TermTellsUptoSaid : Prop := termTellsUptoRow.holds Try.pinned (OpenSpec.upto termTellsSpec)

/-- 'pythialaw07.TermOrder', WHERE WHAT IT READS IS OF BULK AT MOST 1048576: true; the input reads as it did. -/
def termOrderUptoRow : OpenClaim := { program := "ytpnkaggkedepeaa", sum := "7cb2460fe36f936d95ef45398bfd7f3f3e7d2e2202adb6de54c9682084954ecd", func := "pythia/pythialaw07.TermOrder", spec := "termOrder", inPlace := ["internal/bytealg.abigen_runtime_cmpstring"], unfollowed := true, recurses := true, loops := true, apart := false, narrowed := true }
def TermOrderUptoSaid : Prop := termOrderUptoRow.holds Try.pinned (OpenSpec.upto termOrderSpec)

/-- 'pythialaw07.TermLists', WHERE WHAT IT READS IS OF BULK AT MOST 1048576: true; the input reads as it did. -/
def termListsUptoRow : OpenClaim := { program := "ytpnkaggkedepeaa", sum := "7cb2460fe36f936d95ef45398bfd7f3f3e7d2e2202adb6de54c9682084954ecd", func := "pythia/pythialaw07.TermLists", spec := "termLists", inPlace := ["internal/bytealg.abigen_runtime_cmpstring"], unfollowed := true, recurses := true, loops := true, apart := false, narrowed := true }
def TermListsUptoSaid : Prop := termListsUptoRow.holds Try.pinned (OpenSpec.upto termListsSpec)

/-- 'pythialaw07.TermRenames', WHERE WHAT IT READS IS OF BULK AT MOST 1048576: true; the input reads as it did. -/
def termRenamesUptoRow : OpenClaim := { program := "ytpnkaggkedepeaa", sum := "7cb2460fe36f936d95ef45398bfd7f3f3e7d2e2202adb6de54c9682084954ecd", func := "pythia/pythialaw07.TermRenames", spec := "termRenames", inPlace := ["internal/bytealg.abigen_runtime_cmpstring"], unfollowed := true, recurses := true, loops := true, apart := false, narrowed := true }
def TermRenamesUptoSaid : Prop := termRenamesUptoRow.holds Try.pinned (OpenSpec.upto termRenamesSpec)

/-- 'pythialaw07.TermUnites', WHERE WHAT IT READS IS OF BULK AT MOST 1048576: true; the input reads as it did. -/
def termUnitesUptoRow : OpenClaim := { program := "ytpnkaggkedepeaa", sum := "7cb2460fe36f936d95ef45398bfd7f3f3e7d2e2202adb6de54c9682084954ecd", func := "pythia/pythialaw07.TermUnites", spec := "termUnites", inPlace := ["internal/bytealg.abigen_runtime_cmpstring"], unfollowed := true, recurses := true, loops := true, apart := false, narrowed := true }
def TermUnitesUptoSaid : Prop := termUnitesUptoRow.holds Try.pinned (OpenSpec.upto termUnitesSpec)

/-- 'pythialaw07.TermLeast', WHERE WHAT IT READS IS OF BULK AT MOST 1048576: true; the input reads as it did. -/
def termLeastUptoRow : OpenClaim := { program := "ytpnkaggkedepeaa", sum := "7cb2460fe36f936d95ef45398bfd7f3f3e7d2e2202adb6de54c9682084954ecd", func := "pythia/pythialaw07.TermLeast", spec := "termLeast", inPlace := ["internal/bytealg.abigen_runtime_cmpstring"], unfollowed := true, recurses := true, loops := true, apart := false, narrowed := true }
def TermLeastUptoSaid : Prop := termLeastUptoRow.holds Try.pinned (OpenSpec.upto termLeastSpec)

/-- 'pythialaw07.TermApplies', WHERE WHAT IT READS IS OF BULK AT MOST 1048576: true; the input reads as it did. -/
def termAppliesUptoRow : OpenClaim := { program := "ytpnkaggkedepeaa", sum := "7cb2460fe36f936d95ef45398bfd7f3f3e7d2e2202adb6de54c9682084954ecd", func := "pythia/pythialaw07.TermApplies", spec := "termApplies", inPlace := ["internal/bytealg.abigen_runtime_cmpstring"], unfollowed := true, recurses := true, loops := true, apart := false, narrowed := true }
def TermAppliesUptoSaid : Prop := termAppliesUptoRow.holds Try.pinned (OpenSpec.upto termAppliesSpec)

/-- 'pythialaw07.TermGrounds', WHERE WHAT IT READS IS OF BULK AT MOST 1048576: true; the input reads as it did. -/
def termGroundsUptoRow : OpenClaim := { program := "ytpnkaggkedepeaa", sum := "7cb2460fe36f936d95ef45398bfd7f3f3e7d2e2202adb6de54c9682084954ecd", func := "pythia/pythialaw07.TermGrounds", spec := "termGrounds", inPlace := ["internal/bytealg.abigen_runtime_cmpstring"], unfollowed := true, recurses := true, loops := true, apart := false, narrowed := true }
def TermGroundsUptoSaid : Prop := termGroundsUptoRow.holds Try.pinned (OpenSpec.upto termGroundsSpec)

/-- 'pythialaw07.TermCounts', WHERE WHAT IT READS IS OF BULK AT MOST 1048576: true; the input reads as it did. -/
def termCountsUptoRow : OpenClaim := { program := "ytpnkaggkedepeaa", sum := "7cb2460fe36f936d95ef45398bfd7f3f3e7d2e2202adb6de54c9682084954ecd", func := "pythia/pythialaw07.TermCounts", spec := "termCounts", inPlace := ["internal/bytealg.abigen_runtime_cmpstring"], unfollowed := true, recurses := true, loops := true, apart := false, narrowed := true }
def TermCountsUptoSaid : Prop := termCountsUptoRow.holds Try.pinned (OpenSpec.upto termCountsSpec)

/-- 'pythialaw07.TermKeeps', WHERE WHAT IT READS IS OF BULK AT MOST 1048576: true; the input reads as it did. -/
def termKeepsUptoRow : OpenClaim := { program := "ytpnkaggkedepeaa", sum := "7cb2460fe36f936d95ef45398bfd7f3f3e7d2e2202adb6de54c9682084954ecd", func := "pythia/pythialaw07.TermKeeps", spec := "termKeeps", inPlace := ["internal/bytealg.abigen_runtime_cmpstring"], unfollowed := true, recurses := true, loops := true, apart := false, narrowed := true }
def TermKeepsUptoSaid : Prop := termKeepsUptoRow.holds Try.pinned (OpenSpec.upto termKeepsSpec)

end Rows
end Go.Proofs.Ytpnkaggkedepeaa
