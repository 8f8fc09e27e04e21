/-
  DERIVED. GIVEN WITH THE SEED: THE CARDS: each row of YtlphglmjfklndaaDoorRows.lean that lists a variable, with what it lists TIED to the program's text (the seventh form; the later family's looks); each row that meets fmt, with fmt's text TOLD by the authors' own Lean function (tested against real Go, not proved from fmt's source: count such statements apart). THE CARD IS WHAT COUNTS. Prove the row's statement (the work); the ties are given (YtlphglmjfklndaaDoorTie.lean); close each card by the builder's one call (the guide's Derived/Test/ToyasCard.lean, 'card_holds'). Laid BY PROGRAM, IN A SANDBOX (cutbox-door.mjs). By AI agents, Wed Nov 11 2026. No macro, syntax, notation, axiom, sorry.
-/
import Derived.Test.YtlphglmjfklndaaDoorRows
import GoSem.ClaimSeven
namespace Go.Proofs.YtlphglmjfklndaaDoor
namespace Rows

/-- THE TIED CARD OF 'pythialaw09.OpsApart'. -/
def opsApartCard : Claim7 := { stood := { row := opsApartRow, standIns := [], harness := (true, "53478588a904fb13e20a6b9fa3c78442e62c7aa0e9c528dc7c3be72653425af8"), looks := true }, kinds := [], alts := [], laidByText := true, laidKinds := [.data, .pinned], laidTests := true, laidLooks := .later }
def OpsApartCardSaid : Prop := Claim7.holds Tryd.pinned (.plain (OpenSpec.ofChange opsApartSpec)) opsApartCard

/-- THE TIED CARD OF 'pythialaw09.OpsSides'. -/
def opsSidesCard : Claim7 := { stood := { row := opsSidesRow, standIns := [], harness := (true, "53478588a904fb13e20a6b9fa3c78442e62c7aa0e9c528dc7c3be72653425af8"), looks := true }, kinds := [], alts := [], laidByText := true, laidKinds := [.data, .pinned], laidTests := true, laidLooks := .later }
def OpsSidesCardSaid : Prop := Claim7.holds Tryd.pinned (.plain (OpenSpec.ofChange opsSidesSpec)) opsSidesCard

/-- THE TIED CARD OF 'pythialaw09.OpsLast'. -/
def opsLastCard : Claim7 := { stood := { row := opsLastRow, standIns := [], harness := (true, "53478588a904fb13e20a6b9fa3c78442e62c7aa0e9c528dc7c3be72653425af8"), looks := true }, kinds := [], alts := [], laidByText := true, laidKinds := [.data, .pinned], laidTests := true, laidLooks := .later }
def OpsLastCardSaid : Prop := Claim7.holds Tryd.pinned (.plain (OpenSpec.ofChange opsLastSpec)) opsLastCard

/-- THE TIED CARD OF 'pythialaw09.OpsMany'. -/
def opsManyCard : Claim7 := { stood := { row := opsManyRow, standIns := [], harness := (true, "53478588a904fb13e20a6b9fa3c78442e62c7aa0e9c528dc7c3be72653425af8"), looks := true }, kinds := [], alts := [], laidByText := true, laidKinds := [.data, .pinned], laidTests := true, laidLooks := .later }
def OpsManyCardSaid : Prop := Claim7.holds Tryd.pinned (.plain (OpenSpec.ofChange opsManySpec)) opsManyCard

/-- THE SECOND FORM's CARD OF 'pythialaw09.OpsApart'. -/
def opsApartUptoCard : Claim7 := { stood := { row := opsApartUptoRow, standIns := [], harness := (true, "53478588a904fb13e20a6b9fa3c78442e62c7aa0e9c528dc7c3be72653425af8"), looks := true }, kinds := [], alts := [], laidByText := true, laidKinds := [.data, .pinned], laidTests := true, laidLooks := .later }
def OpsApartUptoCardSaid : Prop := Claim7.holds Tryd.pinned (.plain (OpenSpec.upto opsApartSpec)) opsApartUptoCard

/-- THE SECOND FORM's CARD OF 'pythialaw09.OpsSides'. -/
def opsSidesUptoCard : Claim7 := { stood := { row := opsSidesUptoRow, standIns := [], harness := (true, "53478588a904fb13e20a6b9fa3c78442e62c7aa0e9c528dc7c3be72653425af8"), looks := true }, kinds := [], alts := [], laidByText := true, laidKinds := [.data, .pinned], laidTests := true, laidLooks := .later }
def OpsSidesUptoCardSaid : Prop := Claim7.holds Tryd.pinned (.plain (OpenSpec.upto opsSidesSpec)) opsSidesUptoCard

/-- THE SECOND FORM's CARD OF 'pythialaw09.OpsLast'. -/
def opsLastUptoCard : Claim7 := { stood := { row := opsLastUptoRow, standIns := [], harness := (true, "53478588a904fb13e20a6b9fa3c78442e62c7aa0e9c528dc7c3be72653425af8"), looks := true }, kinds := [], alts := [], laidByText := true, laidKinds := [.data, .pinned], laidTests := true, laidLooks := .later }
def OpsLastUptoCardSaid : Prop := Claim7.holds Tryd.pinned (.plain (OpenSpec.upto opsLastSpec)) opsLastUptoCard

/-- THE SECOND FORM's CARD OF 'pythialaw09.OpsMany'. -/
def opsManyUptoCard : Claim7 := { stood := { row := opsManyUptoRow, standIns := [], harness := (true, "53478588a904fb13e20a6b9fa3c78442e62c7aa0e9c528dc7c3be72653425af8"), looks := true }, kinds := [], alts := [], laidByText := true, laidKinds := [.data, .pinned], laidTests := true, laidLooks := .later }
def OpsManyUptoCardSaid : Prop := Claim7.holds Tryd.pinned (.plain (OpenSpec.upto opsManySpec)) opsManyUptoCard
end Rows
end Go.Proofs.YtlphglmjfklndaaDoor
