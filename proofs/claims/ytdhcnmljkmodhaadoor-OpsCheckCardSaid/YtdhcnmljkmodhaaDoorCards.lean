/-
  DERIVED. GIVEN WITH THE SEED: THE CARDS: each row of YtdhcnmljkmodhaaDoorRows.lean that lists a variable, with what it lists TIED to the program's text (the seventh form; the later family's looks); each row that meets fmt, with fmt's text TOLD by the authors' own Lean function (tested against real Go, not proved from fmt's source: count such statements apart). THE CARD IS WHAT COUNTS. Prove the row's statement (the work); the ties are given (YtdhcnmljkmodhaaDoorTie.lean); close each card by the builder's one call (the guide's Derived/Test/ToyasCard.lean, 'card_holds'). Laid BY PROGRAM, IN A SANDBOX (cutbox-door.mjs). By AI agents, Wed Nov 11 2026. No macro, syntax, notation, axiom, sorry.
-/
import Derived.Test.YtdhcnmljkmodhaaDoorRows
import GoSem.ClaimSeven
namespace Go.Proofs.YtdhcnmljkmodhaaDoor
namespace Rows

/-- THE TIED CARD OF 'fairleadlaw10.OpsCheck'. -/
def opsCheckCard : Claim7 := { stood := { row := opsCheckRow, standIns := [], harness := (true, "05a70e2b41aced71c51f1ee64032c9e92e4a69daf406b0d3c4bc961a919b484d"), looks := true }, kinds := [], alts := [], laidByText := true, laidKinds := [.data, .handle], laidTests := true, laidLooks := .later }
def OpsCheckCardSaid : Prop := Claim7.holds Tryd.pinned (.plain (OpenSpec.ofChange opsCheckSpec)) opsCheckCard

/-- THE TIED CARD OF 'fairleadlaw10.OpsDo'. -/
def opsDoCard : Claim7 := { stood := { row := opsDoRow, standIns := [], harness := (true, "05a70e2b41aced71c51f1ee64032c9e92e4a69daf406b0d3c4bc961a919b484d"), looks := true }, kinds := [], alts := [], laidByText := true, laidKinds := [.data, .handle], laidTests := true, laidLooks := .later }
def OpsDoCardSaid : Prop := Claim7.holds Tryd.pinned (.plain (OpenSpec.ofChange opsDoSpec)) opsDoCard

/-- THE TIED CARD OF 'fairleadlaw10.OpsKeep'. -/
def opsKeepCard : Claim7 := { stood := { row := opsKeepRow, standIns := [], harness := (true, "05a70e2b41aced71c51f1ee64032c9e92e4a69daf406b0d3c4bc961a919b484d"), looks := true }, kinds := [], alts := [], laidByText := true, laidKinds := [.data, .handle], laidTests := true, laidLooks := .later }
def OpsKeepCardSaid : Prop := Claim7.holds Tryd.pinned (.plain (OpenSpec.ofChange opsKeepSpec)) opsKeepCard

/-- THE TIED CARD OF 'fairleadlaw10.OpsParts'. -/
def opsPartsCard : Claim7 := { stood := { row := opsPartsRow, standIns := [], harness := (true, "05a70e2b41aced71c51f1ee64032c9e92e4a69daf406b0d3c4bc961a919b484d"), looks := true }, kinds := [], alts := [], laidByText := true, laidKinds := [.data, .handle], laidTests := true, laidLooks := .later }
def OpsPartsCardSaid : Prop := Claim7.holds Tryd.pinned (.plain (OpenSpec.ofChange opsPartsSpec)) opsPartsCard

/-- THE SECOND FORM's CARD OF 'fairleadlaw10.OpsCheck'. -/
def opsCheckUptoCard : Claim7 := { stood := { row := opsCheckUptoRow, standIns := [], harness := (true, "05a70e2b41aced71c51f1ee64032c9e92e4a69daf406b0d3c4bc961a919b484d"), looks := true }, kinds := [], alts := [], laidByText := true, laidKinds := [.data, .handle], laidTests := true, laidLooks := .later }
def OpsCheckUptoCardSaid : Prop := Claim7.holds Tryd.pinned (.plain (OpenSpec.upto opsCheckSpec)) opsCheckUptoCard

/-- THE SECOND FORM's CARD OF 'fairleadlaw10.OpsDo'. -/
def opsDoUptoCard : Claim7 := { stood := { row := opsDoUptoRow, standIns := [], harness := (true, "05a70e2b41aced71c51f1ee64032c9e92e4a69daf406b0d3c4bc961a919b484d"), looks := true }, kinds := [], alts := [], laidByText := true, laidKinds := [.data, .handle], laidTests := true, laidLooks := .later }
def OpsDoUptoCardSaid : Prop := Claim7.holds Tryd.pinned (.plain (OpenSpec.upto opsDoSpec)) opsDoUptoCard

/-- THE SECOND FORM's CARD OF 'fairleadlaw10.OpsKeep'. -/
def opsKeepUptoCard : Claim7 := { stood := { row := opsKeepUptoRow, standIns := [], harness := (true, "05a70e2b41aced71c51f1ee64032c9e92e4a69daf406b0d3c4bc961a919b484d"), looks := true }, kinds := [], alts := [], laidByText := true, laidKinds := [.data, .handle], laidTests := true, laidLooks := .later }
def OpsKeepUptoCardSaid : Prop := Claim7.holds Tryd.pinned (.plain (OpenSpec.upto opsKeepSpec)) opsKeepUptoCard

/-- THE SECOND FORM's CARD OF 'fairleadlaw10.OpsParts'. -/
def opsPartsUptoCard : Claim7 := { stood := { row := opsPartsUptoRow, standIns := [], harness := (true, "05a70e2b41aced71c51f1ee64032c9e92e4a69daf406b0d3c4bc961a919b484d"), looks := true }, kinds := [], alts := [], laidByText := true, laidKinds := [.data, .handle], laidTests := true, laidLooks := .later }
def OpsPartsUptoCardSaid : Prop := Claim7.holds Tryd.pinned (.plain (OpenSpec.upto opsPartsSpec)) opsPartsUptoCard
end Rows
end Go.Proofs.YtdhcnmljkmodhaaDoor
