/-
  DERIVED. GIVEN WITH THE SEED: THE CARDS: each row of YtcggdfnadpmofaaDoorRows.lean that lists a variable, with what it lists TIED to the program's text (the seventh form; the later family's looks); each row that meets fmt, with fmt's text TOLD by the authors' own Lean function (tested against real Go, not proved from fmt's source: count such statements apart). THE CARD IS WHAT COUNTS. Prove the row's statement (the work); the ties are given (YtcggdfnadpmofaaDoorTie.lean); close each card by the builder's one call (the guide's Derived/Test/ToyasCard.lean, 'card_holds'). Laid BY PROGRAM, IN A SANDBOX (cutbox-door.mjs). By AI agents, Wed Nov 11 2026. No macro, syntax, notation, axiom, sorry.
-/
import Derived.Test.YtcggdfnadpmofaaDoorRows
import GoSem.ClaimSeven
namespace Go.Proofs.YtcggdfnadpmofaaDoor
namespace Rows

/-- THE TIED CARD OF 'fairleadlaw01.OopsTexts'. -/
def oopsTextsCard : Claim7 := { stood := { row := oopsTextsRow, standIns := [], harness := (true, "87a65a5b9fa62b292c931a8cec20da58630218e6853cb8c796dcbd6f263d98fa"), looks := true }, kinds := [], alts := [], laidByText := true, laidKinds := [.data, .data, .data, .handle], laidTests := true, laidLooks := .later }
def OopsTextsCardSaid : Prop := Claim7.holds Tryd.pinned (.plain (OpenSpec.ofChange oopsTextsSpec)) oopsTextsCard

/-- THE SECOND FORM's CARD OF 'fairleadlaw01.OopsTexts'. -/
def oopsTextsUptoCard : Claim7 := { stood := { row := oopsTextsUptoRow, standIns := [], harness := (true, "87a65a5b9fa62b292c931a8cec20da58630218e6853cb8c796dcbd6f263d98fa"), looks := true }, kinds := [], alts := [], laidByText := true, laidKinds := [.data, .data, .data, .handle], laidTests := true, laidLooks := .later }
def OopsTextsUptoCardSaid : Prop := Claim7.holds Tryd.pinned (.plain (OpenSpec.upto oopsTextsSpec)) oopsTextsUptoCard
end Rows
end Go.Proofs.YtcggdfnadpmofaaDoor
