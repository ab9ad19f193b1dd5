/-
  DERIVED. GIVEN WITH THE SEED: THE CARDS: each row of YtjjokjdhllgohaaDoorRows.lean that lists a variable, with what it lists TIED to the program's text (the seventh form; the later family's looks); each row that meets fmt, with fmt's text TOLD by the authors' own Lean function (tested against real Go, not proved from fmt's source: count such statements apart). THE CARD IS WHAT COUNTS. Prove the row's statement (the work); the ties are given (YtjjokjdhllgohaaDoorTie.lean); close each card by the builder's one call (the guide's Derived/Test/ToyasCard.lean, 'card_holds'). Laid BY PROGRAM, IN A SANDBOX (cutbox-door.mjs). By AI agents, Wed Nov 11 2026. No macro, syntax, notation, axiom, sorry.
-/
import Derived.Test.YtjjokjdhllgohaaDoorRows
import GoSem.ClaimSeven
namespace Go.Proofs.YtjjokjdhllgohaaDoor
namespace Rows

/-- THE TIED CARD OF 'fairleadlaw01.OopsWraps'. -/
def oopsWrapsCard : Claim7 := { stood := { row := oopsWrapsRow, standIns := [], harness := (true, "a7a205e247d6e18ee60314132f4f37695f0edd2f7b86b7e2903c8ca6bd0ad691"), looks := true }, kinds := [], alts := [], laidByText := true, laidKinds := [.handle], laidTests := true, laidLooks := .later }
def OopsWrapsCardSaid : Prop := Claim7.holds Tryd.pinned (.plain (OpenSpec.ofChange oopsWrapsSpec)) oopsWrapsCard

/-- THE TIED CARD OF 'fairleadlaw01.OopsSame'. -/
def oopsSameCard : Claim7 := { stood := { row := oopsSameRow, standIns := [], harness := (true, "a7a205e247d6e18ee60314132f4f37695f0edd2f7b86b7e2903c8ca6bd0ad691"), looks := true }, kinds := [], alts := [], laidByText := true, laidKinds := [.handle], laidTests := true, laidLooks := .later }
def OopsSameCardSaid : Prop := Claim7.holds Tryd.pinned (.plain (OpenSpec.ofChange oopsSameSpec)) oopsSameCard

/-- THE TIED CARD OF 'fairleadlaw01.OopsIs'. -/
def oopsIsCard : Claim7 := { stood := { row := oopsIsRow, standIns := [], harness := (true, "a7a205e247d6e18ee60314132f4f37695f0edd2f7b86b7e2903c8ca6bd0ad691"), looks := true }, kinds := [], alts := [], laidByText := true, laidKinds := [.handle], laidTests := true, laidLooks := .later }
def OopsIsCardSaid : Prop := Claim7.holds Tryd.pinned (.plain (OpenSpec.ofChange oopsIsSpec)) oopsIsCard

/-- THE TIED CARD OF 'fairleadlaw01.OopsOthers'. -/
def oopsOthersCard : Claim7 := { stood := { row := oopsOthersRow, standIns := [], harness := (true, "a7a205e247d6e18ee60314132f4f37695f0edd2f7b86b7e2903c8ca6bd0ad691"), looks := true }, kinds := [], alts := [], laidByText := true, laidKinds := [.handle], laidTests := true, laidLooks := .later }
def OopsOthersCardSaid : Prop := Claim7.holds Tryd.pinned (.plain (OpenSpec.ofChange oopsOthersSpec)) oopsOthersCard

/-- THE TIED CARD OF 'fairleadlaw01.OopsUnwraps'. -/
def oopsUnwrapsCard : Claim7 := { stood := { row := oopsUnwrapsRow, standIns := [], harness := (true, "a7a205e247d6e18ee60314132f4f37695f0edd2f7b86b7e2903c8ca6bd0ad691"), looks := true }, kinds := [], alts := [], laidByText := true, laidKinds := [.handle], laidTests := true, laidLooks := .later }
def OopsUnwrapsCardSaid : Prop := Claim7.holds Tryd.pinned (.plain (OpenSpec.ofChange oopsUnwrapsSpec)) oopsUnwrapsCard

/-- THE SECOND FORM's CARD OF 'fairleadlaw01.OopsWraps'. -/
def oopsWrapsUptoCard : Claim7 := { stood := { row := oopsWrapsUptoRow, standIns := [], harness := (true, "a7a205e247d6e18ee60314132f4f37695f0edd2f7b86b7e2903c8ca6bd0ad691"), looks := true }, kinds := [], alts := [], laidByText := true, laidKinds := [.handle], laidTests := true, laidLooks := .later }
def OopsWrapsUptoCardSaid : Prop := Claim7.holds Tryd.pinned (.plain (OpenSpec.upto oopsWrapsSpec)) oopsWrapsUptoCard

/-- THE SECOND FORM's CARD OF 'fairleadlaw01.OopsSame'. -/
def oopsSameUptoCard : Claim7 := { stood := { row := oopsSameUptoRow, standIns := [], harness := (true, "a7a205e247d6e18ee60314132f4f37695f0edd2f7b86b7e2903c8ca6bd0ad691"), looks := true }, kinds := [], alts := [], laidByText := true, laidKinds := [.handle], laidTests := true, laidLooks := .later }
def OopsSameUptoCardSaid : Prop := Claim7.holds Tryd.pinned (.plain (OpenSpec.upto oopsSameSpec)) oopsSameUptoCard

/-- THE SECOND FORM's CARD OF 'fairleadlaw01.OopsIs'. -/
def oopsIsUptoCard : Claim7 := { stood := { row := oopsIsUptoRow, standIns := [], harness := (true, "a7a205e247d6e18ee60314132f4f37695f0edd2f7b86b7e2903c8ca6bd0ad691"), looks := true }, kinds := [], alts := [], laidByText := true, laidKinds := [.handle], laidTests := true, laidLooks := .later }
def OopsIsUptoCardSaid : Prop := Claim7.holds Tryd.pinned (.plain (OpenSpec.upto oopsIsSpec)) oopsIsUptoCard

/-- THE SECOND FORM's CARD OF 'fairleadlaw01.OopsOthers'. -/
def oopsOthersUptoCard : Claim7 := { stood := { row := oopsOthersUptoRow, standIns := [], harness := (true, "a7a205e247d6e18ee60314132f4f37695f0edd2f7b86b7e2903c8ca6bd0ad691"), looks := true }, kinds := [], alts := [], laidByText := true, laidKinds := [.handle], laidTests := true, laidLooks := .later }
def OopsOthersUptoCardSaid : Prop := Claim7.holds Tryd.pinned (.plain (OpenSpec.upto oopsOthersSpec)) oopsOthersUptoCard

/-- THE SECOND FORM's CARD OF 'fairleadlaw01.OopsUnwraps'. -/
def oopsUnwrapsUptoCard : Claim7 := { stood := { row := oopsUnwrapsUptoRow, standIns := [], harness := (true, "a7a205e247d6e18ee60314132f4f37695f0edd2f7b86b7e2903c8ca6bd0ad691"), looks := true }, kinds := [], alts := [], laidByText := true, laidKinds := [.handle], laidTests := true, laidLooks := .later }
def OopsUnwrapsUptoCardSaid : Prop := Claim7.holds Tryd.pinned (.plain (OpenSpec.upto oopsUnwrapsSpec)) oopsUnwrapsUptoCard
end Rows
end Go.Proofs.YtjjokjdhllgohaaDoor
