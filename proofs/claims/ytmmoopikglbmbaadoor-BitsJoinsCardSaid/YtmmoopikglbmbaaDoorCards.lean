/-
  DERIVED. GIVEN WITH THE SEED: THE CARDS: each row of YtmmoopikglbmbaaDoorRows.lean that lists a variable, with what it lists TIED to the program's text (the seventh form; the later family's looks); each row that meets fmt, with fmt's text TOLD by the authors' own Lean function (tested against real Go, not proved from fmt's source: count such statements apart). THE CARD IS WHAT COUNTS. Prove the row's statement (the work); the ties are given (YtmmoopikglbmbaaDoorTie.lean); close each card by the builder's one call (the guide's Derived/Test/ToyasCard.lean, 'card_holds'). Laid BY PROGRAM, IN A SANDBOX (cutbox-door.mjs). By AI agents, Wed Nov 11 2026. No macro, syntax, notation, axiom, sorry.
-/
import Derived.Test.YtmmoopikglbmbaaDoorRows
import GoSem.ClaimSeven
namespace Go.Proofs.YtmmoopikglbmbaaDoor
namespace Rows

/-- THE TIED CARD OF 'fairleadlaw07.BitsWalks'. -/
def bitsWalksCard : Claim7 := { stood := { row := bitsWalksRow, standIns := [], harness := (true, "5e6771e8a61b3cf82111cd191a300e05b68bc0b955ae121955f1b2320ede174d"), looks := false }, kinds := [], alts := [], laidByText := true, laidKinds := [.data], laidTests := true, laidLooks := .later }
def BitsWalksCardSaid : Prop := Claim7.holds Tryd.pinned (.plain (OpenSpec.ofChange bitsWalksSpec)) bitsWalksCard

/-- THE TIED CARD OF 'fairleadlaw07.BitsLaws'. -/
def bitsLawsCard : Claim7 := { stood := { row := bitsLawsRow, standIns := [], harness := (true, "5e6771e8a61b3cf82111cd191a300e05b68bc0b955ae121955f1b2320ede174d"), looks := false }, kinds := [], alts := [], laidByText := true, laidKinds := [.data], laidTests := true, laidLooks := .later }
def BitsLawsCardSaid : Prop := Claim7.holds Tryd.pinned (.plain (OpenSpec.ofChange bitsLawsSpec)) bitsLawsCard

/-- THE TIED CARD OF 'fairleadlaw07.BitsOf'. -/
def bitsOfCard : Claim7 := { stood := { row := bitsOfRow, standIns := [], harness := (true, "5e6771e8a61b3cf82111cd191a300e05b68bc0b955ae121955f1b2320ede174d"), looks := false }, kinds := [], alts := [], laidByText := true, laidKinds := [.data], laidTests := true, laidLooks := .later }
def BitsOfCardSaid : Prop := Claim7.holds Tryd.pinned (.plain (OpenSpec.ofChange bitsOfSpec)) bitsOfCard

/-- THE TIED CARD OF 'fairleadlaw09.HeaderValid'. -/
def headerValidCard : Claim7 := { stood := { row := headerValidRow, standIns := [], harness := (true, "5e6771e8a61b3cf82111cd191a300e05b68bc0b955ae121955f1b2320ede174d"), looks := false }, kinds := [], alts := [], laidByText := true, laidKinds := [.data], laidTests := true, laidLooks := .later }
def HeaderValidCardSaid : Prop := Claim7.holds Tryd.pinned (.plain (OpenSpec.ofChange headerValidSpec)) headerValidCard

/-- THE TIED CARD OF 'fairleadlaw09.HeaderEnds'. -/
def headerEndsCard : Claim7 := { stood := { row := headerEndsRow, standIns := [], harness := (true, "5e6771e8a61b3cf82111cd191a300e05b68bc0b955ae121955f1b2320ede174d"), looks := false }, kinds := [], alts := [], laidByText := true, laidKinds := [.data], laidTests := true, laidLooks := .later }
def HeaderEndsCardSaid : Prop := Claim7.holds Tryd.pinned (.plain (OpenSpec.ofChange headerEndsSpec)) headerEndsCard

/-- THE TIED CARD OF 'fairleadlaw07.BitsJoins'. -/
def bitsJoinsCard : Claim7 := { stood := { row := bitsJoinsRow, standIns := [], harness := (true, "5e6771e8a61b3cf82111cd191a300e05b68bc0b955ae121955f1b2320ede174d"), looks := false }, kinds := [], alts := [], laidByText := true, laidKinds := [.data], laidTests := true, laidLooks := .later }
def BitsJoinsCardSaid : Prop := Claim7.holds Tryd.pinned (.plain (OpenSpec.ofChange bitsJoinsSpec)) bitsJoinsCard

/-- THE TIED CARD OF 'fairleadlaw09.HeaderKinds'. -/
def headerKindsCard : Claim7 := { stood := { row := headerKindsRow, standIns := [], harness := (true, "5e6771e8a61b3cf82111cd191a300e05b68bc0b955ae121955f1b2320ede174d"), looks := false }, kinds := [], alts := [], laidByText := true, laidKinds := [.data], laidTests := true, laidLooks := .later }
def HeaderKindsCardSaid : Prop := Claim7.holds Tryd.pinned (.plain (OpenSpec.ofChange headerKindsSpec)) headerKindsCard

/-- THE TIED CARD OF 'fairleadlaw09.HeaderLays'. -/
def headerLaysCard : Claim7 := { stood := { row := headerLaysRow, standIns := [], harness := (true, "5e6771e8a61b3cf82111cd191a300e05b68bc0b955ae121955f1b2320ede174d"), looks := false }, kinds := [], alts := [], laidByText := true, laidKinds := [.data], laidTests := true, laidLooks := .later }
def HeaderLaysCardSaid : Prop := Claim7.holds Tryd.pinned (.plain (OpenSpec.ofChange headerLaysSpec)) headerLaysCard

/-- THE SECOND FORM's CARD OF 'fairleadlaw07.BitsWalks'. -/
def bitsWalksUptoCard : Claim7 := { stood := { row := bitsWalksUptoRow, standIns := [], harness := (true, "5e6771e8a61b3cf82111cd191a300e05b68bc0b955ae121955f1b2320ede174d"), looks := false }, kinds := [], alts := [], laidByText := true, laidKinds := [.data], laidTests := true, laidLooks := .later }
def BitsWalksUptoCardSaid : Prop := Claim7.holds Tryd.pinned (.plain (OpenSpec.upto bitsWalksSpec)) bitsWalksUptoCard

/-- THE SECOND FORM's CARD OF 'fairleadlaw07.BitsLaws'. -/
def bitsLawsUptoCard : Claim7 := { stood := { row := bitsLawsUptoRow, standIns := [], harness := (true, "5e6771e8a61b3cf82111cd191a300e05b68bc0b955ae121955f1b2320ede174d"), looks := false }, kinds := [], alts := [], laidByText := true, laidKinds := [.data], laidTests := true, laidLooks := .later }
def BitsLawsUptoCardSaid : Prop := Claim7.holds Tryd.pinned (.plain (OpenSpec.upto bitsLawsSpec)) bitsLawsUptoCard

/-- THE SECOND FORM's CARD OF 'fairleadlaw07.BitsOf'. -/
def bitsOfUptoCard : Claim7 := { stood := { row := bitsOfUptoRow, standIns := [], harness := (true, "5e6771e8a61b3cf82111cd191a300e05b68bc0b955ae121955f1b2320ede174d"), looks := false }, kinds := [], alts := [], laidByText := true, laidKinds := [.data], laidTests := true, laidLooks := .later }
def BitsOfUptoCardSaid : Prop := Claim7.holds Tryd.pinned (.plain (OpenSpec.upto bitsOfSpec)) bitsOfUptoCard

/-- THE SECOND FORM's CARD OF 'fairleadlaw09.HeaderValid'. -/
def headerValidUptoCard : Claim7 := { stood := { row := headerValidUptoRow, standIns := [], harness := (true, "5e6771e8a61b3cf82111cd191a300e05b68bc0b955ae121955f1b2320ede174d"), looks := false }, kinds := [], alts := [], laidByText := true, laidKinds := [.data], laidTests := true, laidLooks := .later }
def HeaderValidUptoCardSaid : Prop := Claim7.holds Tryd.pinned (.plain (OpenSpec.upto headerValidSpec)) headerValidUptoCard

/-- THE SECOND FORM's CARD OF 'fairleadlaw09.HeaderEnds'. -/
def headerEndsUptoCard : Claim7 := { stood := { row := headerEndsUptoRow, standIns := [], harness := (true, "5e6771e8a61b3cf82111cd191a300e05b68bc0b955ae121955f1b2320ede174d"), looks := false }, kinds := [], alts := [], laidByText := true, laidKinds := [.data], laidTests := true, laidLooks := .later }
def HeaderEndsUptoCardSaid : Prop := Claim7.holds Tryd.pinned (.plain (OpenSpec.upto headerEndsSpec)) headerEndsUptoCard

/-- THE SECOND FORM's CARD OF 'fairleadlaw07.BitsJoins'. -/
def bitsJoinsUptoCard : Claim7 := { stood := { row := bitsJoinsUptoRow, standIns := [], harness := (true, "5e6771e8a61b3cf82111cd191a300e05b68bc0b955ae121955f1b2320ede174d"), looks := false }, kinds := [], alts := [], laidByText := true, laidKinds := [.data], laidTests := true, laidLooks := .later }
def BitsJoinsUptoCardSaid : Prop := Claim7.holds Tryd.pinned (.plain (OpenSpec.upto bitsJoinsSpec)) bitsJoinsUptoCard

/-- THE SECOND FORM's CARD OF 'fairleadlaw09.HeaderKinds'. -/
def headerKindsUptoCard : Claim7 := { stood := { row := headerKindsUptoRow, standIns := [], harness := (true, "5e6771e8a61b3cf82111cd191a300e05b68bc0b955ae121955f1b2320ede174d"), looks := false }, kinds := [], alts := [], laidByText := true, laidKinds := [.data], laidTests := true, laidLooks := .later }
def HeaderKindsUptoCardSaid : Prop := Claim7.holds Tryd.pinned (.plain (OpenSpec.upto headerKindsSpec)) headerKindsUptoCard

/-- THE SECOND FORM's CARD OF 'fairleadlaw09.HeaderLays'. -/
def headerLaysUptoCard : Claim7 := { stood := { row := headerLaysUptoRow, standIns := [], harness := (true, "5e6771e8a61b3cf82111cd191a300e05b68bc0b955ae121955f1b2320ede174d"), looks := false }, kinds := [], alts := [], laidByText := true, laidKinds := [.data], laidTests := true, laidLooks := .later }
def HeaderLaysUptoCardSaid : Prop := Claim7.holds Tryd.pinned (.plain (OpenSpec.upto headerLaysSpec)) headerLaysUptoCard
end Rows
end Go.Proofs.YtmmoopikglbmbaaDoor
