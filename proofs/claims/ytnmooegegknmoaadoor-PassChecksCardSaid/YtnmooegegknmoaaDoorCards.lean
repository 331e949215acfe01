/-
  DERIVED. GIVEN WITH THE SEED: THE CARDS: each row of YtnmooegegknmoaaDoorRows.lean that lists a variable, with what it lists TIED to the program's text (the seventh form; the later family's looks); each row that meets fmt, with fmt's text TOLD by the authors' own Lean function (tested against real Go, not proved from fmt's source: count such statements apart). THE CARD IS WHAT COUNTS. Prove the row's statement (the work); the ties are given (YtnmooegegknmoaaDoorTie.lean); close each card by the builder's one call (the guide's Derived/Test/ToyasCard.lean, 'card_holds'). Laid BY PROGRAM, IN A SANDBOX (cutbox-door.mjs). By AI agents, Wed Nov 11 2026. No macro, syntax, notation, axiom, sorry.
-/
import Derived.Test.YtnmooegegknmoaaDoorRows
import GoSem.ClaimSeven
namespace Go.Proofs.YtnmooegegknmoaaDoor
namespace Rows

/-- THE TIED CARD OF 'castellanlaw03.ShaSums'. -/
def shaSumsCard : Claim7 := { stood := { row := shaSumsRow, standIns := [], harness := (true, "c7444fc4304547676f270652a00b2a6910c9485f15eeee033498d98170aad91f"), looks := false }, kinds := [], alts := [], laidByText := true, laidKinds := [.data, .data], laidTests := true, laidLooks := .later }
def ShaSumsCardSaid : Prop := Claim7.holds Tryd.pinned (.plain (OpenSpec.ofChange shaSumsSpec)) shaSumsCard

/-- THE TIED CARD OF 'castellanlaw03.ShaParts'. -/
def shaPartsCard : Claim7 := { stood := { row := shaPartsRow, standIns := [], harness := (true, "c7444fc4304547676f270652a00b2a6910c9485f15eeee033498d98170aad91f"), looks := false }, kinds := [], alts := [], laidByText := true, laidKinds := [.data, .data], laidTests := true, laidLooks := .later }
def ShaPartsCardSaid : Prop := Claim7.holds Tryd.pinned (.plain (OpenSpec.ofChange shaPartsSpec)) shaPartsCard

/-- THE TIED CARD OF 'castellanlaw03.ShaStates'. -/
def shaStatesCard : Claim7 := { stood := { row := shaStatesRow, standIns := [], harness := (true, "c7444fc4304547676f270652a00b2a6910c9485f15eeee033498d98170aad91f"), looks := false }, kinds := [], alts := [], laidByText := true, laidKinds := [.data, .data], laidTests := true, laidLooks := .later }
def ShaStatesCardSaid : Prop := Claim7.holds Tryd.pinned (.plain (OpenSpec.ofChange shaStatesSpec)) shaStatesCard

/-- THE TIED CARD OF 'castellanlaw03.ShaNil'. -/
def shaNilCard : Claim7 := { stood := { row := shaNilRow, standIns := [], harness := (true, "c7444fc4304547676f270652a00b2a6910c9485f15eeee033498d98170aad91f"), looks := false }, kinds := [], alts := [], laidByText := true, laidKinds := [.data, .data], laidTests := true, laidLooks := .later }
def ShaNilCardSaid : Prop := Claim7.holds Tryd.pinned (.plain (OpenSpec.ofChange shaNilSpec)) shaNilCard

/-- THE TIED CARD OF 'castellanlaw04.PassMakes'. -/
def passMakesCard : Claim7 := { stood := { row := passMakesRow, standIns := [], harness := (true, "c7444fc4304547676f270652a00b2a6910c9485f15eeee033498d98170aad91f"), looks := false }, kinds := [], alts := [], laidByText := true, laidKinds := [.data, .data], laidTests := true, laidLooks := .later }
def PassMakesCardSaid : Prop := Claim7.holds Tryd.pinned (.plain (OpenSpec.ofChange passMakesSpec)) passMakesCard

/-- THE TIED CARD OF 'castellanlaw04.PassStores'. -/
def passStoresCard : Claim7 := { stood := { row := passStoresRow, standIns := [], harness := (true, "c7444fc4304547676f270652a00b2a6910c9485f15eeee033498d98170aad91f"), looks := false }, kinds := [], alts := [], laidByText := true, laidKinds := [.data, .data], laidTests := true, laidLooks := .later }
def PassStoresCardSaid : Prop := Claim7.holds Tryd.pinned (.plain (OpenSpec.ofChange passStoresSpec)) passStoresCard

/-- THE TIED CARD OF 'castellanlaw04.PassChecks'. -/
def passChecksCard : Claim7 := { stood := { row := passChecksRow, standIns := [], harness := (true, "c7444fc4304547676f270652a00b2a6910c9485f15eeee033498d98170aad91f"), looks := false }, kinds := [], alts := [], laidByText := true, laidKinds := [.data, .data], laidTests := true, laidLooks := .later }
def PassChecksCardSaid : Prop := Claim7.holds Tryd.pinned (.plain (OpenSpec.ofChange passChecksSpec)) passChecksCard

/-- THE TIED CARD OF 'castellanlaw04.PassOwn'. -/
def passOwnCard : Claim7 := { stood := { row := passOwnRow, standIns := [], harness := (true, "c7444fc4304547676f270652a00b2a6910c9485f15eeee033498d98170aad91f"), looks := false }, kinds := [], alts := [], laidByText := true, laidKinds := [.data, .data], laidTests := true, laidLooks := .later }
def PassOwnCardSaid : Prop := Claim7.holds Tryd.pinned (.plain (OpenSpec.ofChange passOwnSpec)) passOwnCard

/-- THE SECOND FORM's CARD OF 'castellanlaw03.ShaSums'. -/
def shaSumsUptoCard : Claim7 := { stood := { row := shaSumsUptoRow, standIns := [], harness := (true, "c7444fc4304547676f270652a00b2a6910c9485f15eeee033498d98170aad91f"), looks := false }, kinds := [], alts := [], laidByText := true, laidKinds := [.data, .data], laidTests := true, laidLooks := .later }
def ShaSumsUptoCardSaid : Prop := Claim7.holds Tryd.pinned (.plain (OpenSpec.upto shaSumsSpec)) shaSumsUptoCard

/-- THE SECOND FORM's CARD OF 'castellanlaw03.ShaParts'. -/
def shaPartsUptoCard : Claim7 := { stood := { row := shaPartsUptoRow, standIns := [], harness := (true, "c7444fc4304547676f270652a00b2a6910c9485f15eeee033498d98170aad91f"), looks := false }, kinds := [], alts := [], laidByText := true, laidKinds := [.data, .data], laidTests := true, laidLooks := .later }
def ShaPartsUptoCardSaid : Prop := Claim7.holds Tryd.pinned (.plain (OpenSpec.upto shaPartsSpec)) shaPartsUptoCard

/-- THE SECOND FORM's CARD OF 'castellanlaw03.ShaStates'. -/
def shaStatesUptoCard : Claim7 := { stood := { row := shaStatesUptoRow, standIns := [], harness := (true, "c7444fc4304547676f270652a00b2a6910c9485f15eeee033498d98170aad91f"), looks := false }, kinds := [], alts := [], laidByText := true, laidKinds := [.data, .data], laidTests := true, laidLooks := .later }
def ShaStatesUptoCardSaid : Prop := Claim7.holds Tryd.pinned (.plain (OpenSpec.upto shaStatesSpec)) shaStatesUptoCard

/-- THE SECOND FORM's CARD OF 'castellanlaw03.ShaNil'. -/
def shaNilUptoCard : Claim7 := { stood := { row := shaNilUptoRow, standIns := [], harness := (true, "c7444fc4304547676f270652a00b2a6910c9485f15eeee033498d98170aad91f"), looks := false }, kinds := [], alts := [], laidByText := true, laidKinds := [.data, .data], laidTests := true, laidLooks := .later }
def ShaNilUptoCardSaid : Prop := Claim7.holds Tryd.pinned (.plain (OpenSpec.upto shaNilSpec)) shaNilUptoCard

/-- THE SECOND FORM's CARD OF 'castellanlaw04.PassMakes'. -/
def passMakesUptoCard : Claim7 := { stood := { row := passMakesUptoRow, standIns := [], harness := (true, "c7444fc4304547676f270652a00b2a6910c9485f15eeee033498d98170aad91f"), looks := false }, kinds := [], alts := [], laidByText := true, laidKinds := [.data, .data], laidTests := true, laidLooks := .later }
def PassMakesUptoCardSaid : Prop := Claim7.holds Tryd.pinned (.plain (OpenSpec.upto passMakesSpec)) passMakesUptoCard

/-- THE SECOND FORM's CARD OF 'castellanlaw04.PassStores'. -/
def passStoresUptoCard : Claim7 := { stood := { row := passStoresUptoRow, standIns := [], harness := (true, "c7444fc4304547676f270652a00b2a6910c9485f15eeee033498d98170aad91f"), looks := false }, kinds := [], alts := [], laidByText := true, laidKinds := [.data, .data], laidTests := true, laidLooks := .later }
def PassStoresUptoCardSaid : Prop := Claim7.holds Tryd.pinned (.plain (OpenSpec.upto passStoresSpec)) passStoresUptoCard

/-- THE SECOND FORM's CARD OF 'castellanlaw04.PassChecks'. -/
def passChecksUptoCard : Claim7 := { stood := { row := passChecksUptoRow, standIns := [], harness := (true, "c7444fc4304547676f270652a00b2a6910c9485f15eeee033498d98170aad91f"), looks := false }, kinds := [], alts := [], laidByText := true, laidKinds := [.data, .data], laidTests := true, laidLooks := .later }
def PassChecksUptoCardSaid : Prop := Claim7.holds Tryd.pinned (.plain (OpenSpec.upto passChecksSpec)) passChecksUptoCard

/-- THE SECOND FORM's CARD OF 'castellanlaw04.PassOwn'. -/
def passOwnUptoCard : Claim7 := { stood := { row := passOwnUptoRow, standIns := [], harness := (true, "c7444fc4304547676f270652a00b2a6910c9485f15eeee033498d98170aad91f"), looks := false }, kinds := [], alts := [], laidByText := true, laidKinds := [.data, .data], laidTests := true, laidLooks := .later }
def PassOwnUptoCardSaid : Prop := Claim7.holds Tryd.pinned (.plain (OpenSpec.upto passOwnSpec)) passOwnUptoCard
end Rows
end Go.Proofs.YtnmooegegknmoaaDoor
