/-
  DERIVED. GIVEN WITH THE SEED: THE CARDS: each row of YtcbhnfljpbnipaaDoorRows.lean that lists a variable, with what it lists TIED to the program's text (the seventh form; the later family's looks); each row that meets fmt, with fmt's text TOLD by the authors' own Lean function (tested against real Go, not proved from fmt's source: count such statements apart). THE CARD IS WHAT COUNTS. Prove the row's statement (the work); the ties are given (YtcbhnfljpbnipaaDoorTie.lean); close each card by the builder's one call (the guide's Derived/Test/ToyasCard.lean, 'card_holds'). Laid BY PROGRAM, IN A SANDBOX (cutbox-door.mjs). By AI agents, Wed Nov 11 2026. No macro, syntax, notation, axiom, sorry.
-/
import Derived.Test.YtcbhnfljpbnipaaDoorRows
import GoSem.ClaimSeven
namespace Go.Proofs.YtcbhnfljpbnipaaDoor
namespace Rows

/-- THE TIED CARD OF 'pyxislaw08.GhashMuls'. -/
def ghashMulsCard : Claim7 := { stood := { row := ghashMulsRow, standIns := [], harness := (true, "8e5e6ab56a3fe74f2594f8117a9e30f1c345a2ed6416bea7ef6e1b6e2a75c0c8"), looks := false }, kinds := [], alts := [], laidByText := true, laidKinds := [.data], laidTests := true, laidLooks := .later }
def GhashMulsCardSaid : Prop := Claim7.holds Tryd.pinned (.plain (OpenSpec.ofChange ghashMulsSpec)) ghashMulsCard

/-- THE TIED CARD OF 'pyxislaw08.GhashField'. -/
def ghashFieldCard : Claim7 := { stood := { row := ghashFieldRow, standIns := [], harness := (true, "8e5e6ab56a3fe74f2594f8117a9e30f1c345a2ed6416bea7ef6e1b6e2a75c0c8"), looks := false }, kinds := [], alts := [], laidByText := true, laidKinds := [.data], laidTests := true, laidLooks := .later }
def GhashFieldCardSaid : Prop := Claim7.holds Tryd.pinned (.plain (OpenSpec.ofChange ghashFieldSpec)) ghashFieldCard

/-- THE TIED CARD OF 'pyxislaw08.GhashSums'. -/
def ghashSumsCard : Claim7 := { stood := { row := ghashSumsRow, standIns := [], harness := (true, "8e5e6ab56a3fe74f2594f8117a9e30f1c345a2ed6416bea7ef6e1b6e2a75c0c8"), looks := false }, kinds := [], alts := [], laidByText := true, laidKinds := [.data], laidTests := true, laidLooks := .later }
def GhashSumsCardSaid : Prop := Claim7.holds Tryd.pinned (.plain (OpenSpec.ofChange ghashSumsSpec)) ghashSumsCard

/-- THE TIED CARD OF 'pyxislaw08.GhashJoins'. -/
def ghashJoinsCard : Claim7 := { stood := { row := ghashJoinsRow, standIns := [], harness := (true, "8e5e6ab56a3fe74f2594f8117a9e30f1c345a2ed6416bea7ef6e1b6e2a75c0c8"), looks := false }, kinds := [], alts := [], laidByText := true, laidKinds := [.data], laidTests := true, laidLooks := .later }
def GhashJoinsCardSaid : Prop := Claim7.holds Tryd.pinned (.plain (OpenSpec.ofChange ghashJoinsSpec)) ghashJoinsCard

/-- THE TIED CARD OF 'pyxislaw08.GhashShares'. -/
def ghashSharesCard : Claim7 := { stood := { row := ghashSharesRow, standIns := [], harness := (true, "8e5e6ab56a3fe74f2594f8117a9e30f1c345a2ed6416bea7ef6e1b6e2a75c0c8"), looks := false }, kinds := [], alts := [], laidByText := true, laidKinds := [.data], laidTests := true, laidLooks := .later }
def GhashSharesCardSaid : Prop := Claim7.holds Tryd.pinned (.plain (OpenSpec.ofChange ghashSharesSpec)) ghashSharesCard

/-- THE SECOND FORM's CARD OF 'pyxislaw08.GhashMuls'. -/
def ghashMulsUptoCard : Claim7 := { stood := { row := ghashMulsUptoRow, standIns := [], harness := (true, "8e5e6ab56a3fe74f2594f8117a9e30f1c345a2ed6416bea7ef6e1b6e2a75c0c8"), looks := false }, kinds := [], alts := [], laidByText := true, laidKinds := [.data], laidTests := true, laidLooks := .later }
def GhashMulsUptoCardSaid : Prop := Claim7.holds Tryd.pinned (.plain (OpenSpec.upto ghashMulsSpec)) ghashMulsUptoCard

/-- THE SECOND FORM's CARD OF 'pyxislaw08.GhashField'. -/
def ghashFieldUptoCard : Claim7 := { stood := { row := ghashFieldUptoRow, standIns := [], harness := (true, "8e5e6ab56a3fe74f2594f8117a9e30f1c345a2ed6416bea7ef6e1b6e2a75c0c8"), looks := false }, kinds := [], alts := [], laidByText := true, laidKinds := [.data], laidTests := true, laidLooks := .later }
def GhashFieldUptoCardSaid : Prop := Claim7.holds Tryd.pinned (.plain (OpenSpec.upto ghashFieldSpec)) ghashFieldUptoCard

/-- THE SECOND FORM's CARD OF 'pyxislaw08.GhashSums'. -/
def ghashSumsUptoCard : Claim7 := { stood := { row := ghashSumsUptoRow, standIns := [], harness := (true, "8e5e6ab56a3fe74f2594f8117a9e30f1c345a2ed6416bea7ef6e1b6e2a75c0c8"), looks := false }, kinds := [], alts := [], laidByText := true, laidKinds := [.data], laidTests := true, laidLooks := .later }
def GhashSumsUptoCardSaid : Prop := Claim7.holds Tryd.pinned (.plain (OpenSpec.upto ghashSumsSpec)) ghashSumsUptoCard

/-- THE SECOND FORM's CARD OF 'pyxislaw08.GhashJoins'. -/
def ghashJoinsUptoCard : Claim7 := { stood := { row := ghashJoinsUptoRow, standIns := [], harness := (true, "8e5e6ab56a3fe74f2594f8117a9e30f1c345a2ed6416bea7ef6e1b6e2a75c0c8"), looks := false }, kinds := [], alts := [], laidByText := true, laidKinds := [.data], laidTests := true, laidLooks := .later }
def GhashJoinsUptoCardSaid : Prop := Claim7.holds Tryd.pinned (.plain (OpenSpec.upto ghashJoinsSpec)) ghashJoinsUptoCard

/-- THE SECOND FORM's CARD OF 'pyxislaw08.GhashShares'. -/
def ghashSharesUptoCard : Claim7 := { stood := { row := ghashSharesUptoRow, standIns := [], harness := (true, "8e5e6ab56a3fe74f2594f8117a9e30f1c345a2ed6416bea7ef6e1b6e2a75c0c8"), looks := false }, kinds := [], alts := [], laidByText := true, laidKinds := [.data], laidTests := true, laidLooks := .later }
def GhashSharesUptoCardSaid : Prop := Claim7.holds Tryd.pinned (.plain (OpenSpec.upto ghashSharesSpec)) ghashSharesUptoCard
end Rows
end Go.Proofs.YtcbhnfljpbnipaaDoor
