/-
  DERIVED. GIVEN WITH THE SEED: THE CARDS: each row of YtplcjgpmainbnaaDoorRows.lean that lists a variable, with what it lists TIED to the program's text (the seventh form; the later family's looks); each row that meets fmt, with fmt's text TOLD by the authors' own Lean function (tested against real Go, not proved from fmt's source: count such statements apart). THE CARD IS WHAT COUNTS. Prove the row's statement (the work); the ties are given (YtplcjgpmainbnaaDoorTie.lean); close each card by the builder's one call (the guide's Derived/Test/ToyasCard.lean, 'card_holds'). Laid BY PROGRAM, IN A SANDBOX (cutbox-door.mjs). By AI agents, Wed Nov 11 2026. No macro, syntax, notation, axiom, sorry.
-/
import Derived.Test.YtplcjgpmainbnaaDoorRows
import GoSem.ClaimSeven
namespace Go.Proofs.YtplcjgpmainbnaaDoor
namespace Rows

/-- THE TIED CARD OF 'cupellaw03.MerkleRoots'. -/
def merkleRootsCard : Claim7 := { stood := { row := merkleRootsRow, standIns := [], harness := (true, "fd13f33c199cc644e5491ebbd3aff22f32c68151180ca337c95be201aedc2dbd"), looks := false }, kinds := [], alts := [], laidByText := true, laidKinds := [.data, .data], laidTests := true, laidLooks := .later }
def MerkleRootsCardSaid : Prop := Claim7.holds Tryd.pinned (.plain (OpenSpec.ofChange merkleRootsSpec)) merkleRootsCard

/-- THE TIED CARD OF 'cupellaw03.MerkleSplits'. -/
def merkleSplitsCard : Claim7 := { stood := { row := merkleSplitsRow, standIns := [], harness := (true, "fd13f33c199cc644e5491ebbd3aff22f32c68151180ca337c95be201aedc2dbd"), looks := false }, kinds := [], alts := [], laidByText := true, laidKinds := [.data, .data], laidTests := true, laidLooks := .later }
def MerkleSplitsCardSaid : Prop := Claim7.holds Tryd.pinned (.plain (OpenSpec.ofChange merkleSplitsSpec)) merkleSplitsCard

/-- THE TIED CARD OF 'cupellaw03.MerkleProves'. -/
def merkleProvesCard : Claim7 := { stood := { row := merkleProvesRow, standIns := [], harness := (true, "fd13f33c199cc644e5491ebbd3aff22f32c68151180ca337c95be201aedc2dbd"), looks := false }, kinds := [], alts := [], laidByText := true, laidKinds := [.data, .data], laidTests := true, laidLooks := .later }
def MerkleProvesCardSaid : Prop := Claim7.holds Tryd.pinned (.plain (OpenSpec.ofChange merkleProvesSpec)) merkleProvesCard

/-- THE TIED CARD OF 'cupellaw03.MerkleOnly'. -/
def merkleOnlyCard : Claim7 := { stood := { row := merkleOnlyRow, standIns := [], harness := (true, "fd13f33c199cc644e5491ebbd3aff22f32c68151180ca337c95be201aedc2dbd"), looks := false }, kinds := [], alts := [], laidByText := true, laidKinds := [.data, .data], laidTests := true, laidLooks := .later }
def MerkleOnlyCardSaid : Prop := Claim7.holds Tryd.pinned (.plain (OpenSpec.ofChange merkleOnlySpec)) merkleOnlyCard

/-- THE TIED CARD OF 'cupellaw03.MerkleTurns'. -/
def merkleTurnsCard : Claim7 := { stood := { row := merkleTurnsRow, standIns := [], harness := (true, "fd13f33c199cc644e5491ebbd3aff22f32c68151180ca337c95be201aedc2dbd"), looks := false }, kinds := [], alts := [], laidByText := true, laidKinds := [.data, .data], laidTests := true, laidLooks := .later }
def MerkleTurnsCardSaid : Prop := Claim7.holds Tryd.pinned (.plain (OpenSpec.ofChange merkleTurnsSpec)) merkleTurnsCard

/-- THE TIED CARD OF 'cupellaw03.MerkleNil'. -/
def merkleNilCard : Claim7 := { stood := { row := merkleNilRow, standIns := [], harness := (true, "fd13f33c199cc644e5491ebbd3aff22f32c68151180ca337c95be201aedc2dbd"), looks := false }, kinds := [], alts := [], laidByText := true, laidKinds := [.data, .data], laidTests := true, laidLooks := .later }
def MerkleNilCardSaid : Prop := Claim7.holds Tryd.pinned (.plain (OpenSpec.ofChange merkleNilSpec)) merkleNilCard

/-- THE TIED CARD OF 'cupellaw03.MerkleBack'. -/
def merkleBackCard : Claim7 := { stood := { row := merkleBackRow, standIns := [], harness := (true, "fd13f33c199cc644e5491ebbd3aff22f32c68151180ca337c95be201aedc2dbd"), looks := false }, kinds := [], alts := [], laidByText := true, laidKinds := [.data, .data], laidTests := true, laidLooks := .later }
def MerkleBackCardSaid : Prop := Claim7.holds Tryd.pinned (.plain (OpenSpec.ofChange merkleBackSpec)) merkleBackCard

/-- THE SECOND FORM's CARD OF 'cupellaw03.MerkleRoots'. -/
def merkleRootsUptoCard : Claim7 := { stood := { row := merkleRootsUptoRow, standIns := [], harness := (true, "fd13f33c199cc644e5491ebbd3aff22f32c68151180ca337c95be201aedc2dbd"), looks := false }, kinds := [], alts := [], laidByText := true, laidKinds := [.data, .data], laidTests := true, laidLooks := .later }
def MerkleRootsUptoCardSaid : Prop := Claim7.holds Tryd.pinned (.plain (OpenSpec.upto merkleRootsSpec)) merkleRootsUptoCard

/-- THE SECOND FORM's CARD OF 'cupellaw03.MerkleSplits'. -/
def merkleSplitsUptoCard : Claim7 := { stood := { row := merkleSplitsUptoRow, standIns := [], harness := (true, "fd13f33c199cc644e5491ebbd3aff22f32c68151180ca337c95be201aedc2dbd"), looks := false }, kinds := [], alts := [], laidByText := true, laidKinds := [.data, .data], laidTests := true, laidLooks := .later }
def MerkleSplitsUptoCardSaid : Prop := Claim7.holds Tryd.pinned (.plain (OpenSpec.upto merkleSplitsSpec)) merkleSplitsUptoCard

/-- THE SECOND FORM's CARD OF 'cupellaw03.MerkleProves'. -/
def merkleProvesUptoCard : Claim7 := { stood := { row := merkleProvesUptoRow, standIns := [], harness := (true, "fd13f33c199cc644e5491ebbd3aff22f32c68151180ca337c95be201aedc2dbd"), looks := false }, kinds := [], alts := [], laidByText := true, laidKinds := [.data, .data], laidTests := true, laidLooks := .later }
def MerkleProvesUptoCardSaid : Prop := Claim7.holds Tryd.pinned (.plain (OpenSpec.upto merkleProvesSpec)) merkleProvesUptoCard

/-- THE SECOND FORM's CARD OF 'cupellaw03.MerkleOnly'. -/
def merkleOnlyUptoCard : Claim7 := { stood := { row := merkleOnlyUptoRow, standIns := [], harness := (true, "fd13f33c199cc644e5491ebbd3aff22f32c68151180ca337c95be201aedc2dbd"), looks := false }, kinds := [], alts := [], laidByText := true, laidKinds := [.data, .data], laidTests := true, laidLooks := .later }
def MerkleOnlyUptoCardSaid : Prop := Claim7.holds Tryd.pinned (.plain (OpenSpec.upto merkleOnlySpec)) merkleOnlyUptoCard

/-- THE SECOND FORM's CARD OF 'cupellaw03.MerkleTurns'. -/
def merkleTurnsUptoCard : Claim7 := { stood := { row := merkleTurnsUptoRow, standIns := [], harness := (true, "fd13f33c199cc644e5491ebbd3aff22f32c68151180ca337c95be201aedc2dbd"), looks := false }, kinds := [], alts := [], laidByText := true, laidKinds := [.data, .data], laidTests := true, laidLooks := .later }
def MerkleTurnsUptoCardSaid : Prop := Claim7.holds Tryd.pinned (.plain (OpenSpec.upto merkleTurnsSpec)) merkleTurnsUptoCard

/-- THE SECOND FORM's CARD OF 'cupellaw03.MerkleNil'. -/
def merkleNilUptoCard : Claim7 := { stood := { row := merkleNilUptoRow, standIns := [], harness := (true, "fd13f33c199cc644e5491ebbd3aff22f32c68151180ca337c95be201aedc2dbd"), looks := false }, kinds := [], alts := [], laidByText := true, laidKinds := [.data, .data], laidTests := true, laidLooks := .later }
def MerkleNilUptoCardSaid : Prop := Claim7.holds Tryd.pinned (.plain (OpenSpec.upto merkleNilSpec)) merkleNilUptoCard

/-- THE SECOND FORM's CARD OF 'cupellaw03.MerkleBack'. -/
def merkleBackUptoCard : Claim7 := { stood := { row := merkleBackUptoRow, standIns := [], harness := (true, "fd13f33c199cc644e5491ebbd3aff22f32c68151180ca337c95be201aedc2dbd"), looks := false }, kinds := [], alts := [], laidByText := true, laidKinds := [.data, .data], laidTests := true, laidLooks := .later }
def MerkleBackUptoCardSaid : Prop := Claim7.holds Tryd.pinned (.plain (OpenSpec.upto merkleBackSpec)) merkleBackUptoCard
end Rows
end Go.Proofs.YtplcjgpmainbnaaDoor
