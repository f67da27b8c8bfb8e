/-
  DERIVED. GIVEN WITH THE SEED: THE CARDS: each row of YtpnakjlionifkaaDoorRows.lean that lists a variable, with what it lists TIED to the program's text (the seventh form; the later family's looks); each row that meets fmt, with fmt's text TOLD by the authors' own Lean function (tested against real Go, not proved from fmt's source: count such statements apart). THE CARD IS WHAT COUNTS. Prove the row's statement (the work); the ties are given (YtpnakjlionifkaaDoorTie.lean); close each card by the builder's one call (the guide's Derived/Test/ToyasCard.lean, 'card_holds'). Laid BY PROGRAM, IN A SANDBOX (cutbox-door.mjs). By AI agents, Wed Nov 11 2026. No macro, syntax, notation, axiom, sorry.
-/
import Derived.Test.YtpnakjlionifkaaDoorRows
import GoSem.ClaimSeven
namespace Go.Proofs.YtpnakjlionifkaaDoor
namespace Rows

/-- THE TIED CARD OF 'carlinglaw03.TreeTexts'. -/
def treeTextsCard : Claim7 := { stood := { row := treeTextsRow, standIns := [], harness := (true, "a211a91d62be644d90ce7b19f7a511d38c06470c07d239333ecdecb2f67d312b"), looks := true }, kinds := [], alts := [], laidByText := true, laidKinds := [.data, .data, .data], laidTests := true, laidLooks := .later }
def TreeTextsCardSaid : Prop := Claim7.holds Tryd.pinned (.plain (OpenSpec.ofChange treeTextsSpec)) treeTextsCard

/-- THE TIED CARD OF 'carlinglaw03.TreeAgain'. -/
def treeAgainCard : Claim7 := { stood := { row := treeAgainRow, standIns := [], harness := (true, "a211a91d62be644d90ce7b19f7a511d38c06470c07d239333ecdecb2f67d312b"), looks := true }, kinds := [], alts := [], laidByText := true, laidKinds := [.data, .data, .data], laidTests := true, laidLooks := .later }
def TreeAgainCardSaid : Prop := Claim7.holds Tryd.pinned (.plain (OpenSpec.ofChange treeAgainSpec)) treeAgainCard

/-- THE TIED CARD OF 'carlinglaw03.TreeNames'. -/
def treeNamesCard : Claim7 := { stood := { row := treeNamesRow, standIns := [], harness := (true, "a211a91d62be644d90ce7b19f7a511d38c06470c07d239333ecdecb2f67d312b"), looks := true }, kinds := [], alts := [], laidByText := true, laidKinds := [.data, .data, .data], laidTests := true, laidLooks := .later }
def TreeNamesCardSaid : Prop := Claim7.holds Tryd.pinned (.plain (OpenSpec.ofChange treeNamesSpec)) treeNamesCard

/-- THE TIED CARD OF 'carlinglaw03.TreeOps'. -/
def treeOpsCard : Claim7 := { stood := { row := treeOpsRow, standIns := [], harness := (true, "a211a91d62be644d90ce7b19f7a511d38c06470c07d239333ecdecb2f67d312b"), looks := true }, kinds := [], alts := [], laidByText := true, laidKinds := [.data, .data, .data], laidTests := true, laidLooks := .later }
def TreeOpsCardSaid : Prop := Claim7.holds Tryd.pinned (.plain (OpenSpec.ofChange treeOpsSpec)) treeOpsCard

/-- THE TIED CARD OF 'carlinglaw03.TreeBack'. -/
def treeBackCard : Claim7 := { stood := { row := treeBackRow, standIns := [], harness := (true, "a211a91d62be644d90ce7b19f7a511d38c06470c07d239333ecdecb2f67d312b"), looks := true }, kinds := [], alts := [], laidByText := true, laidKinds := [.data, .data, .data], laidTests := true, laidLooks := .later }
def TreeBackCardSaid : Prop := Claim7.holds Tryd.pinned (.plain (OpenSpec.ofChange treeBackSpec)) treeBackCard

/-- THE SECOND FORM's CARD OF 'carlinglaw03.TreeTexts'. -/
def treeTextsUptoCard : Claim7 := { stood := { row := treeTextsUptoRow, standIns := [], harness := (true, "a211a91d62be644d90ce7b19f7a511d38c06470c07d239333ecdecb2f67d312b"), looks := true }, kinds := [], alts := [], laidByText := true, laidKinds := [.data, .data, .data], laidTests := true, laidLooks := .later }
def TreeTextsUptoCardSaid : Prop := Claim7.holds Tryd.pinned (.plain (OpenSpec.upto treeTextsSpec)) treeTextsUptoCard

/-- THE SECOND FORM's CARD OF 'carlinglaw03.TreeAgain'. -/
def treeAgainUptoCard : Claim7 := { stood := { row := treeAgainUptoRow, standIns := [], harness := (true, "a211a91d62be644d90ce7b19f7a511d38c06470c07d239333ecdecb2f67d312b"), looks := true }, kinds := [], alts := [], laidByText := true, laidKinds := [.data, .data, .data], laidTests := true, laidLooks := .later }
def TreeAgainUptoCardSaid : Prop := Claim7.holds Tryd.pinned (.plain (OpenSpec.upto treeAgainSpec)) treeAgainUptoCard

/-- THE SECOND FORM's CARD OF 'carlinglaw03.TreeNames'. -/
def treeNamesUptoCard : Claim7 := { stood := { row := treeNamesUptoRow, standIns := [], harness := (true, "a211a91d62be644d90ce7b19f7a511d38c06470c07d239333ecdecb2f67d312b"), looks := true }, kinds := [], alts := [], laidByText := true, laidKinds := [.data, .data, .data], laidTests := true, laidLooks := .later }
def TreeNamesUptoCardSaid : Prop := Claim7.holds Tryd.pinned (.plain (OpenSpec.upto treeNamesSpec)) treeNamesUptoCard

/-- THE SECOND FORM's CARD OF 'carlinglaw03.TreeOps'. -/
def treeOpsUptoCard : Claim7 := { stood := { row := treeOpsUptoRow, standIns := [], harness := (true, "a211a91d62be644d90ce7b19f7a511d38c06470c07d239333ecdecb2f67d312b"), looks := true }, kinds := [], alts := [], laidByText := true, laidKinds := [.data, .data, .data], laidTests := true, laidLooks := .later }
def TreeOpsUptoCardSaid : Prop := Claim7.holds Tryd.pinned (.plain (OpenSpec.upto treeOpsSpec)) treeOpsUptoCard

/-- THE SECOND FORM's CARD OF 'carlinglaw03.TreeBack'. -/
def treeBackUptoCard : Claim7 := { stood := { row := treeBackUptoRow, standIns := [], harness := (true, "a211a91d62be644d90ce7b19f7a511d38c06470c07d239333ecdecb2f67d312b"), looks := true }, kinds := [], alts := [], laidByText := true, laidKinds := [.data, .data, .data], laidTests := true, laidLooks := .later }
def TreeBackUptoCardSaid : Prop := Claim7.holds Tryd.pinned (.plain (OpenSpec.upto treeBackSpec)) treeBackUptoCard
end Rows
end Go.Proofs.YtpnakjlionifkaaDoor
