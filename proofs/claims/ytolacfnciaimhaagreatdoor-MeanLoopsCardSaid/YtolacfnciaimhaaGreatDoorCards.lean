/-
  DERIVED. GIVEN WITH THE SEED: THE CARDS: each row of YtolacfnciaimhaaGreatDoorRows.lean that lists a variable, with what it lists TIED to the program's text (the seventh form; the later family's looks); each row that meets fmt, with fmt's text TOLD by the authors' own Lean function (tested against real Go, not proved from fmt's source: count such statements apart). THE CARD IS WHAT COUNTS. Prove the row's statement (the work); the ties are given (YtolacfnciaimhaaGreatDoorTie.lean); close each card by the builder's one call (the guide's Derived/Test/ToyasCard.lean, 'card_holds'). Laid BY PROGRAM, IN A SANDBOX (cutbox-door.mjs). By AI agents, Wed Nov 11 2026. No macro, syntax, notation, axiom, sorry.
-/
import Derived.Test.YtolacfnciaimhaaGreatDoorRows
import GoSem.ClaimSeven
namespace Go.Proofs.YtolacfnciaimhaaGreatDoor
namespace Rows

/-- THE TIED CARD OF 'carlinglaw06.MeanOthers'. -/
def meanOthersCard : Claim7 := { stood := { row := meanOthersRow, standIns := [], harness := (true, "f0e9e0a8acc2f774b8f0533c29538c4eae05b75b7ad6fd12c1c003e2032c04bf"), looks := true }, kinds := [], alts := [], laidByText := true, laidKinds := [.data, .data, .data], laidTests := true, laidLooks := .later }
def MeanOthersCardSaid : Prop := Claim7.holds Tryz.pinned (.plain (OpenSpec.ofChange meanOthersSpec)) meanOthersCard

/-- THE TIED CARD OF 'carlinglaw06.MeanOps'. -/
def meanOpsCard : Claim7 := { stood := { row := meanOpsRow, standIns := [], harness := (true, "f0e9e0a8acc2f774b8f0533c29538c4eae05b75b7ad6fd12c1c003e2032c04bf"), looks := true }, kinds := [], alts := [], laidByText := true, laidKinds := [.data, .data, .data], laidTests := true, laidLooks := .later }
def MeanOpsCardSaid : Prop := Claim7.holds Tryz.pinned (.plain (OpenSpec.ofChange meanOpsSpec)) meanOpsCard

/-- THE TIED CARD OF 'carlinglaw06.MeanLoops'. -/
def meanLoopsCard : Claim7 := { stood := { row := meanLoopsRow, standIns := [], harness := (true, "f0e9e0a8acc2f774b8f0533c29538c4eae05b75b7ad6fd12c1c003e2032c04bf"), looks := true }, kinds := [], alts := [], laidByText := true, laidKinds := [.data, .data, .data], laidTests := true, laidLooks := .later }
def MeanLoopsCardSaid : Prop := Claim7.holds Tryz.pinned (.plain (OpenSpec.ofChange meanLoopsSpec)) meanLoopsCard

/-- THE TIED CARD OF 'carlinglaw06.MeanCalls'. -/
def meanCallsCard : Claim7 := { stood := { row := meanCallsRow, standIns := [], harness := (true, "f0e9e0a8acc2f774b8f0533c29538c4eae05b75b7ad6fd12c1c003e2032c04bf"), looks := true }, kinds := [], alts := [], laidByText := true, laidKinds := [.data, .data, .data], laidTests := true, laidLooks := .later }
def MeanCallsCardSaid : Prop := Claim7.holds Tryz.pinned (.plain (OpenSpec.ofChange meanCallsSpec)) meanCallsCard

/-- THE TIED CARD OF 'carlinglaw06.MeanGoes'. -/
def meanGoesCard : Claim7 := { stood := { row := meanGoesRow, standIns := [], harness := (true, "f0e9e0a8acc2f774b8f0533c29538c4eae05b75b7ad6fd12c1c003e2032c04bf"), looks := true }, kinds := [], alts := [], laidByText := true, laidKinds := [.data, .data, .data], laidTests := true, laidLooks := .later }
def MeanGoesCardSaid : Prop := Claim7.holds Tryz.pinned (.plain (OpenSpec.ofChange meanGoesSpec)) meanGoesCard

/-- THE SECOND FORM's CARD OF 'carlinglaw06.MeanOthers'. -/
def meanOthersUptoCard : Claim7 := { stood := { row := meanOthersUptoRow, standIns := [], harness := (true, "f0e9e0a8acc2f774b8f0533c29538c4eae05b75b7ad6fd12c1c003e2032c04bf"), looks := true }, kinds := [], alts := [], laidByText := true, laidKinds := [.data, .data, .data], laidTests := true, laidLooks := .later }
def MeanOthersUptoCardSaid : Prop := Claim7.holds Tryz.pinned (.plain (OpenSpec.upto meanOthersSpec)) meanOthersUptoCard

/-- THE SECOND FORM's CARD OF 'carlinglaw06.MeanOps'. -/
def meanOpsUptoCard : Claim7 := { stood := { row := meanOpsUptoRow, standIns := [], harness := (true, "f0e9e0a8acc2f774b8f0533c29538c4eae05b75b7ad6fd12c1c003e2032c04bf"), looks := true }, kinds := [], alts := [], laidByText := true, laidKinds := [.data, .data, .data], laidTests := true, laidLooks := .later }
def MeanOpsUptoCardSaid : Prop := Claim7.holds Tryz.pinned (.plain (OpenSpec.upto meanOpsSpec)) meanOpsUptoCard

/-- THE SECOND FORM's CARD OF 'carlinglaw06.MeanLoops'. -/
def meanLoopsUptoCard : Claim7 := { stood := { row := meanLoopsUptoRow, standIns := [], harness := (true, "f0e9e0a8acc2f774b8f0533c29538c4eae05b75b7ad6fd12c1c003e2032c04bf"), looks := true }, kinds := [], alts := [], laidByText := true, laidKinds := [.data, .data, .data], laidTests := true, laidLooks := .later }
def MeanLoopsUptoCardSaid : Prop := Claim7.holds Tryz.pinned (.plain (OpenSpec.upto meanLoopsSpec)) meanLoopsUptoCard

/-- THE SECOND FORM's CARD OF 'carlinglaw06.MeanCalls'. -/
def meanCallsUptoCard : Claim7 := { stood := { row := meanCallsUptoRow, standIns := [], harness := (true, "f0e9e0a8acc2f774b8f0533c29538c4eae05b75b7ad6fd12c1c003e2032c04bf"), looks := true }, kinds := [], alts := [], laidByText := true, laidKinds := [.data, .data, .data], laidTests := true, laidLooks := .later }
def MeanCallsUptoCardSaid : Prop := Claim7.holds Tryz.pinned (.plain (OpenSpec.upto meanCallsSpec)) meanCallsUptoCard

/-- THE SECOND FORM's CARD OF 'carlinglaw06.MeanGoes'. -/
def meanGoesUptoCard : Claim7 := { stood := { row := meanGoesUptoRow, standIns := [], harness := (true, "f0e9e0a8acc2f774b8f0533c29538c4eae05b75b7ad6fd12c1c003e2032c04bf"), looks := true }, kinds := [], alts := [], laidByText := true, laidKinds := [.data, .data, .data], laidTests := true, laidLooks := .later }
def MeanGoesUptoCardSaid : Prop := Claim7.holds Tryz.pinned (.plain (OpenSpec.upto meanGoesSpec)) meanGoesUptoCard
end Rows
end Go.Proofs.YtolacfnciaimhaaGreatDoor
