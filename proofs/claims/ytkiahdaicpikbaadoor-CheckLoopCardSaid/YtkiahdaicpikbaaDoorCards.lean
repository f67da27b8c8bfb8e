/-
  DERIVED. GIVEN WITH THE SEED: THE CARDS: each row of YtkiahdaicpikbaaDoorRows.lean that lists a variable, with what it lists TIED to the program's text (the seventh form; the later family's looks); each row that meets fmt, with fmt's text TOLD by the authors' own Lean function (tested against real Go, not proved from fmt's source: count such statements apart). THE CARD IS WHAT COUNTS. Prove the row's statement (the work); the ties are given (YtkiahdaicpikbaaDoorTie.lean); close each card by the builder's one call (the guide's Derived/Test/ToyasCard.lean, 'card_holds'). Laid BY PROGRAM, IN A SANDBOX (cutbox-door.mjs). By AI agents, Wed Nov 11 2026. No macro, syntax, notation, axiom, sorry.
-/
import Derived.Test.YtkiahdaicpikbaaDoorRows
import GoSem.ClaimSeven
namespace Go.Proofs.YtkiahdaicpikbaaDoor
namespace Rows

/-- THE TIED CARD OF 'carlinglaw05.CheckFewer'. -/
def checkFewerCard : Claim7 := { stood := { row := checkFewerRow, standIns := [], harness := (true, "5e99546faa327335154c11fac3138f230fa08fadb287b42e9da8580f7be72060"), looks := true }, kinds := [], alts := [], laidByText := true, laidKinds := [.data, .data, .data], laidTests := true, laidLooks := .later }
def CheckFewerCardSaid : Prop := Claim7.holds Tryd.pinned (.plain (OpenSpec.ofChange checkFewerSpec)) checkFewerCard

/-- THE TIED CARD OF 'carlinglaw05.CheckKnown'. -/
def checkKnownCard : Claim7 := { stood := { row := checkKnownRow, standIns := [], harness := (true, "5e99546faa327335154c11fac3138f230fa08fadb287b42e9da8580f7be72060"), looks := true }, kinds := [], alts := [], laidByText := true, laidKinds := [.data, .data, .data], laidTests := true, laidLooks := .later }
def CheckKnownCardSaid : Prop := Claim7.holds Tryd.pinned (.plain (OpenSpec.ofChange checkKnownSpec)) checkKnownCard

/-- THE TIED CARD OF 'carlinglaw05.CheckSecret'. -/
def checkSecretCard : Claim7 := { stood := { row := checkSecretRow, standIns := [], harness := (true, "5e99546faa327335154c11fac3138f230fa08fadb287b42e9da8580f7be72060"), looks := true }, kinds := [], alts := [], laidByText := true, laidKinds := [.data, .data, .data], laidTests := true, laidLooks := .later }
def CheckSecretCardSaid : Prop := Claim7.holds Tryd.pinned (.plain (OpenSpec.ofChange checkSecretSpec)) checkSecretCard

/-- THE TIED CARD OF 'carlinglaw05.CheckLoop'. -/
def checkLoopCard : Claim7 := { stood := { row := checkLoopRow, standIns := [], harness := (true, "5e99546faa327335154c11fac3138f230fa08fadb287b42e9da8580f7be72060"), looks := true }, kinds := [], alts := [], laidByText := true, laidKinds := [.data, .data, .data], laidTests := true, laidLooks := .later }
def CheckLoopCardSaid : Prop := Claim7.holds Tryd.pinned (.plain (OpenSpec.ofChange checkLoopSpec)) checkLoopCard

/-- THE TIED CARD OF 'carlinglaw05.CheckFlow'. -/
def checkFlowCard : Claim7 := { stood := { row := checkFlowRow, standIns := [], harness := (true, "5e99546faa327335154c11fac3138f230fa08fadb287b42e9da8580f7be72060"), looks := true }, kinds := [], alts := [], laidByText := true, laidKinds := [.data, .data, .data], laidTests := true, laidLooks := .later }
def CheckFlowCardSaid : Prop := Claim7.holds Tryd.pinned (.plain (OpenSpec.ofChange checkFlowSpec)) checkFlowCard

/-- THE TIED CARD OF 'carlinglaw05.CheckOrder'. -/
def checkOrderCard : Claim7 := { stood := { row := checkOrderRow, standIns := [], harness := (true, "5e99546faa327335154c11fac3138f230fa08fadb287b42e9da8580f7be72060"), looks := true }, kinds := [], alts := [], laidByText := true, laidKinds := [.data, .data, .data], laidTests := true, laidLooks := .later }
def CheckOrderCardSaid : Prop := Claim7.holds Tryd.pinned (.plain (OpenSpec.ofChange checkOrderSpec)) checkOrderCard

/-- THE SECOND FORM's CARD OF 'carlinglaw05.CheckFewer'. -/
def checkFewerUptoCard : Claim7 := { stood := { row := checkFewerUptoRow, standIns := [], harness := (true, "5e99546faa327335154c11fac3138f230fa08fadb287b42e9da8580f7be72060"), looks := true }, kinds := [], alts := [], laidByText := true, laidKinds := [.data, .data, .data], laidTests := true, laidLooks := .later }
def CheckFewerUptoCardSaid : Prop := Claim7.holds Tryd.pinned (.plain (OpenSpec.upto checkFewerSpec)) checkFewerUptoCard

/-- THE SECOND FORM's CARD OF 'carlinglaw05.CheckKnown'. -/
def checkKnownUptoCard : Claim7 := { stood := { row := checkKnownUptoRow, standIns := [], harness := (true, "5e99546faa327335154c11fac3138f230fa08fadb287b42e9da8580f7be72060"), looks := true }, kinds := [], alts := [], laidByText := true, laidKinds := [.data, .data, .data], laidTests := true, laidLooks := .later }
def CheckKnownUptoCardSaid : Prop := Claim7.holds Tryd.pinned (.plain (OpenSpec.upto checkKnownSpec)) checkKnownUptoCard

/-- THE SECOND FORM's CARD OF 'carlinglaw05.CheckSecret'. -/
def checkSecretUptoCard : Claim7 := { stood := { row := checkSecretUptoRow, standIns := [], harness := (true, "5e99546faa327335154c11fac3138f230fa08fadb287b42e9da8580f7be72060"), looks := true }, kinds := [], alts := [], laidByText := true, laidKinds := [.data, .data, .data], laidTests := true, laidLooks := .later }
def CheckSecretUptoCardSaid : Prop := Claim7.holds Tryd.pinned (.plain (OpenSpec.upto checkSecretSpec)) checkSecretUptoCard

/-- THE SECOND FORM's CARD OF 'carlinglaw05.CheckLoop'. -/
def checkLoopUptoCard : Claim7 := { stood := { row := checkLoopUptoRow, standIns := [], harness := (true, "5e99546faa327335154c11fac3138f230fa08fadb287b42e9da8580f7be72060"), looks := true }, kinds := [], alts := [], laidByText := true, laidKinds := [.data, .data, .data], laidTests := true, laidLooks := .later }
def CheckLoopUptoCardSaid : Prop := Claim7.holds Tryd.pinned (.plain (OpenSpec.upto checkLoopSpec)) checkLoopUptoCard

/-- THE SECOND FORM's CARD OF 'carlinglaw05.CheckFlow'. -/
def checkFlowUptoCard : Claim7 := { stood := { row := checkFlowUptoRow, standIns := [], harness := (true, "5e99546faa327335154c11fac3138f230fa08fadb287b42e9da8580f7be72060"), looks := true }, kinds := [], alts := [], laidByText := true, laidKinds := [.data, .data, .data], laidTests := true, laidLooks := .later }
def CheckFlowUptoCardSaid : Prop := Claim7.holds Tryd.pinned (.plain (OpenSpec.upto checkFlowSpec)) checkFlowUptoCard

/-- THE SECOND FORM's CARD OF 'carlinglaw05.CheckOrder'. -/
def checkOrderUptoCard : Claim7 := { stood := { row := checkOrderUptoRow, standIns := [], harness := (true, "5e99546faa327335154c11fac3138f230fa08fadb287b42e9da8580f7be72060"), looks := true }, kinds := [], alts := [], laidByText := true, laidKinds := [.data, .data, .data], laidTests := true, laidLooks := .later }
def CheckOrderUptoCardSaid : Prop := Claim7.holds Tryd.pinned (.plain (OpenSpec.upto checkOrderSpec)) checkOrderUptoCard
end Rows
end Go.Proofs.YtkiahdaicpikbaaDoor
