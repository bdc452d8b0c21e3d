/-
  DERIVED. GIVEN WITH THE SEED: THE CARDS: each row of YtgcokdcdpdndjaaDoorRows.lean that lists a variable, with what it lists TIED to the program's text (the seventh form; the later family's looks); each row that meets fmt, with fmt's text TOLD by the authors' own Lean function (tested against real Go, not proved from fmt's source: count such statements apart). THE CARD IS WHAT COUNTS. Prove the row's statement (the work); the ties are given (YtgcokdcdpdndjaaDoorTie.lean); close each card by the builder's one call (the guide's Derived/Test/ToyasCard.lean, 'card_holds'). Laid BY PROGRAM, IN A SANDBOX (cutbox-door.mjs). By AI agents, Wed Nov 11 2026. No macro, syntax, notation, axiom, sorry.
-/
import Derived.Test.YtgcokdcdpdndjaaDoorRows
import GoSem.ClaimSeven
namespace Go.Proofs.YtgcokdcdpdndjaaDoor
namespace Rows

/-- THE TIED CARD OF 'chrysalislaw08.FlowOwn'. -/
def flowOwnCard : Claim7 := { stood := { row := flowOwnRow, standIns := [], harness := (true, "928c9ab932d90b2b3de6cbdbb5eab25ead548ef0c8ccec0d5e6cacfc79e77514"), looks := false }, kinds := [], alts := [], laidByText := true, laidKinds := [.data, .data, .data, .data, .data], laidTests := true, laidLooks := .later }
def FlowOwnCardSaid : Prop := Claim7.holds Tryd.pinned (.plain (OpenSpec.ofChange flowOwnSpec)) flowOwnCard

/-- THE TIED CARD OF 'chrysalislaw10.JudgeFirst'. -/
def judgeFirstCard : Claim7 := { stood := { row := judgeFirstRow, standIns := [], harness := (true, "928c9ab932d90b2b3de6cbdbb5eab25ead548ef0c8ccec0d5e6cacfc79e77514"), looks := false }, kinds := [], alts := [], laidByText := true, laidKinds := [.data, .data, .data, .data, .data], laidTests := true, laidLooks := .later }
def JudgeFirstCardSaid : Prop := Claim7.holds Tryd.pinned (.plain (OpenSpec.ofChange judgeFirstSpec)) judgeFirstCard

/-- THE TIED CARD OF 'chrysalislaw09.VerifyMaps'. -/
def verifyMapsCard : Claim7 := { stood := { row := verifyMapsRow, standIns := [], harness := (true, "928c9ab932d90b2b3de6cbdbb5eab25ead548ef0c8ccec0d5e6cacfc79e77514"), looks := false }, kinds := [], alts := [], laidByText := true, laidKinds := [.data, .data, .data, .data, .data], laidTests := true, laidLooks := .later }
def VerifyMapsCardSaid : Prop := Claim7.holds Tryd.pinned (.plain (OpenSpec.ofChange verifyMapsSpec)) verifyMapsCard

/-- THE TIED CARD OF 'chrysalislaw09.VerifyRight'. -/
def verifyRightCard : Claim7 := { stood := { row := verifyRightRow, standIns := [], harness := (true, "928c9ab932d90b2b3de6cbdbb5eab25ead548ef0c8ccec0d5e6cacfc79e77514"), looks := false }, kinds := [], alts := [], laidByText := true, laidKinds := [.data, .data, .data, .data, .data], laidTests := true, laidLooks := .later }
def VerifyRightCardSaid : Prop := Claim7.holds Tryd.pinned (.plain (OpenSpec.ofChange verifyRightSpec)) verifyRightCard

/-- THE TIED CARD OF 'chrysalislaw09.VerifyNever'. -/
def verifyNeverCard : Claim7 := { stood := { row := verifyNeverRow, standIns := [], harness := (true, "928c9ab932d90b2b3de6cbdbb5eab25ead548ef0c8ccec0d5e6cacfc79e77514"), looks := false }, kinds := [], alts := [], laidByText := true, laidKinds := [.data, .data, .data, .data, .data], laidTests := true, laidLooks := .later }
def VerifyNeverCardSaid : Prop := Claim7.holds Tryd.pinned (.plain (OpenSpec.ofChange verifyNeverSpec)) verifyNeverCard

/-- THE TIED CARD OF 'chrysalislaw09.VerifyLoops'. -/
def verifyLoopsCard : Claim7 := { stood := { row := verifyLoopsRow, standIns := [], harness := (true, "928c9ab932d90b2b3de6cbdbb5eab25ead548ef0c8ccec0d5e6cacfc79e77514"), looks := false }, kinds := [], alts := [], laidByText := true, laidKinds := [.data, .data, .data, .data, .data], laidTests := true, laidLooks := .later }
def VerifyLoopsCardSaid : Prop := Claim7.holds Tryd.pinned (.plain (OpenSpec.ofChange verifyLoopsSpec)) verifyLoopsCard

/-- THE TIED CARD OF 'chrysalislaw09.VerifyJoins'. -/
def verifyJoinsCard : Claim7 := { stood := { row := verifyJoinsRow, standIns := [], harness := (true, "928c9ab932d90b2b3de6cbdbb5eab25ead548ef0c8ccec0d5e6cacfc79e77514"), looks := false }, kinds := [], alts := [], laidByText := true, laidKinds := [.data, .data, .data, .data, .data], laidTests := true, laidLooks := .later }
def VerifyJoinsCardSaid : Prop := Claim7.holds Tryd.pinned (.plain (OpenSpec.ofChange verifyJoinsSpec)) verifyJoinsCard

/-- THE TIED CARD OF 'chrysalislaw09.VerifyOwn'. -/
def verifyOwnCard : Claim7 := { stood := { row := verifyOwnRow, standIns := [], harness := (true, "928c9ab932d90b2b3de6cbdbb5eab25ead548ef0c8ccec0d5e6cacfc79e77514"), looks := false }, kinds := [], alts := [], laidByText := true, laidKinds := [.data, .data, .data, .data, .data], laidTests := true, laidLooks := .later }
def VerifyOwnCardSaid : Prop := Claim7.holds Tryd.pinned (.plain (OpenSpec.ofChange verifyOwnSpec)) verifyOwnCard

/-- THE TIED CARD OF 'chrysalislaw17.IrCompiles'. -/
def irCompilesCard : Claim7 := { stood := { row := irCompilesRow, standIns := [], harness := (true, "928c9ab932d90b2b3de6cbdbb5eab25ead548ef0c8ccec0d5e6cacfc79e77514"), looks := false }, kinds := [], alts := [], laidByText := true, laidKinds := [.data, .data, .data, .data, .data], laidTests := true, laidLooks := .later }
def IrCompilesCardSaid : Prop := Claim7.holds Tryd.pinned (.plain (OpenSpec.ofChange irCompilesSpec)) irCompilesCard

/-- THE TIED CARD OF 'chrysalislaw17.IrFits'. -/
def irFitsCard : Claim7 := { stood := { row := irFitsRow, standIns := [], harness := (true, "928c9ab932d90b2b3de6cbdbb5eab25ead548ef0c8ccec0d5e6cacfc79e77514"), looks := false }, kinds := [], alts := [], laidByText := true, laidKinds := [.data, .data, .data, .data, .data], laidTests := true, laidLooks := .later }
def IrFitsCardSaid : Prop := Claim7.holds Tryd.pinned (.plain (OpenSpec.ofChange irFitsSpec)) irFitsCard

/-- THE SECOND FORM's CARD OF 'chrysalislaw08.FlowOwn'. -/
def flowOwnUptoCard : Claim7 := { stood := { row := flowOwnUptoRow, standIns := [], harness := (true, "928c9ab932d90b2b3de6cbdbb5eab25ead548ef0c8ccec0d5e6cacfc79e77514"), looks := false }, kinds := [], alts := [], laidByText := true, laidKinds := [.data, .data, .data, .data, .data], laidTests := true, laidLooks := .later }
def FlowOwnUptoCardSaid : Prop := Claim7.holds Tryd.pinned (.plain (OpenSpec.upto flowOwnSpec)) flowOwnUptoCard

/-- THE SECOND FORM's CARD OF 'chrysalislaw10.JudgeFirst'. -/
def judgeFirstUptoCard : Claim7 := { stood := { row := judgeFirstUptoRow, standIns := [], harness := (true, "928c9ab932d90b2b3de6cbdbb5eab25ead548ef0c8ccec0d5e6cacfc79e77514"), looks := false }, kinds := [], alts := [], laidByText := true, laidKinds := [.data, .data, .data, .data, .data], laidTests := true, laidLooks := .later }
def JudgeFirstUptoCardSaid : Prop := Claim7.holds Tryd.pinned (.plain (OpenSpec.upto judgeFirstSpec)) judgeFirstUptoCard

/-- THE SECOND FORM's CARD OF 'chrysalislaw09.VerifyMaps'. -/
def verifyMapsUptoCard : Claim7 := { stood := { row := verifyMapsUptoRow, standIns := [], harness := (true, "928c9ab932d90b2b3de6cbdbb5eab25ead548ef0c8ccec0d5e6cacfc79e77514"), looks := false }, kinds := [], alts := [], laidByText := true, laidKinds := [.data, .data, .data, .data, .data], laidTests := true, laidLooks := .later }
def VerifyMapsUptoCardSaid : Prop := Claim7.holds Tryd.pinned (.plain (OpenSpec.upto verifyMapsSpec)) verifyMapsUptoCard

/-- THE SECOND FORM's CARD OF 'chrysalislaw09.VerifyRight'. -/
def verifyRightUptoCard : Claim7 := { stood := { row := verifyRightUptoRow, standIns := [], harness := (true, "928c9ab932d90b2b3de6cbdbb5eab25ead548ef0c8ccec0d5e6cacfc79e77514"), looks := false }, kinds := [], alts := [], laidByText := true, laidKinds := [.data, .data, .data, .data, .data], laidTests := true, laidLooks := .later }
def VerifyRightUptoCardSaid : Prop := Claim7.holds Tryd.pinned (.plain (OpenSpec.upto verifyRightSpec)) verifyRightUptoCard

/-- THE SECOND FORM's CARD OF 'chrysalislaw09.VerifyNever'. -/
def verifyNeverUptoCard : Claim7 := { stood := { row := verifyNeverUptoRow, standIns := [], harness := (true, "928c9ab932d90b2b3de6cbdbb5eab25ead548ef0c8ccec0d5e6cacfc79e77514"), looks := false }, kinds := [], alts := [], laidByText := true, laidKinds := [.data, .data, .data, .data, .data], laidTests := true, laidLooks := .later }
def VerifyNeverUptoCardSaid : Prop := Claim7.holds Tryd.pinned (.plain (OpenSpec.upto verifyNeverSpec)) verifyNeverUptoCard

/-- THE SECOND FORM's CARD OF 'chrysalislaw09.VerifyLoops'. -/
def verifyLoopsUptoCard : Claim7 := { stood := { row := verifyLoopsUptoRow, standIns := [], harness := (true, "928c9ab932d90b2b3de6cbdbb5eab25ead548ef0c8ccec0d5e6cacfc79e77514"), looks := false }, kinds := [], alts := [], laidByText := true, laidKinds := [.data, .data, .data, .data, .data], laidTests := true, laidLooks := .later }
def VerifyLoopsUptoCardSaid : Prop := Claim7.holds Tryd.pinned (.plain (OpenSpec.upto verifyLoopsSpec)) verifyLoopsUptoCard

/-- THE SECOND FORM's CARD OF 'chrysalislaw09.VerifyJoins'. -/
def verifyJoinsUptoCard : Claim7 := { stood := { row := verifyJoinsUptoRow, standIns := [], harness := (true, "928c9ab932d90b2b3de6cbdbb5eab25ead548ef0c8ccec0d5e6cacfc79e77514"), looks := false }, kinds := [], alts := [], laidByText := true, laidKinds := [.data, .data, .data, .data, .data], laidTests := true, laidLooks := .later }
def VerifyJoinsUptoCardSaid : Prop := Claim7.holds Tryd.pinned (.plain (OpenSpec.upto verifyJoinsSpec)) verifyJoinsUptoCard

/-- THE SECOND FORM's CARD OF 'chrysalislaw09.VerifyOwn'. -/
def verifyOwnUptoCard : Claim7 := { stood := { row := verifyOwnUptoRow, standIns := [], harness := (true, "928c9ab932d90b2b3de6cbdbb5eab25ead548ef0c8ccec0d5e6cacfc79e77514"), looks := false }, kinds := [], alts := [], laidByText := true, laidKinds := [.data, .data, .data, .data, .data], laidTests := true, laidLooks := .later }
def VerifyOwnUptoCardSaid : Prop := Claim7.holds Tryd.pinned (.plain (OpenSpec.upto verifyOwnSpec)) verifyOwnUptoCard

/-- THE SECOND FORM's CARD OF 'chrysalislaw17.IrCompiles'. -/
def irCompilesUptoCard : Claim7 := { stood := { row := irCompilesUptoRow, standIns := [], harness := (true, "928c9ab932d90b2b3de6cbdbb5eab25ead548ef0c8ccec0d5e6cacfc79e77514"), looks := false }, kinds := [], alts := [], laidByText := true, laidKinds := [.data, .data, .data, .data, .data], laidTests := true, laidLooks := .later }
def IrCompilesUptoCardSaid : Prop := Claim7.holds Tryd.pinned (.plain (OpenSpec.upto irCompilesSpec)) irCompilesUptoCard

/-- THE SECOND FORM's CARD OF 'chrysalislaw17.IrFits'. -/
def irFitsUptoCard : Claim7 := { stood := { row := irFitsUptoRow, standIns := [], harness := (true, "928c9ab932d90b2b3de6cbdbb5eab25ead548ef0c8ccec0d5e6cacfc79e77514"), looks := false }, kinds := [], alts := [], laidByText := true, laidKinds := [.data, .data, .data, .data, .data], laidTests := true, laidLooks := .later }
def IrFitsUptoCardSaid : Prop := Claim7.holds Tryd.pinned (.plain (OpenSpec.upto irFitsSpec)) irFitsUptoCard
end Rows
end Go.Proofs.YtgcokdcdpdndjaaDoor
