/-
  DERIVED. GIVEN WITH THE SEED: THE CARDS: each row of YtmekhjaeclgonaaDoorRows.lean that lists a variable, with what it lists TIED to the program's text (the seventh form; the later family's looks); each row that meets fmt, with fmt's text TOLD by the authors' own Lean function (tested against real Go, not proved from fmt's source: count such statements apart). THE CARD IS WHAT COUNTS. Prove the row's statement (the work); the ties are given (YtmekhjaeclgonaaDoorTie.lean); close each card by the builder's one call (the guide's Derived/Test/ToyasCard.lean, 'card_holds'). Laid BY PROGRAM, IN A SANDBOX (cutbox-door.mjs). By AI agents, Wed Nov 11 2026. No macro, syntax, notation, axiom, sorry.
-/
import Derived.Test.YtmekhjaeclgonaaDoorRows
import GoSem.ClaimSeven
namespace Go.Proofs.YtmekhjaeclgonaaDoor
namespace Rows

/-- THE TIED CARD OF 'laws.FnReadCalls'. -/
def fnReadCallsCard : Claim7 := { stood := { row := fnReadCallsRow, standIns := [], harness := (true, "ba87140aa4bc53d1d77954a22029b6aef64f8f56a7670f752f6c26e5b5dfda61"), looks := false }, kinds := [], alts := [], laidByText := true, laidKinds := [.data, .pinned], laidTests := true, laidLooks := .later }
def FnReadCallsCardSaid : Prop := Claim7.holds Tryd.pinned (.plain (OpenSpec.ofChange fnReadCallsSpec)) fnReadCallsCard

/-- THE TIED CARD OF 'laws.FnExactReadCalls'. -/
def fnExactReadCallsCard : Claim7 := { stood := { row := fnExactReadCallsRow, standIns := [], harness := (true, "ba87140aa4bc53d1d77954a22029b6aef64f8f56a7670f752f6c26e5b5dfda61"), looks := false }, kinds := [], alts := [], laidByText := true, laidKinds := [.data, .pinned], laidTests := true, laidLooks := .later }
def FnExactReadCallsCardSaid : Prop := Claim7.holds Tryd.pinned (.plain (OpenSpec.ofChange fnExactReadCallsSpec)) fnExactReadCallsCard

/-- THE TIED CARD OF 'laws.FnCallsText'. -/
def fnCallsTextCard : Claim7 := { stood := { row := fnCallsTextRow, standIns := [], harness := (true, "ba87140aa4bc53d1d77954a22029b6aef64f8f56a7670f752f6c26e5b5dfda61"), looks := false }, kinds := [], alts := [], laidByText := true, laidKinds := [.data, .pinned], laidTests := true, laidLooks := .later }
def FnCallsTextCardSaid : Prop := Claim7.holds Tryd.pinned (.plain (OpenSpec.ofChange fnCallsTextSpec)) fnCallsTextCard

/-- THE SECOND FORM's CARD OF 'laws.FnReadCalls'. -/
def fnReadCallsUptoCard : Claim7 := { stood := { row := fnReadCallsUptoRow, standIns := [], harness := (true, "ba87140aa4bc53d1d77954a22029b6aef64f8f56a7670f752f6c26e5b5dfda61"), looks := false }, kinds := [], alts := [], laidByText := true, laidKinds := [.data, .pinned], laidTests := true, laidLooks := .later }
def FnReadCallsUptoCardSaid : Prop := Claim7.holds Tryd.pinned (.plain (OpenSpec.upto fnReadCallsSpec)) fnReadCallsUptoCard

/-- THE SECOND FORM's CARD OF 'laws.FnExactReadCalls'. -/
def fnExactReadCallsUptoCard : Claim7 := { stood := { row := fnExactReadCallsUptoRow, standIns := [], harness := (true, "ba87140aa4bc53d1d77954a22029b6aef64f8f56a7670f752f6c26e5b5dfda61"), looks := false }, kinds := [], alts := [], laidByText := true, laidKinds := [.data, .pinned], laidTests := true, laidLooks := .later }
def FnExactReadCallsUptoCardSaid : Prop := Claim7.holds Tryd.pinned (.plain (OpenSpec.upto fnExactReadCallsSpec)) fnExactReadCallsUptoCard

/-- THE SECOND FORM's CARD OF 'laws.FnCallsText'. -/
def fnCallsTextUptoCard : Claim7 := { stood := { row := fnCallsTextUptoRow, standIns := [], harness := (true, "ba87140aa4bc53d1d77954a22029b6aef64f8f56a7670f752f6c26e5b5dfda61"), looks := false }, kinds := [], alts := [], laidByText := true, laidKinds := [.data, .pinned], laidTests := true, laidLooks := .later }
def FnCallsTextUptoCardSaid : Prop := Claim7.holds Tryd.pinned (.plain (OpenSpec.upto fnCallsTextSpec)) fnCallsTextUptoCard
end Rows
end Go.Proofs.YtmekhjaeclgonaaDoor
