/-
  DERIVED. GIVEN WITH THE SEED: THE CARDS: each row of YtjdmpockaflcnaaGreatDoorRows.lean that lists a variable, with what it lists TIED to the program's text (the seventh form; the later family's looks); each row that meets fmt, with fmt's text TOLD by the authors' own Lean function (tested against real Go, not proved from fmt's source: count such statements apart). THE CARD IS WHAT COUNTS. Prove the row's statement (the work); the ties are given (YtjdmpockaflcnaaGreatDoorTie.lean); close each card by the builder's one call (the guide's Derived/Test/ToyasCard.lean, 'card_holds'). Laid BY PROGRAM, IN A SANDBOX (cutbox-door.mjs). By AI agents, Wed Nov 11 2026. No macro, syntax, notation, axiom, sorry.
-/
import Derived.Test.YtjdmpockaflcnaaGreatDoorRows
import GoSem.ClaimSeven
namespace Go.Proofs.YtjdmpockaflcnaaGreatDoor
namespace Rows

/-- THE TIED CARD OF 'antecedentlaw14.AutoCounts'. -/
def autoCountsCard : Claim7 := { stood := { row := autoCountsRow, standIns := [], harness := (true, "455ddb7a69f35e94b0d898c51057901ead7d2d24388fb2173ee9ca1e0428cb0d"), looks := true }, kinds := [], alts := [], laidByText := true, laidKinds := [.data, .data, .data, .sentinel, .sentinel], laidTests := true, laidLooks := .later }
def AutoCountsCardSaid : Prop := Claim7.holds Tryz.pinned (.plain (OpenSpec.ofChange autoCountsSpec)) autoCountsCard

/-- THE TIED CARD OF 'antecedentlaw15.SugarRules'. -/
def sugarRulesCard : Claim7 := { stood := { row := sugarRulesRow, standIns := [], harness := (true, "455ddb7a69f35e94b0d898c51057901ead7d2d24388fb2173ee9ca1e0428cb0d"), looks := true }, kinds := [], alts := [], laidByText := true, laidKinds := [.data, .data, .data, .sentinel, .sentinel], laidTests := true, laidLooks := .later }
def SugarRulesCardSaid : Prop := Claim7.holds Tryz.pinned (.plain (OpenSpec.ofChange sugarRulesSpec)) sugarRulesCard

/-- THE TIED CARD OF 'antecedentlaw15.SugarNone'. -/
def sugarNoneCard : Claim7 := { stood := { row := sugarNoneRow, standIns := [], harness := (true, "455ddb7a69f35e94b0d898c51057901ead7d2d24388fb2173ee9ca1e0428cb0d"), looks := true }, kinds := [], alts := [], laidByText := true, laidKinds := [.data, .data, .data, .sentinel, .sentinel], laidTests := true, laidLooks := .later }
def SugarNoneCardSaid : Prop := Claim7.holds Tryz.pinned (.plain (OpenSpec.ofChange sugarNoneSpec)) sugarNoneCard

/-- THE TIED CARD OF 'antecedentlaw15.SugarMany'. -/
def sugarManyCard : Claim7 := { stood := { row := sugarManyRow, standIns := [], harness := (true, "455ddb7a69f35e94b0d898c51057901ead7d2d24388fb2173ee9ca1e0428cb0d"), looks := true }, kinds := [], alts := [], laidByText := true, laidKinds := [.data, .data, .data, .sentinel, .sentinel], laidTests := true, laidLooks := .later }
def SugarManyCardSaid : Prop := Claim7.holds Tryz.pinned (.plain (OpenSpec.ofChange sugarManySpec)) sugarManyCard

/-- THE TIED CARD OF 'antecedentlaw15.SugarSafe'. -/
def sugarSafeCard : Claim7 := { stood := { row := sugarSafeRow, standIns := [], harness := (true, "455ddb7a69f35e94b0d898c51057901ead7d2d24388fb2173ee9ca1e0428cb0d"), looks := true }, kinds := [], alts := [], laidByText := true, laidKinds := [.data, .data, .data, .sentinel, .sentinel], laidTests := true, laidLooks := .later }
def SugarSafeCardSaid : Prop := Claim7.holds Tryz.pinned (.plain (OpenSpec.ofChange sugarSafeSpec)) sugarSafeCard

/-- THE TIED CARD OF 'antecedentlaw15.SugarStrata'. -/
def sugarStrataCard : Claim7 := { stood := { row := sugarStrataRow, standIns := [], harness := (true, "455ddb7a69f35e94b0d898c51057901ead7d2d24388fb2173ee9ca1e0428cb0d"), looks := true }, kinds := [], alts := [], laidByText := true, laidKinds := [.data, .data, .data, .sentinel, .sentinel], laidTests := true, laidLooks := .later }
def SugarStrataCardSaid : Prop := Claim7.holds Tryz.pinned (.plain (OpenSpec.ofChange sugarStrataSpec)) sugarStrataCard

/-- THE SECOND FORM's CARD OF 'antecedentlaw14.AutoCounts'. -/
def autoCountsUptoCard : Claim7 := { stood := { row := autoCountsUptoRow, standIns := [], harness := (true, "455ddb7a69f35e94b0d898c51057901ead7d2d24388fb2173ee9ca1e0428cb0d"), looks := true }, kinds := [], alts := [], laidByText := true, laidKinds := [.data, .data, .data, .sentinel, .sentinel], laidTests := true, laidLooks := .later }
def AutoCountsUptoCardSaid : Prop := Claim7.holds Tryz.pinned (.plain (OpenSpec.upto autoCountsSpec)) autoCountsUptoCard

/-- THE SECOND FORM's CARD OF 'antecedentlaw15.SugarRules'. -/
def sugarRulesUptoCard : Claim7 := { stood := { row := sugarRulesUptoRow, standIns := [], harness := (true, "455ddb7a69f35e94b0d898c51057901ead7d2d24388fb2173ee9ca1e0428cb0d"), looks := true }, kinds := [], alts := [], laidByText := true, laidKinds := [.data, .data, .data, .sentinel, .sentinel], laidTests := true, laidLooks := .later }
def SugarRulesUptoCardSaid : Prop := Claim7.holds Tryz.pinned (.plain (OpenSpec.upto sugarRulesSpec)) sugarRulesUptoCard

/-- THE SECOND FORM's CARD OF 'antecedentlaw15.SugarNone'. -/
def sugarNoneUptoCard : Claim7 := { stood := { row := sugarNoneUptoRow, standIns := [], harness := (true, "455ddb7a69f35e94b0d898c51057901ead7d2d24388fb2173ee9ca1e0428cb0d"), looks := true }, kinds := [], alts := [], laidByText := true, laidKinds := [.data, .data, .data, .sentinel, .sentinel], laidTests := true, laidLooks := .later }
def SugarNoneUptoCardSaid : Prop := Claim7.holds Tryz.pinned (.plain (OpenSpec.upto sugarNoneSpec)) sugarNoneUptoCard

/-- THE SECOND FORM's CARD OF 'antecedentlaw15.SugarMany'. -/
def sugarManyUptoCard : Claim7 := { stood := { row := sugarManyUptoRow, standIns := [], harness := (true, "455ddb7a69f35e94b0d898c51057901ead7d2d24388fb2173ee9ca1e0428cb0d"), looks := true }, kinds := [], alts := [], laidByText := true, laidKinds := [.data, .data, .data, .sentinel, .sentinel], laidTests := true, laidLooks := .later }
def SugarManyUptoCardSaid : Prop := Claim7.holds Tryz.pinned (.plain (OpenSpec.upto sugarManySpec)) sugarManyUptoCard

/-- THE SECOND FORM's CARD OF 'antecedentlaw15.SugarSafe'. -/
def sugarSafeUptoCard : Claim7 := { stood := { row := sugarSafeUptoRow, standIns := [], harness := (true, "455ddb7a69f35e94b0d898c51057901ead7d2d24388fb2173ee9ca1e0428cb0d"), looks := true }, kinds := [], alts := [], laidByText := true, laidKinds := [.data, .data, .data, .sentinel, .sentinel], laidTests := true, laidLooks := .later }
def SugarSafeUptoCardSaid : Prop := Claim7.holds Tryz.pinned (.plain (OpenSpec.upto sugarSafeSpec)) sugarSafeUptoCard

/-- THE SECOND FORM's CARD OF 'antecedentlaw15.SugarStrata'. -/
def sugarStrataUptoCard : Claim7 := { stood := { row := sugarStrataUptoRow, standIns := [], harness := (true, "455ddb7a69f35e94b0d898c51057901ead7d2d24388fb2173ee9ca1e0428cb0d"), looks := true }, kinds := [], alts := [], laidByText := true, laidKinds := [.data, .data, .data, .sentinel, .sentinel], laidTests := true, laidLooks := .later }
def SugarStrataUptoCardSaid : Prop := Claim7.holds Tryz.pinned (.plain (OpenSpec.upto sugarStrataSpec)) sugarStrataUptoCard
end Rows
end Go.Proofs.YtjdmpockaflcnaaGreatDoor
