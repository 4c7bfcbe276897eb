/-
  DERIVED. GIVEN WITH THE SEED: THE CARDS: each row of YtgfohimonbagmaaGreatDoorRows.lean that lists a variable, with what it lists TIED to the program's text (the seventh form; the later family's looks); each row that meets fmt, with fmt's text TOLD by the authors' own Lean function (tested against real Go, not proved from fmt's source: count such statements apart). THE CARD IS WHAT COUNTS. Prove the row's statement (the work); the ties are given (YtgfohimonbagmaaGreatDoorTie.lean); close each card by the builder's one call (the guide's Derived/Test/ToyasCard.lean, 'card_holds'). Laid BY PROGRAM, IN A SANDBOX (cutbox-door.mjs). By AI agents, Wed Nov 11 2026. No macro, syntax, notation, axiom, sorry.
-/
import Derived.Test.YtgfohimonbagmaaGreatDoorRows
import GoSem.ClaimSeven
namespace Go.Proofs.YtgfohimonbagmaaGreatDoor
namespace Rows

/-- THE TIED CARD OF 'sterlinglaw10.ConstOps'. -/
def constOpsCard : Claim7 := { stood := { row := constOpsRow, standIns := [], harness := (true, "0871d80f7bc2106acd126a29286aba5ed30dc4cc05d60fa5ec17cc5877e7084a"), looks := false }, kinds := [], alts := [], laidByText := true, laidKinds := [.data, .listed, .data, .pinned, .pinned], laidTests := true, laidLooks := .later }
def ConstOpsCardSaid : Prop := Claim7.holds Tryz.pinned (.plain (OpenSpec.ofChange constOpsSpec)) constOpsCard

/-- THE TIED CARD OF 'sterlinglaw10.ConstFits'. -/
def constFitsCard : Claim7 := { stood := { row := constFitsRow, standIns := [], harness := (true, "0871d80f7bc2106acd126a29286aba5ed30dc4cc05d60fa5ec17cc5877e7084a"), looks := false }, kinds := [], alts := [], laidByText := true, laidKinds := [.data, .listed, .data, .pinned, .pinned], laidTests := true, laidLooks := .later }
def ConstFitsCardSaid : Prop := Claim7.holds Tryz.pinned (.plain (OpenSpec.ofChange constFitsSpec)) constFitsCard

/-- THE TIED CARD OF 'sterlinglaw10.ConstEdges'. -/
def constEdgesCard : Claim7 := { stood := { row := constEdgesRow, standIns := [], harness := (true, "0871d80f7bc2106acd126a29286aba5ed30dc4cc05d60fa5ec17cc5877e7084a"), looks := false }, kinds := [], alts := [], laidByText := true, laidKinds := [.data, .listed, .data, .pinned, .pinned], laidTests := true, laidLooks := .later }
def ConstEdgesCardSaid : Prop := Claim7.holds Tryz.pinned (.plain (OpenSpec.ofChange constEdgesSpec)) constEdgesCard

/-- THE TIED CARD OF 'sterlinglaw10.ConstLaws'. -/
def constLawsCard : Claim7 := { stood := { row := constLawsRow, standIns := [], harness := (true, "0871d80f7bc2106acd126a29286aba5ed30dc4cc05d60fa5ec17cc5877e7084a"), looks := false }, kinds := [], alts := [], laidByText := true, laidKinds := [.data, .listed, .data, .pinned, .pinned], laidTests := true, laidLooks := .later }
def ConstLawsCardSaid : Prop := Claim7.holds Tryz.pinned (.plain (OpenSpec.ofChange constLawsSpec)) constLawsCard

/-- THE TIED CARD OF 'sterlinglaw10.ConstCap'. -/
def constCapCard : Claim7 := { stood := { row := constCapRow, standIns := [], harness := (true, "0871d80f7bc2106acd126a29286aba5ed30dc4cc05d60fa5ec17cc5877e7084a"), looks := false }, kinds := [], alts := [], laidByText := true, laidKinds := [.data, .listed, .data, .pinned, .pinned], laidTests := true, laidLooks := .later }
def ConstCapCardSaid : Prop := Claim7.holds Tryz.pinned (.plain (OpenSpec.ofChange constCapSpec)) constCapCard

/-- THE SECOND FORM's CARD OF 'sterlinglaw10.ConstOps'. -/
def constOpsUptoCard : Claim7 := { stood := { row := constOpsUptoRow, standIns := [], harness := (true, "0871d80f7bc2106acd126a29286aba5ed30dc4cc05d60fa5ec17cc5877e7084a"), looks := false }, kinds := [], alts := [], laidByText := true, laidKinds := [.data, .listed, .data, .pinned, .pinned], laidTests := true, laidLooks := .later }
def ConstOpsUptoCardSaid : Prop := Claim7.holds Tryz.pinned (.plain (OpenSpec.upto constOpsSpec)) constOpsUptoCard

/-- THE SECOND FORM's CARD OF 'sterlinglaw10.ConstFits'. -/
def constFitsUptoCard : Claim7 := { stood := { row := constFitsUptoRow, standIns := [], harness := (true, "0871d80f7bc2106acd126a29286aba5ed30dc4cc05d60fa5ec17cc5877e7084a"), looks := false }, kinds := [], alts := [], laidByText := true, laidKinds := [.data, .listed, .data, .pinned, .pinned], laidTests := true, laidLooks := .later }
def ConstFitsUptoCardSaid : Prop := Claim7.holds Tryz.pinned (.plain (OpenSpec.upto constFitsSpec)) constFitsUptoCard

/-- THE SECOND FORM's CARD OF 'sterlinglaw10.ConstEdges'. -/
def constEdgesUptoCard : Claim7 := { stood := { row := constEdgesUptoRow, standIns := [], harness := (true, "0871d80f7bc2106acd126a29286aba5ed30dc4cc05d60fa5ec17cc5877e7084a"), looks := false }, kinds := [], alts := [], laidByText := true, laidKinds := [.data, .listed, .data, .pinned, .pinned], laidTests := true, laidLooks := .later }
def ConstEdgesUptoCardSaid : Prop := Claim7.holds Tryz.pinned (.plain (OpenSpec.upto constEdgesSpec)) constEdgesUptoCard

/-- THE SECOND FORM's CARD OF 'sterlinglaw10.ConstLaws'. -/
def constLawsUptoCard : Claim7 := { stood := { row := constLawsUptoRow, standIns := [], harness := (true, "0871d80f7bc2106acd126a29286aba5ed30dc4cc05d60fa5ec17cc5877e7084a"), looks := false }, kinds := [], alts := [], laidByText := true, laidKinds := [.data, .listed, .data, .pinned, .pinned], laidTests := true, laidLooks := .later }
def ConstLawsUptoCardSaid : Prop := Claim7.holds Tryz.pinned (.plain (OpenSpec.upto constLawsSpec)) constLawsUptoCard

/-- THE SECOND FORM's CARD OF 'sterlinglaw10.ConstCap'. -/
def constCapUptoCard : Claim7 := { stood := { row := constCapUptoRow, standIns := [], harness := (true, "0871d80f7bc2106acd126a29286aba5ed30dc4cc05d60fa5ec17cc5877e7084a"), looks := false }, kinds := [], alts := [], laidByText := true, laidKinds := [.data, .listed, .data, .pinned, .pinned], laidTests := true, laidLooks := .later }
def ConstCapUptoCardSaid : Prop := Claim7.holds Tryz.pinned (.plain (OpenSpec.upto constCapSpec)) constCapUptoCard
end Rows
end Go.Proofs.YtgfohimonbagmaaGreatDoor
