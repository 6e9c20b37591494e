/-
  DERIVED. GIVEN WITH THE SEED: THE CARDS: each row of YtokhjbkkpbceeaaGreatDoorRows.lean that lists a variable, with what it lists TIED to the program's text (the seventh form; the later family's looks); each row that meets fmt, with fmt's text TOLD by the authors' own Lean function (tested against real Go, not proved from fmt's source: count such statements apart). THE CARD IS WHAT COUNTS. Prove the row's statement (the work); the ties are given (YtokhjbkkpbceeaaGreatDoorTie.lean); close each card by the builder's one call (the guide's Derived/Test/ToyasCard.lean, 'card_holds'). Laid BY PROGRAM, IN A SANDBOX (cutbox-door.mjs). By AI agents, Wed Nov 11 2026. No macro, syntax, notation, axiom, sorry.
-/
import Derived.Test.YtokhjbkkpbceeaaGreatDoorRows
import GoSem.ClaimSeven
namespace Go.Proofs.YtokhjbkkpbceeaaGreatDoor
namespace Rows

/-- THE TIED CARD OF 'viatorlaw37.SegmentChecks'. -/
def segmentChecksCard : Claim7 := { stood := { row := segmentChecksRow, standIns := [], harness := (true, "44d6769e5b198b00515d35ee07b7ac507113e76eeabe502c66e521b4ba392d53"), looks := false }, kinds := [], alts := [], laidByText := true, laidKinds := [.data, .pinned], laidTests := true, laidLooks := .later }
def SegmentChecksCardSaid : Prop := Claim7.holds Tryz.pinned (.plain (OpenSpec.ofChange segmentChecksSpec)) segmentChecksCard

/-- THE TIED CARD OF 'viatorlaw37.SegmentCanonical'. -/
def segmentCanonicalCard : Claim7 := { stood := { row := segmentCanonicalRow, standIns := [], harness := (true, "44d6769e5b198b00515d35ee07b7ac507113e76eeabe502c66e521b4ba392d53"), looks := false }, kinds := [], alts := [], laidByText := true, laidKinds := [.data, .pinned], laidTests := true, laidLooks := .later }
def SegmentCanonicalCardSaid : Prop := Claim7.holds Tryz.pinned (.plain (OpenSpec.ofChange segmentCanonicalSpec)) segmentCanonicalCard

/-- THE TIED CARD OF 'viatorlaw37.SegmentReads'. -/
def segmentReadsCard : Claim7 := { stood := { row := segmentReadsRow, standIns := [], harness := (true, "44d6769e5b198b00515d35ee07b7ac507113e76eeabe502c66e521b4ba392d53"), looks := false }, kinds := [], alts := [], laidByText := true, laidKinds := [.data, .pinned], laidTests := true, laidLooks := .later }
def SegmentReadsCardSaid : Prop := Claim7.holds Tryz.pinned (.plain (OpenSpec.ofChange segmentReadsSpec)) segmentReadsCard

/-- THE TIED CARD OF 'viatorlaw37.SegmentScans'. -/
def segmentScansCard : Claim7 := { stood := { row := segmentScansRow, standIns := [], harness := (true, "44d6769e5b198b00515d35ee07b7ac507113e76eeabe502c66e521b4ba392d53"), looks := false }, kinds := [], alts := [], laidByText := true, laidKinds := [.data, .pinned], laidTests := true, laidLooks := .later }
def SegmentScansCardSaid : Prop := Claim7.holds Tryz.pinned (.plain (OpenSpec.ofChange segmentScansSpec)) segmentScansCard

/-- THE TIED CARD OF 'viatorlaw37.SegmentDamage'. -/
def segmentDamageCard : Claim7 := { stood := { row := segmentDamageRow, standIns := [], harness := (true, "44d6769e5b198b00515d35ee07b7ac507113e76eeabe502c66e521b4ba392d53"), looks := false }, kinds := [], alts := [], laidByText := true, laidKinds := [.data, .pinned], laidTests := true, laidLooks := .later }
def SegmentDamageCardSaid : Prop := Claim7.holds Tryz.pinned (.plain (OpenSpec.ofChange segmentDamageSpec)) segmentDamageCard

/-- THE TIED CARD OF 'viatorlaw37.SegmentNil'. -/
def segmentNilCard : Claim7 := { stood := { row := segmentNilRow, standIns := [], harness := (true, "44d6769e5b198b00515d35ee07b7ac507113e76eeabe502c66e521b4ba392d53"), looks := false }, kinds := [], alts := [], laidByText := true, laidKinds := [.data, .pinned], laidTests := true, laidLooks := .later }
def SegmentNilCardSaid : Prop := Claim7.holds Tryz.pinned (.plain (OpenSpec.ofChange segmentNilSpec)) segmentNilCard

/-- THE SECOND FORM's CARD OF 'viatorlaw37.SegmentChecks'. -/
def segmentChecksUptoCard : Claim7 := { stood := { row := segmentChecksUptoRow, standIns := [], harness := (true, "44d6769e5b198b00515d35ee07b7ac507113e76eeabe502c66e521b4ba392d53"), looks := false }, kinds := [], alts := [], laidByText := true, laidKinds := [.data, .pinned], laidTests := true, laidLooks := .later }
def SegmentChecksUptoCardSaid : Prop := Claim7.holds Tryz.pinned (.plain (OpenSpec.upto segmentChecksSpec)) segmentChecksUptoCard

/-- THE SECOND FORM's CARD OF 'viatorlaw37.SegmentCanonical'. -/
def segmentCanonicalUptoCard : Claim7 := { stood := { row := segmentCanonicalUptoRow, standIns := [], harness := (true, "44d6769e5b198b00515d35ee07b7ac507113e76eeabe502c66e521b4ba392d53"), looks := false }, kinds := [], alts := [], laidByText := true, laidKinds := [.data, .pinned], laidTests := true, laidLooks := .later }
def SegmentCanonicalUptoCardSaid : Prop := Claim7.holds Tryz.pinned (.plain (OpenSpec.upto segmentCanonicalSpec)) segmentCanonicalUptoCard

/-- THE SECOND FORM's CARD OF 'viatorlaw37.SegmentReads'. -/
def segmentReadsUptoCard : Claim7 := { stood := { row := segmentReadsUptoRow, standIns := [], harness := (true, "44d6769e5b198b00515d35ee07b7ac507113e76eeabe502c66e521b4ba392d53"), looks := false }, kinds := [], alts := [], laidByText := true, laidKinds := [.data, .pinned], laidTests := true, laidLooks := .later }
def SegmentReadsUptoCardSaid : Prop := Claim7.holds Tryz.pinned (.plain (OpenSpec.upto segmentReadsSpec)) segmentReadsUptoCard

/-- THE SECOND FORM's CARD OF 'viatorlaw37.SegmentScans'. -/
def segmentScansUptoCard : Claim7 := { stood := { row := segmentScansUptoRow, standIns := [], harness := (true, "44d6769e5b198b00515d35ee07b7ac507113e76eeabe502c66e521b4ba392d53"), looks := false }, kinds := [], alts := [], laidByText := true, laidKinds := [.data, .pinned], laidTests := true, laidLooks := .later }
def SegmentScansUptoCardSaid : Prop := Claim7.holds Tryz.pinned (.plain (OpenSpec.upto segmentScansSpec)) segmentScansUptoCard

/-- THE SECOND FORM's CARD OF 'viatorlaw37.SegmentDamage'. -/
def segmentDamageUptoCard : Claim7 := { stood := { row := segmentDamageUptoRow, standIns := [], harness := (true, "44d6769e5b198b00515d35ee07b7ac507113e76eeabe502c66e521b4ba392d53"), looks := false }, kinds := [], alts := [], laidByText := true, laidKinds := [.data, .pinned], laidTests := true, laidLooks := .later }
def SegmentDamageUptoCardSaid : Prop := Claim7.holds Tryz.pinned (.plain (OpenSpec.upto segmentDamageSpec)) segmentDamageUptoCard

/-- THE SECOND FORM's CARD OF 'viatorlaw37.SegmentNil'. -/
def segmentNilUptoCard : Claim7 := { stood := { row := segmentNilUptoRow, standIns := [], harness := (true, "44d6769e5b198b00515d35ee07b7ac507113e76eeabe502c66e521b4ba392d53"), looks := false }, kinds := [], alts := [], laidByText := true, laidKinds := [.data, .pinned], laidTests := true, laidLooks := .later }
def SegmentNilUptoCardSaid : Prop := Claim7.holds Tryz.pinned (.plain (OpenSpec.upto segmentNilSpec)) segmentNilUptoCard
end Rows
end Go.Proofs.YtokhjbkkpbceeaaGreatDoor
