/-
  NARROWER THAN 'FOR EVERY INPUT', by the rows' own cells (each row's printed sentence says how): SegmentChecks: laid · SegmentCanonical: laid · SegmentReads: laid · SegmentScans: laid · SegmentDamage: laid · SegmentNil: laid.
  DERIVED. THE GIVEN ROWS OF THIS SEAT. 6 by the template 'for every input the law returns true; each argument reads behind the call as it read before'; 0 by the template 'total and deterministic' (their statements: YtokhjbkkpbceeaaGreatDoorTotals.lean).
  GIVEN WITH THE SEED: the statements are not yours to turn. If you find one false, say at which input.
  Laid BY PROGRAM, IN A SANDBOX (cutbox-rows.mjs): the forced cells as the released guide's own fill.sh prints them over the translation 27ab624c87e32ccf… (all of the seat's roots in one cut). By AI agents, Wed Nov 11 2026. No macro, syntax, notation, axiom, sorry.
-/
import Derived.Test.YtokhjbkkpbceeaaGreatDoorChecked
import GoSem.PinnedTables
import GoSem.Claim
import GoSem.ClaimJoined
import GoSem.ClaimMapViews
import Derived.JoinedTies
import Derived.KernelRfl
namespace Go.Proofs.YtokhjbkkpbceeaaGreatDoor
/- THE CELL 'sum', in the pinned program and in every row, IS THE sha256 OF THE DUMP (.gsa) THAT YtokhjbkkpbceeaaGreatDoorProg.lean LOADS. Nothing in Lean hashes anything: it is a label: what it is worth is what the hold of that sum in a sandbox is worth. -/
noncomputable def Tryz.pinned : Pinned := { name := "ytokhjbkkpbceeaagreatdoor", sum := "27ab624c87e32ccf9d71a83a7acf3ee62b4fe73280e02be4face88581044f37e", checked := Tryz.checked }
namespace Rows
def none {H : Type} : Left H := { results := [], args := [] }

/- WHAT THE LISTED PACKAGE-LEVEL VARIABLES READ AS WHEN THE CALL BEGINS. Each datum BY PROGRAM (the guide's laid-datum.mjs) off the statement by which the dump's own 'gosem.cut.vars' lays the variable. In a bare row this is a premise. The card (YtokhjbkkpbceeaaGreatDoorCards.lean) ties it to the program's text. -/
def laid_unicode_utf8_acceptRanges {H : Type} : DataW H := .agg [.agg [.lit (.int .u8 128), .lit (.int .u8 191)], .agg [.lit (.int .u8 160), .lit (.int .u8 191)], .agg [.lit (.int .u8 128), .lit (.int .u8 159)], .agg [.lit (.int .u8 144), .lit (.int .u8 191)], .agg [.lit (.int .u8 128), .lit (.int .u8 143)], .agg [.lit (.int .u8 0), .lit (.int .u8 0)], .agg [.lit (.int .u8 0), .lit (.int .u8 0)], .agg [.lit (.int .u8 0), .lit (.int .u8 0)], .agg [.lit (.int .u8 0), .lit (.int .u8 0)], .agg [.lit (.int .u8 0), .lit (.int .u8 0)], .agg [.lit (.int .u8 0), .lit (.int .u8 0)], .agg [.lit (.int .u8 0), .lit (.int .u8 0)], .agg [.lit (.int .u8 0), .lit (.int .u8 0)], .agg [.lit (.int .u8 0), .lit (.int .u8 0)], .agg [.lit (.int .u8 0), .lit (.int .u8 0)], .agg [.lit (.int .u8 0), .lit (.int .u8 0)]]
/-- One of Go's own tables, pinned by name: the form's constant. -/
def laid_unicode_utf8_first : DataW Unit := Go.Pinned.utf8First

/-- 'viatorlaw37.SegmentChecks': WHATEVER THE INPUT: true; the input reads as it did. -/
def segmentChecksSpec : ChangeSpec := { name := "segmentChecks", fn := fun _ => fun
  | [d1, d2, d3] => { results := [.lit (.bool true)], args := [d1, d2, d3] }
  | _ => none }
def segmentChecksRow : OpenClaim := { program := "ytokhjbkkpbceeaagreatdoor", sum := "27ab624c87e32ccf9d71a83a7acf3ee62b4fe73280e02be4face88581044f37e", func := "viator/viatorlaw37.SegmentChecks", spec := "segmentChecks", inPlace := ["internal/bytealg.abigen_runtime_cmpstring", "internal/bytealg.IndexByteString", "internal/bytealg.IndexString", "internal/abi.NoEscape", "internal/bytealg.MakeNoZero", "math/bits.Add64"], unfollowed := true, recurses := true, named := ["unicode/utf8.first", "unicode/utf8.acceptRanges", "internal/bytealg.MaxLen"], apart := false, laid := [("unicode/utf8.acceptRanges", laid_unicode_utf8_acceptRanges), ("unicode/utf8.first", laid_unicode_utf8_first)] }
def SegmentChecksSaid : Prop := segmentChecksRow.holds Tryz.pinned (OpenSpec.ofChange segmentChecksSpec)

/-- ITS FALSE NEIGHBOUR: 'it returns false'. Refute it at one input. -/
def segmentChecksWrong : ChangeSpec := { name := "segmentChecks", fn := fun _ => fun
  | [d1, d2, d3] => { results := [.lit (.bool false)], args := [d1, d2, d3] }
  | _ => none }
def SegmentChecksWrongFalsely : Prop := segmentChecksRow.holds Tryz.pinned (OpenSpec.ofChange segmentChecksWrong)

/-- 'viatorlaw37.SegmentCanonical': WHATEVER THE INPUT: true; the input reads as it did. -/
def segmentCanonicalSpec : ChangeSpec := { name := "segmentCanonical", fn := fun _ => fun
  | [d1, d2, d3] => { results := [.lit (.bool true)], args := [d1, d2, d3] }
  | _ => none }
def segmentCanonicalRow : OpenClaim := { program := "ytokhjbkkpbceeaagreatdoor", sum := "27ab624c87e32ccf9d71a83a7acf3ee62b4fe73280e02be4face88581044f37e", func := "viator/viatorlaw37.SegmentCanonical", spec := "segmentCanonical", inPlace := ["internal/bytealg.abigen_runtime_cmpstring", "internal/bytealg.IndexByteString", "internal/bytealg.IndexString", "internal/abi.NoEscape", "internal/bytealg.MakeNoZero", "math/bits.Add64"], unfollowed := true, recurses := true, named := ["unicode/utf8.first", "unicode/utf8.acceptRanges", "internal/bytealg.MaxLen"], apart := false, laid := [("unicode/utf8.acceptRanges", laid_unicode_utf8_acceptRanges), ("unicode/utf8.first", laid_unicode_utf8_first)] }
def SegmentCanonicalSaid : Prop := segmentCanonicalRow.holds Tryz.pinned (OpenSpec.ofChange segmentCanonicalSpec)

/-- ITS FALSE NEIGHBOUR: 'it returns false'. Refute it at one input. -/
def segmentCanonicalWrong : ChangeSpec := { name := "segmentCanonical", fn := fun _ => fun
  | [d1, d2, d3] => { results := [.lit (.bool false)], args := [d1, d2, d3] }
  | _ => none }
def SegmentCanonicalWrongFalsely : Prop := segmentCanonicalRow.holds Tryz.pinned (OpenSpec.ofChange segmentCanonicalWrong)

/-- 'viatorlaw37.SegmentReads': WHATEVER THE INPUT: true; the input reads as it did. -/
def segmentReadsSpec : ChangeSpec := { name := "segmentReads", fn := fun _ => fun
  | [d1, d2, d3] => { results := [.lit (.bool true)], args := [d1, d2, d3] }
  | _ => none }
def segmentReadsRow : OpenClaim := { program := "ytokhjbkkpbceeaagreatdoor", sum := "27ab624c87e32ccf9d71a83a7acf3ee62b4fe73280e02be4face88581044f37e", func := "viator/viatorlaw37.SegmentReads", spec := "segmentReads", inPlace := ["internal/bytealg.abigen_runtime_cmpstring", "internal/bytealg.IndexByteString", "internal/bytealg.IndexString", "internal/abi.NoEscape", "internal/bytealg.MakeNoZero", "math/bits.Add64"], unfollowed := true, recurses := true, named := ["unicode/utf8.first", "unicode/utf8.acceptRanges", "internal/bytealg.MaxLen"], apart := false, laid := [("unicode/utf8.acceptRanges", laid_unicode_utf8_acceptRanges), ("unicode/utf8.first", laid_unicode_utf8_first)] }
def SegmentReadsSaid : Prop := segmentReadsRow.holds Tryz.pinned (OpenSpec.ofChange segmentReadsSpec)

/-- ITS FALSE NEIGHBOUR: 'it returns false'. Refute it at one input. -/
def segmentReadsWrong : ChangeSpec := { name := "segmentReads", fn := fun _ => fun
  | [d1, d2, d3] => { results := [.lit (.bool false)], args := [d1, d2, d3] }
  | _ => none }
def SegmentReadsWrongFalsely : Prop := segmentReadsRow.holds Tryz.pinned (OpenSpec.ofChange segmentReadsWrong)

/-- 'viatorlaw37.SegmentScans': WHATEVER THE INPUT: true; the input reads as it did. -/
def segmentScansSpec : ChangeSpec := { name := "segmentScans", fn := fun _ => fun
  | [d1, d2, d3] => { results := [.lit (.bool true)], args := [d1, d2, d3] }
  | _ => none }
def segmentScansRow : OpenClaim := { program := "ytokhjbkkpbceeaagreatdoor", sum := "27ab624c87e32ccf9d71a83a7acf3ee62b4fe73280e02be4face88581044f37e", func := "viator/viatorlaw37.SegmentScans", spec := "segmentScans", inPlace := ["internal/bytealg.abigen_runtime_cmpstring", "internal/bytealg.IndexByteString", "internal/bytealg.IndexString", "internal/abi.NoEscape", "internal/bytealg.MakeNoZero", "math/bits.Add64"], unfollowed := true, recurses := true, named := ["unicode/utf8.first", "unicode/utf8.acceptRanges", "internal/bytealg.MaxLen"], apart := false, laid := [("unicode/utf8.acceptRanges", laid_unicode_utf8_acceptRanges), ("unicode/utf8.first", laid_unicode_utf8_first)] }
def SegmentScansSaid : Prop := segmentScansRow.holds Tryz.pinned (OpenSpec.ofChange segmentScansSpec)

/-- ITS FALSE NEIGHBOUR: 'it returns false'. Refute it at one input. -/
def segmentScansWrong : ChangeSpec := { name := "segmentScans", fn := fun _ => fun
  | [d1, d2, d3] => { results := [.lit (.bool false)], args := [d1, d2, d3] }
  | _ => none }
def SegmentScansWrongFalsely : Prop := segmentScansRow.holds Tryz.pinned (OpenSpec.ofChange segmentScansWrong)

/-- 'viatorlaw37.SegmentDamage': WHATEVER THE INPUT: true; the input reads as it did. -/
def segmentDamageSpec : ChangeSpec := { name := "segmentDamage", fn := fun _ => fun
  | [d1, d2, d3] => { results := [.lit (.bool true)], args := [d1, d2, d3] }
  | _ => none }
def segmentDamageRow : OpenClaim := { program := "ytokhjbkkpbceeaagreatdoor", sum := "27ab624c87e32ccf9d71a83a7acf3ee62b4fe73280e02be4face88581044f37e", func := "viator/viatorlaw37.SegmentDamage", spec := "segmentDamage", inPlace := ["internal/bytealg.abigen_runtime_cmpstring", "internal/bytealg.IndexByteString", "internal/bytealg.IndexString", "internal/abi.NoEscape", "internal/bytealg.MakeNoZero", "math/bits.Add64"], unfollowed := true, recurses := true, named := ["unicode/utf8.first", "unicode/utf8.acceptRanges", "internal/bytealg.MaxLen"], apart := false, laid := [("unicode/utf8.acceptRanges", laid_unicode_utf8_acceptRanges), ("unicode/utf8.first", laid_unicode_utf8_first)] }
def SegmentDamageSaid : Prop := segmentDamageRow.holds Tryz.pinned (OpenSpec.ofChange segmentDamageSpec)

/-- ITS FALSE NEIGHBOUR: 'it returns false'. Refute it at one input. -/
def segmentDamageWrong : ChangeSpec := { name := "segmentDamage", fn := fun _ => fun
  | [d1, d2, d3] => { results := [.lit (.bool false)], args := [d1, d2, d3] }
  | _ => none }
def SegmentDamageWrongFalsely : Prop := segmentDamageRow.holds Tryz.pinned (OpenSpec.ofChange segmentDamageWrong)

/-- 'viatorlaw37.SegmentNil': WHATEVER THE INPUT: true; the input reads as it did. -/
def segmentNilSpec : ChangeSpec := { name := "segmentNil", fn := fun _ => fun
  | [d1, d2] => { results := [.lit (.bool true)], args := [d1, d2] }
  | _ => none }
def segmentNilRow : OpenClaim := { program := "ytokhjbkkpbceeaagreatdoor", sum := "27ab624c87e32ccf9d71a83a7acf3ee62b4fe73280e02be4face88581044f37e", func := "viator/viatorlaw37.SegmentNil", spec := "segmentNil", inPlace := ["internal/bytealg.abigen_runtime_cmpstring", "internal/bytealg.IndexByteString", "internal/bytealg.IndexString", "internal/abi.NoEscape", "internal/bytealg.MakeNoZero", "math/bits.Add64"], unfollowed := true, recurses := true, named := ["unicode/utf8.first", "unicode/utf8.acceptRanges", "internal/bytealg.MaxLen"], apart := false, laid := [("unicode/utf8.acceptRanges", laid_unicode_utf8_acceptRanges), ("unicode/utf8.first", laid_unicode_utf8_first)] }
def SegmentNilSaid : Prop := segmentNilRow.holds Tryz.pinned (OpenSpec.ofChange segmentNilSpec)

/-- ITS FALSE NEIGHBOUR: 'it returns false'. Refute it at one input. -/
def segmentNilWrong : ChangeSpec := { name := "segmentNil", fn := fun _ => fun
  | [d1, d2] => { results := [.lit (.bool false)], args := [d1, d2] }
  | _ => none }
def SegmentNilWrongFalsely : Prop := segmentNilRow.holds Tryz.pinned (OpenSpec.ofChange segmentNilWrong)

/- THE SECOND FORM. 'bulk': how many values and letters a reading holds, each counted each time it is reached (what is shared counts as often as it is met; a slice's spare places count too). A statement '..UptoSaid' is the law's where the arguments, and the package variables that the reading takes, are together of bulk at most 1048576: NARROWER than '..Said'. Prove '..Said' where nothing that the law and all that it calls make is longer than what came in: it says more and counts as full. Else prove '..UptoSaid'. A law counts once. -/
mutual
def uptoBulk {H : Type} : DataW H → Nat
  | .lit (.string bytes) => bytes.length + 1
  | .lit _ => 1
  | .nil => 1
  | .ptr d => uptoBulk d + 1
  | .slice elems spare => uptoBulkAll elems + uptoBulkAll spare + 1
  | .agg parts => uptoBulkAll parts + 1
  | .iface _ d => uptoBulk d + 1
  | .map entries => uptoBulkEntries entries + 1
  | .held _ => 1
def uptoBulkAll {H : Type} : List (DataW H) → Nat
  | [] => 0
  | d :: r => uptoBulk d + uptoBulkAll r
def uptoBulkEntries {H : Type} : List (Lit × DataW H) → Nat
  | [] => 0
  | x :: r => uptoBulkEntry x + uptoBulkEntries r
def uptoBulkEntry {H : Type} : Lit × DataW H → Nat
  | (.string bytes, d) => bytes.length + uptoBulk d + 1
  | (_, d) => uptoBulk d + 1
 end
def uptoSmall : (H : Type) → List (DataW H) → Bool := fun _ ds => decide (uptoBulkAll ds ≤ 1048576)
def OpenSpec.upto (s : _root_.Go.ChangeSpec) : _root_.Go.OpenSpec := { _root_.Go.OpenSpec.ofChange s with cond := some uptoSmall }

/-- 'viatorlaw37.SegmentChecks', WHERE WHAT IT READS IS OF BULK AT MOST 1048576: true; the input reads as it did. -/
def segmentChecksUptoRow : OpenClaim := { program := "ytokhjbkkpbceeaagreatdoor", sum := "27ab624c87e32ccf9d71a83a7acf3ee62b4fe73280e02be4face88581044f37e", func := "viator/viatorlaw37.SegmentChecks", spec := "segmentChecks", inPlace := ["internal/bytealg.abigen_runtime_cmpstring", "internal/bytealg.IndexByteString", "internal/bytealg.IndexString", "internal/abi.NoEscape", "internal/bytealg.MakeNoZero", "math/bits.Add64"], unfollowed := true, recurses := true, named := ["unicode/utf8.first", "unicode/utf8.acceptRanges", "internal/bytealg.MaxLen"], apart := false, laid := [("unicode/utf8.acceptRanges", laid_unicode_utf8_acceptRanges), ("unicode/utf8.first", laid_unicode_utf8_first)], narrowed := true }
def SegmentChecksUptoSaid : Prop := segmentChecksUptoRow.holds Tryz.pinned (OpenSpec.upto segmentChecksSpec)

/-- 'viatorlaw37.SegmentCanonical', WHERE WHAT IT READS IS OF BULK AT MOST 1048576: true; the input reads as it did. -/
def segmentCanonicalUptoRow : OpenClaim := { program := "ytokhjbkkpbceeaagreatdoor", sum := "27ab624c87e32ccf9d71a83a7acf3ee62b4fe73280e02be4face88581044f37e", func := "viator/viatorlaw37.SegmentCanonical", spec := "segmentCanonical", inPlace := ["internal/bytealg.abigen_runtime_cmpstring", "internal/bytealg.IndexByteString", "internal/bytealg.IndexString", "internal/abi.NoEscape", "internal/bytealg.MakeNoZero", "math/bits.Add64"], unfollowed := true, recurses := true, named := ["unicode/utf8.first", "unicode/utf8.acceptRanges", "internal/bytealg.MaxLen"], apart := false, laid := [("unicode/utf8.acceptRanges", laid_unicode_utf8_acceptRanges), ("unicode/utf8.first", laid_unicode_utf8_first)], narrowed := true }
def SegmentCanonicalUptoSaid : Prop := segmentCanonicalUptoRow.holds Tryz.pinned (OpenSpec.upto segmentCanonicalSpec)

/-- 'viatorlaw37.SegmentReads', WHERE WHAT IT READS IS OF BULK AT MOST 1048576: true; the input reads as it did. -/
def segmentReadsUptoRow : OpenClaim := { program := "ytokhjbkkpbceeaagreatdoor", sum := "27ab624c87e32ccf9d71a83a7acf3ee62b4fe73280e02be4face88581044f37e", func := "viator/viatorlaw37.SegmentReads", spec := "segmentReads", inPlace := ["internal/bytealg.abigen_runtime_cmpstring", "internal/bytealg.IndexByteString", "internal/bytealg.IndexString", "internal/abi.NoEscape", "internal/bytealg.MakeNoZero", "math/bits.Add64"], unfollowed := true, recurses := true, named := ["unicode/utf8.first", "unicode/utf8.acceptRanges", "internal/bytealg.MaxLen"], apart := false, laid := [("unicode/utf8.acceptRanges", laid_unicode_utf8_acceptRanges), ("unicode/utf8.first", laid_unicode_utf8_first)], narrowed := true }
def SegmentReadsUptoSaid : Prop := segmentReadsUptoRow.holds Tryz.pinned (OpenSpec.upto segmentReadsSpec)

/-- 'viatorlaw37.SegmentScans', WHERE WHAT IT READS IS OF BULK AT MOST 1048576: true; the input reads as it did. -/
def segmentScansUptoRow : OpenClaim := { program := "ytokhjbkkpbceeaagreatdoor", sum := "27ab624c87e32ccf9d71a83a7acf3ee62b4fe73280e02be4face88581044f37e", func := "viator/viatorlaw37.SegmentScans", spec := "segmentScans", inPlace := ["internal/bytealg.abigen_runtime_cmpstring", "internal/bytealg.IndexByteString", "internal/bytealg.IndexString", "internal/abi.NoEscape", "internal/bytealg.MakeNoZero", "math/bits.Add64"], unfollowed := true, recurses := true, named := ["unicode/utf8.first", "unicode/utf8.acceptRanges", "internal/bytealg.MaxLen"], apart := false, laid := [("unicode/utf8.acceptRanges", laid_unicode_utf8_acceptRanges), ("unicode/utf8.first", laid_unicode_utf8_first)], narrowed := true }
def SegmentScansUptoSaid : Prop := segmentScansUptoRow.holds Tryz.pinned (OpenSpec.upto segmentScansSpec)

/-- 'viatorlaw37.SegmentDamage', WHERE WHAT IT READS IS OF BULK AT MOST 1048576: true; the input reads as it did. -/
def segmentDamageUptoRow : OpenClaim := { program := "ytokhjbkkpbceeaagreatdoor", sum := "27ab624c87e32ccf9d71a83a7acf3ee62b4fe73280e02be4face88581044f37e", func := "viator/viatorlaw37.SegmentDamage", spec := "segmentDamage", inPlace := ["internal/bytealg.abigen_runtime_cmpstring", "internal/bytealg.IndexByteString", "internal/bytealg.IndexString", "internal/abi.NoEscape", "internal/bytealg.MakeNoZero", "math/bits.Add64"], unfollowed := true, recurses := true, named := ["unicode/utf8.first", "unicode/utf8.acceptRanges", "internal/bytealg.MaxLen"], apart := false, laid := [("unicode/utf8.acceptRanges", laid_unicode_utf8_acceptRanges), ("unicode/utf8.first", laid_unicode_utf8_first)], narrowed := true }
def SegmentDamageUptoSaid : Prop := segmentDamageUptoRow.holds Tryz.pinned (OpenSpec.upto segmentDamageSpec)

/-- 'viatorlaw37.SegmentNil', WHERE WHAT IT READS IS OF BULK AT MOST 1048576: true; the input reads as it did. -/
def segmentNilUptoRow : OpenClaim := { program := "ytokhjbkkpbceeaagreatdoor", sum := "27ab624c87e32ccf9d71a83a7acf3ee62b4fe73280e02be4face88581044f37e", func := "viator/viatorlaw37.SegmentNil", spec := "segmentNil", inPlace := ["internal/bytealg.abigen_runtime_cmpstring", "internal/bytealg.IndexByteString", "internal/bytealg.IndexString", "internal/abi.NoEscape", "internal/bytealg.MakeNoZero", "math/bits.Add64"], unfollowed := true, recurses := true, named := ["unicode/utf8.first", "unicode/utf8.acceptRanges", "internal/bytealg.MaxLen"], apart := false, laid := [("unicode/utf8.acceptRanges", laid_unicode_utf8_acceptRanges), ("unicode/utf8.first", laid_unicode_utf8_first)], narrowed := true }
def SegmentNilUptoSaid : Prop := segmentNilUptoRow.holds Tryz.pinned (OpenSpec.upto segmentNilSpec)

end Rows
end Go.Proofs.YtokhjbkkpbceeaaGreatDoor
