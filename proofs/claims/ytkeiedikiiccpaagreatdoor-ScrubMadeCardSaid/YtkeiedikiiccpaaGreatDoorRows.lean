/-
  NARROWER THAN 'FOR EVERY INPUT', by the rows' own cells (each row's printed sentence says how): ScrubRaw: laid · ScrubMade: laid · ScrubOrder: laid · ScrubKeeps: laid.
  DERIVED. THE GIVEN ROWS OF THIS SEAT. 4 by the template 'for every input the law returns true; each argument reads behind the call as it read before'; 0 by the template 'total and deterministic' (their statements: YtkeiedikiiccpaaGreatDoorTotals.lean).
  GIVEN WITH THE SEED: the statements are not yours to turn. If you find one false, say at which input.
  Laid BY PROGRAM, IN A SANDBOX (cutbox-rows.mjs): the forced cells as the released guide's own fill.sh prints them over the translation b31dc68e09fad383… (all of the seat's roots in one cut). By AI agents, Wed Nov 11 2026. No macro, syntax, notation, axiom, sorry.
-/
import Derived.Test.YtkeiedikiiccpaaGreatDoorChecked
import GoSem.PinnedTables
import GoSem.Claim
import GoSem.ClaimJoined
import GoSem.ClaimMapViews
import Derived.JoinedTies
import Derived.KernelRfl
namespace Go.Proofs.YtkeiedikiiccpaaGreatDoor
/- THE CELL 'sum', in the pinned program and in every row, IS THE sha256 OF THE DUMP (.gsa) THAT YtkeiedikiiccpaaGreatDoorProg.lean LOADS. Nothing in Lean hashes anything: it is a label: what it is worth is what the hold of that sum in a sandbox is worth. -/
noncomputable def Tryz.pinned : Pinned := { name := "ytkeiedikiiccpaagreatdoor", sum := "b31dc68e09fad383be710e64c7e873170e0ec75195a856e1c8bec12deba9efa9", checked := Tryz.checked }
namespace Rows
def none {H : Type} : Left H := { results := [], args := [] }

/- WHAT THE LISTED PACKAGE-LEVEL VARIABLES READ AS WHEN THE CALL BEGINS. Each datum BY PROGRAM (the guide's laid-datum.mjs) off the statement by which the dump's own 'gosem.cut.vars' lays the variable. In a bare row this is a premise. The card (YtkeiedikiiccpaaGreatDoorCards.lean) ties it to the program's text. -/
def laid_memfault_part_names {H : Type} : DataW H := .agg [.agg [.lit (.bool false), .lit (.bool false), .lit (.bool false), .lit (.bool false), .lit (.bool false), .lit (.bool false)], .agg [.lit (.bool true), .lit (.bool true), .lit (.bool true), .lit (.bool true), .lit (.bool true), .lit (.bool true)], .agg [.lit (.bool true), .lit (.bool true), .lit (.bool true), .lit (.bool true), .lit (.bool true), .lit (.bool false)], .agg [.lit (.bool true), .lit (.bool true), .lit (.bool true), .lit (.bool true), .lit (.bool false), .lit (.bool true)], .agg [.lit (.bool true), .lit (.bool true), .lit (.bool true), .lit (.bool true), .lit (.bool false), .lit (.bool false)], .agg [.lit (.bool true), .lit (.bool true), .lit (.bool true), .lit (.bool false), .lit (.bool false), .lit (.bool false)], .agg [.lit (.bool true), .lit (.bool true), .lit (.bool false), .lit (.bool false), .lit (.bool false), .lit (.bool false)]]
def laid_unicode_utf8_acceptRanges {H : Type} : DataW H := .agg [.agg [.lit (.int .u8 128), .lit (.int .u8 191)], .agg [.lit (.int .u8 160), .lit (.int .u8 191)], .agg [.lit (.int .u8 128), .lit (.int .u8 159)], .agg [.lit (.int .u8 144), .lit (.int .u8 191)], .agg [.lit (.int .u8 128), .lit (.int .u8 143)], .agg [.lit (.int .u8 0), .lit (.int .u8 0)], .agg [.lit (.int .u8 0), .lit (.int .u8 0)], .agg [.lit (.int .u8 0), .lit (.int .u8 0)], .agg [.lit (.int .u8 0), .lit (.int .u8 0)], .agg [.lit (.int .u8 0), .lit (.int .u8 0)], .agg [.lit (.int .u8 0), .lit (.int .u8 0)], .agg [.lit (.int .u8 0), .lit (.int .u8 0)], .agg [.lit (.int .u8 0), .lit (.int .u8 0)], .agg [.lit (.int .u8 0), .lit (.int .u8 0)], .agg [.lit (.int .u8 0), .lit (.int .u8 0)], .agg [.lit (.int .u8 0), .lit (.int .u8 0)]]
/-- One of Go's own tables, pinned by name: the form's constant. -/
def laid_unicode_utf8_first : DataW Unit := Go.Pinned.utf8First

/-- 'memfaultlaw15.ScrubRaw': WHATEVER THE INPUT: true; the input reads as it did. -/
def scrubRawSpec : ChangeSpec := { name := "scrubRaw", fn := fun _ => fun
  | [d1, d2, d3] => { results := [.lit (.bool true)], args := [d1, d2, d3] }
  | _ => none }
def scrubRawRow : OpenClaim := { program := "ytkeiedikiiccpaagreatdoor", sum := "b31dc68e09fad383be710e64c7e873170e0ec75195a856e1c8bec12deba9efa9", func := "memfault/memfaultlaw15.ScrubRaw", spec := "scrubRaw", inPlace := ["slices.overlaps[memfault/api.Word]"], unfollowed := true, recurses := true, named := ["memfault/part.names", "unicode/utf8.first", "unicode/utf8.acceptRanges"], apart := false, laid := [("memfault/part.names", laid_memfault_part_names), ("unicode/utf8.acceptRanges", laid_unicode_utf8_acceptRanges), ("unicode/utf8.first", laid_unicode_utf8_first)] }
def ScrubRawSaid : Prop := scrubRawRow.holds Tryz.pinned (OpenSpec.ofChange scrubRawSpec)

/-- ITS FALSE NEIGHBOUR: 'it returns false'. Refute it at one input. -/
def scrubRawWrong : ChangeSpec := { name := "scrubRaw", fn := fun _ => fun
  | [d1, d2, d3] => { results := [.lit (.bool false)], args := [d1, d2, d3] }
  | _ => none }
def ScrubRawWrongFalsely : Prop := scrubRawRow.holds Tryz.pinned (OpenSpec.ofChange scrubRawWrong)

/-- 'memfaultlaw15.ScrubMade': WHATEVER THE INPUT: true; the input reads as it did. -/
def scrubMadeSpec : ChangeSpec := { name := "scrubMade", fn := fun _ => fun
  | [d] => { results := [.lit (.bool true)], args := [d] }
  | _ => none }
def scrubMadeRow : OpenClaim := { program := "ytkeiedikiiccpaagreatdoor", sum := "b31dc68e09fad383be710e64c7e873170e0ec75195a856e1c8bec12deba9efa9", func := "memfault/memfaultlaw15.ScrubMade", spec := "scrubMade", inPlace := ["slices.overlaps[memfault/api.Word]"], unfollowed := true, recurses := true, named := ["memfault/part.names", "unicode/utf8.first", "unicode/utf8.acceptRanges"], apart := false, laid := [("memfault/part.names", laid_memfault_part_names), ("unicode/utf8.acceptRanges", laid_unicode_utf8_acceptRanges), ("unicode/utf8.first", laid_unicode_utf8_first)] }
def ScrubMadeSaid : Prop := scrubMadeRow.holds Tryz.pinned (OpenSpec.ofChange scrubMadeSpec)

/-- ITS FALSE NEIGHBOUR: 'it returns false'. Refute it at one input. -/
def scrubMadeWrong : ChangeSpec := { name := "scrubMade", fn := fun _ => fun
  | [d] => { results := [.lit (.bool false)], args := [d] }
  | _ => none }
def ScrubMadeWrongFalsely : Prop := scrubMadeRow.holds Tryz.pinned (OpenSpec.ofChange scrubMadeWrong)

/-- 'memfaultlaw15.ScrubOrder': WHATEVER THE INPUT: true; the input reads as it did. -/
def scrubOrderSpec : ChangeSpec := { name := "scrubOrder", fn := fun _ => fun
  | [d1, d2, d3] => { results := [.lit (.bool true)], args := [d1, d2, d3] }
  | _ => none }
def scrubOrderRow : OpenClaim := { program := "ytkeiedikiiccpaagreatdoor", sum := "b31dc68e09fad383be710e64c7e873170e0ec75195a856e1c8bec12deba9efa9", func := "memfault/memfaultlaw15.ScrubOrder", spec := "scrubOrder", inPlace := ["slices.overlaps[memfault/api.Word]"], unfollowed := true, recurses := true, named := ["memfault/part.names", "unicode/utf8.first", "unicode/utf8.acceptRanges"], apart := false, laid := [("memfault/part.names", laid_memfault_part_names), ("unicode/utf8.acceptRanges", laid_unicode_utf8_acceptRanges), ("unicode/utf8.first", laid_unicode_utf8_first)] }
def ScrubOrderSaid : Prop := scrubOrderRow.holds Tryz.pinned (OpenSpec.ofChange scrubOrderSpec)

/-- ITS FALSE NEIGHBOUR: 'it returns false'. Refute it at one input. -/
def scrubOrderWrong : ChangeSpec := { name := "scrubOrder", fn := fun _ => fun
  | [d1, d2, d3] => { results := [.lit (.bool false)], args := [d1, d2, d3] }
  | _ => none }
def ScrubOrderWrongFalsely : Prop := scrubOrderRow.holds Tryz.pinned (OpenSpec.ofChange scrubOrderWrong)

/-- 'memfaultlaw15.ScrubKeeps': WHATEVER THE INPUT: true; the input reads as it did. -/
def scrubKeepsSpec : ChangeSpec := { name := "scrubKeeps", fn := fun _ => fun
  | [d1, d2] => { results := [.lit (.bool true)], args := [d1, d2] }
  | _ => none }
def scrubKeepsRow : OpenClaim := { program := "ytkeiedikiiccpaagreatdoor", sum := "b31dc68e09fad383be710e64c7e873170e0ec75195a856e1c8bec12deba9efa9", func := "memfault/memfaultlaw15.ScrubKeeps", spec := "scrubKeeps", inPlace := ["slices.overlaps[memfault/api.Word]"], unfollowed := true, recurses := true, named := ["memfault/part.names", "unicode/utf8.first", "unicode/utf8.acceptRanges"], apart := false, laid := [("memfault/part.names", laid_memfault_part_names), ("unicode/utf8.acceptRanges", laid_unicode_utf8_acceptRanges), ("unicode/utf8.first", laid_unicode_utf8_first)] }
def ScrubKeepsSaid : Prop := scrubKeepsRow.holds Tryz.pinned (OpenSpec.ofChange scrubKeepsSpec)

/-- ITS FALSE NEIGHBOUR: 'it returns false'. Refute it at one input. -/
def scrubKeepsWrong : ChangeSpec := { name := "scrubKeeps", fn := fun _ => fun
  | [d1, d2] => { results := [.lit (.bool false)], args := [d1, d2] }
  | _ => none }
def ScrubKeepsWrongFalsely : Prop := scrubKeepsRow.holds Tryz.pinned (OpenSpec.ofChange scrubKeepsWrong)

/- THE SECOND FORM. 'bulk': how many values and letters a reading holds, each counted each time it is reached (what is shared counts as often as it is met; a slice's spare places count too). A statement '..UptoSaid' is the law's where the arguments, and the package variables that the reading takes, are together of bulk at most 1048576: NARROWER than '..Said'. Prove '..Said' where nothing that the law and all that it calls make is longer than what came in: it says more and counts as full. Else prove '..UptoSaid'. A law counts once. -/
mutual
def uptoBulk {H : Type} : DataW H → Nat
  | .lit (.string bytes) => bytes.length + 1
  | .lit _ => 1
  | .nil => 1
  | .ptr d => uptoBulk d + 1
  | .slice elems spare => uptoBulkAll elems + uptoBulkAll spare + 1
  | .agg parts => uptoBulkAll parts + 1
  | .iface _ d => uptoBulk d + 1
  | .map entries => uptoBulkEntries entries + 1
  | .held _ => 1
def uptoBulkAll {H : Type} : List (DataW H) → Nat
  | [] => 0
  | d :: r => uptoBulk d + uptoBulkAll r
def uptoBulkEntries {H : Type} : List (Lit × DataW H) → Nat
  | [] => 0
  | x :: r => uptoBulkEntry x + uptoBulkEntries r
def uptoBulkEntry {H : Type} : Lit × DataW H → Nat
  | (.string bytes, d) => bytes.length + uptoBulk d + 1
  | (_, d) => uptoBulk d + 1
 end
def uptoSmall : (H : Type) → List (DataW H) → Bool := fun _ ds => decide (uptoBulkAll ds ≤ 1048576)
def OpenSpec.upto (s : _root_.Go.ChangeSpec) : _root_.Go.OpenSpec := { _root_.Go.OpenSpec.ofChange s with cond := some uptoSmall }

/-- 'memfaultlaw15.ScrubRaw', WHERE WHAT IT READS IS OF BULK AT MOST 1048576: true; the input reads as it did. -/
def scrubRawUptoRow : OpenClaim := { program := "ytkeiedikiiccpaagreatdoor", sum := "b31dc68e09fad383be710e64c7e873170e0ec75195a856e1c8bec12deba9efa9", func := "memfault/memfaultlaw15.ScrubRaw", spec := "scrubRaw", inPlace := ["slices.overlaps[memfault/api.Word]"], unfollowed := true, recurses := true, named := ["memfault/part.names", "unicode/utf8.first", "unicode/utf8.acceptRanges"], apart := false, laid := [("memfault/part.names", laid_memfault_part_names), ("unicode/utf8.acceptRanges", laid_unicode_utf8_acceptRanges), ("unicode/utf8.first", laid_unicode_utf8_first)], narrowed := true }
def ScrubRawUptoSaid : Prop := scrubRawUptoRow.holds Tryz.pinned (OpenSpec.upto scrubRawSpec)

/-- 'memfaultlaw15.ScrubMade', WHERE WHAT IT READS IS OF BULK AT MOST 1048576: true; the input reads as it did. -/
def scrubMadeUptoRow : OpenClaim := { program := "ytkeiedikiiccpaagreatdoor", sum := "b31dc68e09fad383be710e64c7e873170e0ec75195a856e1c8bec12deba9efa9", func := "memfault/memfaultlaw15.ScrubMade", spec := "scrubMade", inPlace := ["slices.overlaps[memfault/api.Word]"], unfollowed := true, recurses := true, named := ["memfault/part.names", "unicode/utf8.first", "unicode/utf8.acceptRanges"], apart := false, laid := [("memfault/part.names", laid_memfault_part_names), ("unicode/utf8.acceptRanges", laid_unicode_utf8_acceptRanges), ("unicode/utf8.first", laid_unicode_utf8_first)], narrowed := true }
def ScrubMadeUptoSaid : Prop := scrubMadeUptoRow.holds Tryz.pinned (OpenSpec.upto scrubMadeSpec)

/-- 'memfaultlaw15.ScrubOrder', WHERE WHAT IT READS IS OF BULK AT MOST 1048576: true; the input reads as it did. -/
def scrubOrderUptoRow : OpenClaim := { program := "ytkeiedikiiccpaagreatdoor", sum := "b31dc68e09fad383be710e64c7e873170e0ec75195a856e1c8bec12deba9efa9", func := "memfault/memfaultlaw15.ScrubOrder", spec := "scrubOrder", inPlace := ["slices.overlaps[memfault/api.Word]"], unfollowed := true, recurses := true, named := ["memfault/part.names", "unicode/utf8.first", "unicode/utf8.acceptRanges"], apart := false, laid := [("memfault/part.names", laid_memfault_part_names), ("unicode/utf8.acceptRanges", laid_unicode_utf8_acceptRanges), ("unicode/utf8.first", laid_unicode_utf8_first)], narrowed := true }
def ScrubOrderUptoSaid : Prop := scrubOrderUptoRow.holds Tryz.pinned (OpenSpec.upto scrubOrderSpec)

/-- 'memfaultlaw15.ScrubKeeps', WHERE WHAT IT READS IS OF BULK AT MOST 1048576: true; the input reads as it did. -/
def scrubKeepsUptoRow : OpenClaim := { program := "ytkeiedikiiccpaagreatdoor", sum := "b31dc68e09fad383be710e64c7e873170e0ec75195a856e1c8bec12deba9efa9", func := "memfault/memfaultlaw15.ScrubKeeps", spec := "scrubKeeps", inPlace := ["slices.overlaps[memfault/api.Word]"], unfollowed := true, recurses := true, named := ["memfault/part.names", "unicode/utf8.first", "unicode/utf8.acceptRanges"], apart := false, laid := [("memfault/part.names", laid_memfault_part_names), ("unicode/utf8.acceptRanges", laid_unicode_utf8_acceptRanges), ("unicode/utf8.first", laid_unicode_utf8_first)], narrowed := true }
def ScrubKeepsUptoSaid : Prop := scrubKeepsUptoRow.holds Tryz.pinned (OpenSpec.upto scrubKeepsSpec)

end Rows
end Go.Proofs.YtkeiedikiiccpaaGreatDoor
