/-
  NARROWER THAN 'FOR EVERY INPUT', by the rows' own cells (each row's printed sentence says how): KvPlays: laid · KvOpens: laid · KvFull: laid · KvCuts: laid.
  DERIVED. THE GIVEN ROWS OF THIS SEAT. 4 by the template 'for every input the law returns true; each argument reads behind the call as it read before'; 0 by the template 'total and deterministic' (their statements: YtjnbbfhoegeppaaGreatDoorTotals.lean).
  GIVEN WITH THE SEED: the statements are not yours to turn. If you find one false, say at which input.
  Laid BY PROGRAM, IN A SANDBOX (cutbox-rows.mjs): the forced cells as the released guide's own fill.sh prints them over the translation 7e4b602f07c352a8… (all of the seat's roots in one cut). By AI agents, Wed Nov 11 2026. No macro, syntax, notation, axiom, sorry.
-/
import Derived.Test.YtjnbbfhoegeppaaGreatDoorChecked
import GoSem.PinnedTables
import GoSem.Claim
import GoSem.ClaimJoined
import GoSem.ClaimMapViews
import Derived.JoinedTies
import Derived.KernelRfl
namespace Go.Proofs.YtjnbbfhoegeppaaGreatDoor
/- THE CELL 'sum', in the pinned program and in every row, IS THE sha256 OF THE DUMP (.gsa) THAT YtjnbbfhoegeppaaGreatDoorProg.lean LOADS. Nothing in Lean hashes anything: it is a label: what it is worth is what the hold of that sum in a sandbox is worth. -/
noncomputable def Tryz.pinned : Pinned := { name := "ytjnbbfhoegeppaagreatdoor", sum := "7e4b602f07c352a8378ebdb357dcf8fa8a8f73de200ea9ae92ad75e5f4b689ca", checked := Tryz.checked }
namespace Rows
def none {H : Type} : Left H := { results := [], args := [] }

/- WHAT THE LISTED PACKAGE-LEVEL VARIABLES READ AS WHEN THE CALL BEGINS. Each datum BY PROGRAM (the guide's laid-datum.mjs) off the statement by which the dump's own 'gosem.cut.vars' lays the variable. In a bare row this is a premise. The card (YtjnbbfhoegeppaaGreatDoorCards.lean) ties it to the program's text. -/
def laid_unicode_utf8_acceptRanges {H : Type} : DataW H := .agg [.agg [.lit (.int .u8 128), .lit (.int .u8 191)], .agg [.lit (.int .u8 160), .lit (.int .u8 191)], .agg [.lit (.int .u8 128), .lit (.int .u8 159)], .agg [.lit (.int .u8 144), .lit (.int .u8 191)], .agg [.lit (.int .u8 128), .lit (.int .u8 143)], .agg [.lit (.int .u8 0), .lit (.int .u8 0)], .agg [.lit (.int .u8 0), .lit (.int .u8 0)], .agg [.lit (.int .u8 0), .lit (.int .u8 0)], .agg [.lit (.int .u8 0), .lit (.int .u8 0)], .agg [.lit (.int .u8 0), .lit (.int .u8 0)], .agg [.lit (.int .u8 0), .lit (.int .u8 0)], .agg [.lit (.int .u8 0), .lit (.int .u8 0)], .agg [.lit (.int .u8 0), .lit (.int .u8 0)], .agg [.lit (.int .u8 0), .lit (.int .u8 0)], .agg [.lit (.int .u8 0), .lit (.int .u8 0)], .agg [.lit (.int .u8 0), .lit (.int .u8 0)]]
/-- One of Go's own tables, pinned by name: the form's constant. -/
def laid_unicode_utf8_first : DataW Unit := Go.Pinned.utf8First

/-- 'coveylaw12.KvPlays': WHATEVER THE INPUT: true; the input reads as it did. -/
def kvPlaysSpec : ChangeSpec := { name := "kvPlays", fn := fun _ => fun
  | [d] => { results := [.lit (.bool true)], args := [d] }
  | _ => none }
def kvPlaysRow : OpenClaim := { program := "ytjnbbfhoegeppaagreatdoor", sum := "7e4b602f07c352a8378ebdb357dcf8fa8a8f73de200ea9ae92ad75e5f4b689ca", func := "covey/coveylaw12.KvPlays", spec := "kvPlays", inPlace := ["internal/reflectlite.TypeOf", "internal/bytealg.IndexByteString", "internal/bytealg.IndexString"], unfollowed := true, recurses := true, named := ["unicode/utf8.first", "unicode/utf8.acceptRanges", "internal/bytealg.MaxLen"], apart := false, laid := [("unicode/utf8.acceptRanges", laid_unicode_utf8_acceptRanges), ("unicode/utf8.first", laid_unicode_utf8_first)] }
def KvPlaysSaid : Prop := kvPlaysRow.holds Tryz.pinned (OpenSpec.ofChange kvPlaysSpec)

/-- ITS FALSE NEIGHBOUR: 'it returns false'. Refute it at one input. -/
def kvPlaysWrong : ChangeSpec := { name := "kvPlays", fn := fun _ => fun
  | [d] => { results := [.lit (.bool false)], args := [d] }
  | _ => none }
def KvPlaysWrongFalsely : Prop := kvPlaysRow.holds Tryz.pinned (OpenSpec.ofChange kvPlaysWrong)

/-- 'coveylaw12.KvOpens': WHATEVER THE INPUT: true; the input reads as it did. -/
def kvOpensSpec : ChangeSpec := { name := "kvOpens", fn := fun _ => fun
  | [d1, d2, d3] => { results := [.lit (.bool true)], args := [d1, d2, d3] }
  | _ => none }
def kvOpensRow : OpenClaim := { program := "ytjnbbfhoegeppaagreatdoor", sum := "7e4b602f07c352a8378ebdb357dcf8fa8a8f73de200ea9ae92ad75e5f4b689ca", func := "covey/coveylaw12.KvOpens", spec := "kvOpens", inPlace := ["internal/reflectlite.TypeOf", "internal/bytealg.IndexByteString", "internal/bytealg.IndexString"], unfollowed := true, recurses := true, named := ["unicode/utf8.first", "unicode/utf8.acceptRanges", "internal/bytealg.MaxLen"], apart := false, laid := [("unicode/utf8.acceptRanges", laid_unicode_utf8_acceptRanges), ("unicode/utf8.first", laid_unicode_utf8_first)] }
def KvOpensSaid : Prop := kvOpensRow.holds Tryz.pinned (OpenSpec.ofChange kvOpensSpec)

/-- ITS FALSE NEIGHBOUR: 'it returns false'. Refute it at one input. -/
def kvOpensWrong : ChangeSpec := { name := "kvOpens", fn := fun _ => fun
  | [d1, d2, d3] => { results := [.lit (.bool false)], args := [d1, d2, d3] }
  | _ => none }
def KvOpensWrongFalsely : Prop := kvOpensRow.holds Tryz.pinned (OpenSpec.ofChange kvOpensWrong)

/-- 'coveylaw12.KvFull': WHATEVER THE INPUT: true; the input reads as it did. -/
def kvFullSpec : ChangeSpec := { name := "kvFull", fn := fun _ => fun
  | [d1, d2] => { results := [.lit (.bool true)], args := [d1, d2] }
  | _ => none }
def kvFullRow : OpenClaim := { program := "ytjnbbfhoegeppaagreatdoor", sum := "7e4b602f07c352a8378ebdb357dcf8fa8a8f73de200ea9ae92ad75e5f4b689ca", func := "covey/coveylaw12.KvFull", spec := "kvFull", inPlace := ["internal/reflectlite.TypeOf", "internal/bytealg.IndexByteString", "internal/bytealg.IndexString"], unfollowed := true, recurses := true, named := ["unicode/utf8.first", "unicode/utf8.acceptRanges", "internal/bytealg.MaxLen"], apart := false, laid := [("unicode/utf8.acceptRanges", laid_unicode_utf8_acceptRanges), ("unicode/utf8.first", laid_unicode_utf8_first)] }
def KvFullSaid : Prop := kvFullRow.holds Tryz.pinned (OpenSpec.ofChange kvFullSpec)

/-- ITS FALSE NEIGHBOUR: 'it returns false'. Refute it at one input. -/
def kvFullWrong : ChangeSpec := { name := "kvFull", fn := fun _ => fun
  | [d1, d2] => { results := [.lit (.bool false)], args := [d1, d2] }
  | _ => none }
def KvFullWrongFalsely : Prop := kvFullRow.holds Tryz.pinned (OpenSpec.ofChange kvFullWrong)

/-- 'coveylaw12.KvCuts': WHATEVER THE INPUT: true; the input reads as it did. -/
def kvCutsSpec : ChangeSpec := { name := "kvCuts", fn := fun _ => fun
  | [d1, d2] => { results := [.lit (.bool true)], args := [d1, d2] }
  | _ => none }
def kvCutsRow : OpenClaim := { program := "ytjnbbfhoegeppaagreatdoor", sum := "7e4b602f07c352a8378ebdb357dcf8fa8a8f73de200ea9ae92ad75e5f4b689ca", func := "covey/coveylaw12.KvCuts", spec := "kvCuts", inPlace := ["internal/reflectlite.TypeOf", "internal/bytealg.IndexByteString", "internal/bytealg.IndexString"], unfollowed := true, recurses := true, named := ["unicode/utf8.first", "unicode/utf8.acceptRanges", "internal/bytealg.MaxLen"], apart := false, laid := [("unicode/utf8.acceptRanges", laid_unicode_utf8_acceptRanges), ("unicode/utf8.first", laid_unicode_utf8_first)] }
def KvCutsSaid : Prop := kvCutsRow.holds Tryz.pinned (OpenSpec.ofChange kvCutsSpec)

/-- ITS FALSE NEIGHBOUR: 'it returns false'. Refute it at one input. -/
def kvCutsWrong : ChangeSpec := { name := "kvCuts", fn := fun _ => fun
  | [d1, d2] => { results := [.lit (.bool false)], args := [d1, d2] }
  | _ => none }
def KvCutsWrongFalsely : Prop := kvCutsRow.holds Tryz.pinned (OpenSpec.ofChange kvCutsWrong)

/- THE SECOND FORM. 'bulk': how many values and letters a reading holds, each counted each time it is reached (what is shared counts as often as it is met; a slice's spare places count too). A statement '..UptoSaid' is the law's where the arguments, and the package variables that the reading takes, are together of bulk at most 1048576: NARROWER than '..Said'. Prove '..Said' where nothing that the law and all that it calls make is longer than what came in: it says more and counts as full. Else prove '..UptoSaid'. A law counts once. -/
mutual
def uptoBulk {H : Type} : DataW H → Nat
  | .lit (.string bytes) => bytes.length + 1
  | .lit _ => 1
  | .nil => 1
  | .ptr d => uptoBulk d + 1
  | .slice elems spare => uptoBulkAll elems + uptoBulkAll spare + 1
  | .agg parts => uptoBulkAll parts + 1
  | .iface _ d => uptoBulk d + 1
  | .map entries => uptoBulkEntries entries + 1
  | .held _ => 1
def uptoBulkAll {H : Type} : List (DataW H) → Nat
  | [] => 0
  | d :: r => uptoBulk d + uptoBulkAll r
def uptoBulkEntries {H : Type} : List (Lit × DataW H) → Nat
  | [] => 0
  | x :: r => uptoBulkEntry x + uptoBulkEntries r
def uptoBulkEntry {H : Type} : Lit × DataW H → Nat
  | (.string bytes, d) => bytes.length + uptoBulk d + 1
  | (_, d) => uptoBulk d + 1
 end
def uptoSmall : (H : Type) → List (DataW H) → Bool := fun _ ds => decide (uptoBulkAll ds ≤ 1048576)
def OpenSpec.upto (s : _root_.Go.ChangeSpec) : _root_.Go.OpenSpec := { _root_.Go.OpenSpec.ofChange s with cond := some uptoSmall }

/-- 'coveylaw12.KvPlays', WHERE WHAT IT READS IS OF BULK AT MOST 1048576: true; the input reads as it did. -/
def kvPlaysUptoRow : OpenClaim := { program := "ytjnbbfhoegeppaagreatdoor", sum := "7e4b602f07c352a8378ebdb357dcf8fa8a8f73de200ea9ae92ad75e5f4b689ca", func := "covey/coveylaw12.KvPlays", spec := "kvPlays", inPlace := ["internal/reflectlite.TypeOf", "internal/bytealg.IndexByteString", "internal/bytealg.IndexString"], unfollowed := true, recurses := true, named := ["unicode/utf8.first", "unicode/utf8.acceptRanges", "internal/bytealg.MaxLen"], apart := false, laid := [("unicode/utf8.acceptRanges", laid_unicode_utf8_acceptRanges), ("unicode/utf8.first", laid_unicode_utf8_first)], narrowed := true }
def KvPlaysUptoSaid : Prop := kvPlaysUptoRow.holds Tryz.pinned (OpenSpec.upto kvPlaysSpec)

/-- 'coveylaw12.KvOpens', WHERE WHAT IT READS IS OF BULK AT MOST 1048576: true; the input reads as it did. -/
def kvOpensUptoRow : OpenClaim := { program := "ytjnbbfhoegeppaagreatdoor", sum := "7e4b602f07c352a8378ebdb357dcf8fa8a8f73de200ea9ae92ad75e5f4b689ca", func := "covey/coveylaw12.KvOpens", spec := "kvOpens", inPlace := ["internal/reflectlite.TypeOf", "internal/bytealg.IndexByteString", "internal/bytealg.IndexString"], unfollowed := true, recurses := true, named := ["unicode/utf8.first", "unicode/utf8.acceptRanges", "internal/bytealg.MaxLen"], apart := false, laid := [("unicode/utf8.acceptRanges", laid_unicode_utf8_acceptRanges), ("unicode/utf8.first", laid_unicode_utf8_first)], narrowed := true }
def KvOpensUptoSaid : Prop := kvOpensUptoRow.holds Tryz.pinned (OpenSpec.upto kvOpensSpec)

/-- 'coveylaw12.KvFull', WHERE WHAT IT READS IS OF BULK AT MOST 1048576: true; the input reads as it did. -/
def kvFullUptoRow : OpenClaim := { program := "ytjnbbfhoegeppaagreatdoor", sum := "7e4b602f07c352a8378ebdb357dcf8fa8a8f73de200ea9ae92ad75e5f4b689ca", func := "covey/coveylaw12.KvFull", spec := "kvFull", inPlace := ["internal/reflectlite.TypeOf", "internal/bytealg.IndexByteString", "internal/bytealg.IndexString"], unfollowed := true, recurses := true, named := ["unicode/utf8.first", "unicode/utf8.acceptRanges", "internal/bytealg.MaxLen"], apart := false, laid := [("unicode/utf8.acceptRanges", laid_unicode_utf8_acceptRanges), ("unicode/utf8.first", laid_unicode_utf8_first)], narrowed := true }
def KvFullUptoSaid : Prop := kvFullUptoRow.holds Tryz.pinned (OpenSpec.upto kvFullSpec)

/-- 'coveylaw12.KvCuts', WHERE WHAT IT READS IS OF BULK AT MOST 1048576: true; the input reads as it did. -/
def kvCutsUptoRow : OpenClaim := { program := "ytjnbbfhoegeppaagreatdoor", sum := "7e4b602f07c352a8378ebdb357dcf8fa8a8f73de200ea9ae92ad75e5f4b689ca", func := "covey/coveylaw12.KvCuts", spec := "kvCuts", inPlace := ["internal/reflectlite.TypeOf", "internal/bytealg.IndexByteString", "internal/bytealg.IndexString"], unfollowed := true, recurses := true, named := ["unicode/utf8.first", "unicode/utf8.acceptRanges", "internal/bytealg.MaxLen"], apart := false, laid := [("unicode/utf8.acceptRanges", laid_unicode_utf8_acceptRanges), ("unicode/utf8.first", laid_unicode_utf8_first)], narrowed := true }
def KvCutsUptoSaid : Prop := kvCutsUptoRow.holds Tryz.pinned (OpenSpec.upto kvCutsSpec)

end Rows
end Go.Proofs.YtjnbbfhoegeppaaGreatDoor
