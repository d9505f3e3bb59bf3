/-
  NARROWER THAN 'FOR EVERY INPUT', by the rows' own cells (each row's printed sentence says how): RecordGets: laid · RecordOrder: laid · RecordPuts: laid · RecordBack: laid · RecordKeeps: laid · LabelLists: laid · LabelBack: laid · LabelOrder: laid · LabelFinds: laid.
  DERIVED. THE GIVEN ROWS OF THIS SEAT. 9 by the template 'for every input the law returns true; each argument reads behind the call as it read before'; 0 by the template 'total and deterministic' (their statements: YtkgnhimepcihpaaDoorTotals.lean).
  GIVEN WITH THE SEED: the statements are not yours to turn. If you find one false, say at which input.
  Laid BY PROGRAM, IN A SANDBOX (cutbox-rows.mjs): the forced cells as the released guide's own fill.sh prints them over the translation c8ff902579bfe40d… (all of the seat's roots in one cut). By AI agents, Wed Nov 11 2026. No macro, syntax, notation, axiom, sorry.
-/
import Derived.Test.YtkgnhimepcihpaaDoorChecked
import GoSem.PinnedTables
import GoSem.Claim
import GoSem.ClaimJoined
import GoSem.ClaimMapViews
import Derived.JoinedTies
import Derived.KernelRfl
namespace Go.Proofs.YtkgnhimepcihpaaDoor
/- THE CELL 'sum', in the pinned program and in every row, IS THE sha256 OF THE DUMP (.gsa) THAT YtkgnhimepcihpaaDoorProg.lean LOADS. Nothing in Lean hashes anything: it is a label: what it is worth is what the hold of that sum in a sandbox is worth. -/
noncomputable def Tryd.pinned : Pinned := { name := "ytkgnhimepcihpaadoor", sum := "c8ff902579bfe40d6d6799b57f62102839137e48e8635249ad8185662f55b5c2", checked := Tryd.checked }
namespace Rows
def none {H : Type} : Left H := { results := [], args := [] }

/- WHAT THE LISTED PACKAGE-LEVEL VARIABLES READ AS WHEN THE CALL BEGINS. Each datum BY PROGRAM (the guide's laid-datum.mjs) off the statement by which the dump's own 'gosem.cut.vars' lays the variable. In a bare row this is a premise. The card (YtkgnhimepcihpaaDoorCards.lean) ties it to the program's text. -/
def laid_unicode_utf8_acceptRanges {H : Type} : DataW H := .agg [.agg [.lit (.int .u8 128), .lit (.int .u8 191)], .agg [.lit (.int .u8 160), .lit (.int .u8 191)], .agg [.lit (.int .u8 128), .lit (.int .u8 159)], .agg [.lit (.int .u8 144), .lit (.int .u8 191)], .agg [.lit (.int .u8 128), .lit (.int .u8 143)], .agg [.lit (.int .u8 0), .lit (.int .u8 0)], .agg [.lit (.int .u8 0), .lit (.int .u8 0)], .agg [.lit (.int .u8 0), .lit (.int .u8 0)], .agg [.lit (.int .u8 0), .lit (.int .u8 0)], .agg [.lit (.int .u8 0), .lit (.int .u8 0)], .agg [.lit (.int .u8 0), .lit (.int .u8 0)], .agg [.lit (.int .u8 0), .lit (.int .u8 0)], .agg [.lit (.int .u8 0), .lit (.int .u8 0)], .agg [.lit (.int .u8 0), .lit (.int .u8 0)], .agg [.lit (.int .u8 0), .lit (.int .u8 0)], .agg [.lit (.int .u8 0), .lit (.int .u8 0)]]
/-- One of Go's own tables, pinned by name: the form's constant. -/
def laid_unicode_utf8_first : DataW Unit := Go.Pinned.utf8First

/-- 'garnerlaw09.RecordGets': WHATEVER THE INPUT: true; the input reads as it did. -/
def recordGetsSpec : ChangeSpec := { name := "recordGets", fn := fun _ => fun
  | [d1, d2] => { results := [.lit (.bool true)], args := [d1, d2] }
  | _ => none }
def recordGetsRow : OpenClaim := { program := "ytkgnhimepcihpaadoor", sum := "c8ff902579bfe40d6d6799b57f62102839137e48e8635249ad8185662f55b5c2", func := "garner/garnerlaw09.RecordGets", spec := "recordGets", unfollowed := true, recurses := true, named := ["unicode/utf8.first", "unicode/utf8.acceptRanges"], apart := false, laid := [("unicode/utf8.acceptRanges", laid_unicode_utf8_acceptRanges), ("unicode/utf8.first", laid_unicode_utf8_first)] }
def RecordGetsSaid : Prop := recordGetsRow.holds Tryd.pinned (OpenSpec.ofChange recordGetsSpec)

/-- ITS FALSE NEIGHBOUR: 'it returns false'. Refute it at one input. -/
def recordGetsWrong : ChangeSpec := { name := "recordGets", fn := fun _ => fun
  | [d1, d2] => { results := [.lit (.bool false)], args := [d1, d2] }
  | _ => none }
def RecordGetsWrongFalsely : Prop := recordGetsRow.holds Tryd.pinned (OpenSpec.ofChange recordGetsWrong)

/-- 'garnerlaw09.RecordOrder': WHATEVER THE INPUT: true; the input reads as it did. -/
def recordOrderSpec : ChangeSpec := { name := "recordOrder", fn := fun _ => fun
  | [d1, d2, d3] => { results := [.lit (.bool true)], args := [d1, d2, d3] }
  | _ => none }
def recordOrderRow : OpenClaim := { program := "ytkgnhimepcihpaadoor", sum := "c8ff902579bfe40d6d6799b57f62102839137e48e8635249ad8185662f55b5c2", func := "garner/garnerlaw09.RecordOrder", spec := "recordOrder", unfollowed := true, recurses := true, named := ["unicode/utf8.first", "unicode/utf8.acceptRanges"], apart := false, laid := [("unicode/utf8.acceptRanges", laid_unicode_utf8_acceptRanges), ("unicode/utf8.first", laid_unicode_utf8_first)] }
def RecordOrderSaid : Prop := recordOrderRow.holds Tryd.pinned (OpenSpec.ofChange recordOrderSpec)

/-- ITS FALSE NEIGHBOUR: 'it returns false'. Refute it at one input. -/
def recordOrderWrong : ChangeSpec := { name := "recordOrder", fn := fun _ => fun
  | [d1, d2, d3] => { results := [.lit (.bool false)], args := [d1, d2, d3] }
  | _ => none }
def RecordOrderWrongFalsely : Prop := recordOrderRow.holds Tryd.pinned (OpenSpec.ofChange recordOrderWrong)

/-- 'garnerlaw09.RecordPuts': WHATEVER THE INPUT: true; the input reads as it did. -/
def recordPutsSpec : ChangeSpec := { name := "recordPuts", fn := fun _ => fun
  | [d] => { results := [.lit (.bool true)], args := [d] }
  | _ => none }
def recordPutsRow : OpenClaim := { program := "ytkgnhimepcihpaadoor", sum := "c8ff902579bfe40d6d6799b57f62102839137e48e8635249ad8185662f55b5c2", func := "garner/garnerlaw09.RecordPuts", spec := "recordPuts", unfollowed := true, recurses := true, named := ["unicode/utf8.first", "unicode/utf8.acceptRanges"], apart := false, laid := [("unicode/utf8.acceptRanges", laid_unicode_utf8_acceptRanges), ("unicode/utf8.first", laid_unicode_utf8_first)] }
def RecordPutsSaid : Prop := recordPutsRow.holds Tryd.pinned (OpenSpec.ofChange recordPutsSpec)

/-- ITS FALSE NEIGHBOUR: 'it returns false'. Refute it at one input. -/
def recordPutsWrong : ChangeSpec := { name := "recordPuts", fn := fun _ => fun
  | [d] => { results := [.lit (.bool false)], args := [d] }
  | _ => none }
def RecordPutsWrongFalsely : Prop := recordPutsRow.holds Tryd.pinned (OpenSpec.ofChange recordPutsWrong)

/-- 'garnerlaw09.RecordBack': WHATEVER THE INPUT: true; the input reads as it did. -/
def recordBackSpec : ChangeSpec := { name := "recordBack", fn := fun _ => fun
  | [d1, d2] => { results := [.lit (.bool true)], args := [d1, d2] }
  | _ => none }
def recordBackRow : OpenClaim := { program := "ytkgnhimepcihpaadoor", sum := "c8ff902579bfe40d6d6799b57f62102839137e48e8635249ad8185662f55b5c2", func := "garner/garnerlaw09.RecordBack", spec := "recordBack", unfollowed := true, recurses := true, named := ["unicode/utf8.first", "unicode/utf8.acceptRanges"], apart := false, laid := [("unicode/utf8.acceptRanges", laid_unicode_utf8_acceptRanges), ("unicode/utf8.first", laid_unicode_utf8_first)] }
def RecordBackSaid : Prop := recordBackRow.holds Tryd.pinned (OpenSpec.ofChange recordBackSpec)

/-- ITS FALSE NEIGHBOUR: 'it returns false'. Refute it at one input. -/
def recordBackWrong : ChangeSpec := { name := "recordBack", fn := fun _ => fun
  | [d1, d2] => { results := [.lit (.bool false)], args := [d1, d2] }
  | _ => none }
def RecordBackWrongFalsely : Prop := recordBackRow.holds Tryd.pinned (OpenSpec.ofChange recordBackWrong)

/-- 'garnerlaw09.RecordKeeps': WHATEVER THE INPUT: true; the input reads as it did. -/
def recordKeepsSpec : ChangeSpec := { name := "recordKeeps", fn := fun _ => fun
  | [d] => { results := [.lit (.bool true)], args := [d] }
  | _ => none }
def recordKeepsRow : OpenClaim := { program := "ytkgnhimepcihpaadoor", sum := "c8ff902579bfe40d6d6799b57f62102839137e48e8635249ad8185662f55b5c2", func := "garner/garnerlaw09.RecordKeeps", spec := "recordKeeps", unfollowed := true, recurses := true, named := ["unicode/utf8.first", "unicode/utf8.acceptRanges"], apart := false, laid := [("unicode/utf8.acceptRanges", laid_unicode_utf8_acceptRanges), ("unicode/utf8.first", laid_unicode_utf8_first)] }
def RecordKeepsSaid : Prop := recordKeepsRow.holds Tryd.pinned (OpenSpec.ofChange recordKeepsSpec)

/-- ITS FALSE NEIGHBOUR: 'it returns false'. Refute it at one input. -/
def recordKeepsWrong : ChangeSpec := { name := "recordKeeps", fn := fun _ => fun
  | [d] => { results := [.lit (.bool false)], args := [d] }
  | _ => none }
def RecordKeepsWrongFalsely : Prop := recordKeepsRow.holds Tryd.pinned (OpenSpec.ofChange recordKeepsWrong)

/-- 'garnerlaw08.LabelLists': WHATEVER THE INPUT: true; the input reads as it did. -/
def labelListsSpec : ChangeSpec := { name := "labelLists", fn := fun _ => fun
  | [d1, d2, d3] => { results := [.lit (.bool true)], args := [d1, d2, d3] }
  | _ => none }
def labelListsRow : OpenClaim := { program := "ytkgnhimepcihpaadoor", sum := "c8ff902579bfe40d6d6799b57f62102839137e48e8635249ad8185662f55b5c2", func := "garner/garnerlaw08.LabelLists", spec := "labelLists", inPlace := ["internal/bytealg.IndexByteString", "internal/bytealg.IndexString", "internal/abi.NoEscape"], unfollowed := true, recurses := true, named := ["unicode/utf8.first", "unicode/utf8.acceptRanges", "internal/bytealg.MaxLen"], apart := false, laid := [("unicode/utf8.acceptRanges", laid_unicode_utf8_acceptRanges), ("unicode/utf8.first", laid_unicode_utf8_first)] }
def LabelListsSaid : Prop := labelListsRow.holds Tryd.pinned (OpenSpec.ofChange labelListsSpec)

/-- ITS FALSE NEIGHBOUR: 'it returns false'. Refute it at one input. -/
def labelListsWrong : ChangeSpec := { name := "labelLists", fn := fun _ => fun
  | [d1, d2, d3] => { results := [.lit (.bool false)], args := [d1, d2, d3] }
  | _ => none }
def LabelListsWrongFalsely : Prop := labelListsRow.holds Tryd.pinned (OpenSpec.ofChange labelListsWrong)

/-- 'garnerlaw08.LabelBack': WHATEVER THE INPUT: true; the input reads as it did. -/
def labelBackSpec : ChangeSpec := { name := "labelBack", fn := fun _ => fun
  | [d1, d2, d3] => { results := [.lit (.bool true)], args := [d1, d2, d3] }
  | _ => none }
def labelBackRow : OpenClaim := { program := "ytkgnhimepcihpaadoor", sum := "c8ff902579bfe40d6d6799b57f62102839137e48e8635249ad8185662f55b5c2", func := "garner/garnerlaw08.LabelBack", spec := "labelBack", inPlace := ["internal/bytealg.IndexByteString", "internal/bytealg.IndexString", "internal/abi.NoEscape"], unfollowed := true, recurses := true, named := ["unicode/utf8.first", "unicode/utf8.acceptRanges", "internal/bytealg.MaxLen"], apart := false, laid := [("unicode/utf8.acceptRanges", laid_unicode_utf8_acceptRanges), ("unicode/utf8.first", laid_unicode_utf8_first)] }
def LabelBackSaid : Prop := labelBackRow.holds Tryd.pinned (OpenSpec.ofChange labelBackSpec)

/-- ITS FALSE NEIGHBOUR: 'it returns false'. Refute it at one input. -/
def labelBackWrong : ChangeSpec := { name := "labelBack", fn := fun _ => fun
  | [d1, d2, d3] => { results := [.lit (.bool false)], args := [d1, d2, d3] }
  | _ => none }
def LabelBackWrongFalsely : Prop := labelBackRow.holds Tryd.pinned (OpenSpec.ofChange labelBackWrong)

/-- 'garnerlaw08.LabelOrder': WHATEVER THE INPUT: true; the input reads as it did. -/
def labelOrderSpec : ChangeSpec := { name := "labelOrder", fn := fun _ => fun
  | [d1, d2, d3] => { results := [.lit (.bool true)], args := [d1, d2, d3] }
  | _ => none }
def labelOrderRow : OpenClaim := { program := "ytkgnhimepcihpaadoor", sum := "c8ff902579bfe40d6d6799b57f62102839137e48e8635249ad8185662f55b5c2", func := "garner/garnerlaw08.LabelOrder", spec := "labelOrder", inPlace := ["internal/bytealg.IndexByteString", "internal/bytealg.IndexString", "internal/abi.NoEscape"], unfollowed := true, recurses := true, named := ["unicode/utf8.first", "unicode/utf8.acceptRanges", "internal/bytealg.MaxLen"], apart := false, laid := [("unicode/utf8.acceptRanges", laid_unicode_utf8_acceptRanges), ("unicode/utf8.first", laid_unicode_utf8_first)] }
def LabelOrderSaid : Prop := labelOrderRow.holds Tryd.pinned (OpenSpec.ofChange labelOrderSpec)

/-- ITS FALSE NEIGHBOUR: 'it returns false'. Refute it at one input. -/
def labelOrderWrong : ChangeSpec := { name := "labelOrder", fn := fun _ => fun
  | [d1, d2, d3] => { results := [.lit (.bool false)], args := [d1, d2, d3] }
  | _ => none }
def LabelOrderWrongFalsely : Prop := labelOrderRow.holds Tryd.pinned (OpenSpec.ofChange labelOrderWrong)

/-- 'garnerlaw08.LabelFinds': WHATEVER THE INPUT: true; the input reads as it did. -/
def labelFindsSpec : ChangeSpec := { name := "labelFinds", fn := fun _ => fun
  | [d1, d2] => { results := [.lit (.bool true)], args := [d1, d2] }
  | _ => none }
def labelFindsRow : OpenClaim := { program := "ytkgnhimepcihpaadoor", sum := "c8ff902579bfe40d6d6799b57f62102839137e48e8635249ad8185662f55b5c2", func := "garner/garnerlaw08.LabelFinds", spec := "labelFinds", inPlace := ["internal/bytealg.IndexByteString", "internal/bytealg.IndexString", "internal/abi.NoEscape"], unfollowed := true, recurses := true, named := ["unicode/utf8.first", "unicode/utf8.acceptRanges", "internal/bytealg.MaxLen"], apart := false, laid := [("unicode/utf8.acceptRanges", laid_unicode_utf8_acceptRanges), ("unicode/utf8.first", laid_unicode_utf8_first)] }
def LabelFindsSaid : Prop := labelFindsRow.holds Tryd.pinned (OpenSpec.ofChange labelFindsSpec)

/-- ITS FALSE NEIGHBOUR: 'it returns false'. Refute it at one input. -/
def labelFindsWrong : ChangeSpec := { name := "labelFinds", fn := fun _ => fun
  | [d1, d2] => { results := [.lit (.bool false)], args := [d1, d2] }
  | _ => none }
def LabelFindsWrongFalsely : Prop := labelFindsRow.holds Tryd.pinned (OpenSpec.ofChange labelFindsWrong)

/- THE SECOND FORM. 'bulk': how many values and letters a reading holds, each counted each time it is reached (what is shared counts as often as it is met; a slice's spare places count too). A statement '..UptoSaid' is the law's where the arguments, and the package variables that the reading takes, are together of bulk at most 1048576: NARROWER than '..Said'. Prove '..Said' where nothing that the law and all that it calls make is longer than what came in: it says more and counts as full. Else prove '..UptoSaid'. A law counts once. -/
mutual
def uptoBulk {H : Type} : DataW H → Nat
  | .lit (.string bytes) => bytes.length + 1
  | .lit _ => 1
  | .nil => 1
  | .ptr d => uptoBulk d + 1
  | .slice elems spare => uptoBulkAll elems + uptoBulkAll spare + 1
  | .agg parts => uptoBulkAll parts + 1
  | .iface _ d => uptoBulk d + 1
  | .map entries => uptoBulkEntries entries + 1
  | .held _ => 1
def uptoBulkAll {H : Type} : List (DataW H) → Nat
  | [] => 0
  | d :: r => uptoBulk d + uptoBulkAll r
def uptoBulkEntries {H : Type} : List (Lit × DataW H) → Nat
  | [] => 0
  | x :: r => uptoBulkEntry x + uptoBulkEntries r
def uptoBulkEntry {H : Type} : Lit × DataW H → Nat
  | (.string bytes, d) => bytes.length + uptoBulk d + 1
  | (_, d) => uptoBulk d + 1
 end
def uptoSmall : (H : Type) → List (DataW H) → Bool := fun _ ds => decide (uptoBulkAll ds ≤ 1048576)
def OpenSpec.upto (s : _root_.Go.ChangeSpec) : _root_.Go.OpenSpec := { _root_.Go.OpenSpec.ofChange s with cond := some uptoSmall }

/-- 'garnerlaw09.RecordGets', WHERE WHAT IT READS IS OF BULK AT MOST 1048576: true; the input reads as it did. -/
def recordGetsUptoRow : OpenClaim := { program := "ytkgnhimepcihpaadoor", sum := "c8ff902579bfe40d6d6799b57f62102839137e48e8635249ad8185662f55b5c2", func := "garner/garnerlaw09.RecordGets", spec := "recordGets", unfollowed := true, recurses := true, named := ["unicode/utf8.first", "unicode/utf8.acceptRanges"], apart := false, laid := [("unicode/utf8.acceptRanges", laid_unicode_utf8_acceptRanges), ("unicode/utf8.first", laid_unicode_utf8_first)], narrowed := true }
def RecordGetsUptoSaid : Prop := recordGetsUptoRow.holds Tryd.pinned (OpenSpec.upto recordGetsSpec)

/-- 'garnerlaw09.RecordOrder', WHERE WHAT IT READS IS OF BULK AT MOST 1048576: true; the input reads as it did. -/
def recordOrderUptoRow : OpenClaim := { program := "ytkgnhimepcihpaadoor", sum := "c8ff902579bfe40d6d6799b57f62102839137e48e8635249ad8185662f55b5c2", func := "garner/garnerlaw09.RecordOrder", spec := "recordOrder", unfollowed := true, recurses := true, named := ["unicode/utf8.first", "unicode/utf8.acceptRanges"], apart := false, laid := [("unicode/utf8.acceptRanges", laid_unicode_utf8_acceptRanges), ("unicode/utf8.first", laid_unicode_utf8_first)], narrowed := true }
def RecordOrderUptoSaid : Prop := recordOrderUptoRow.holds Tryd.pinned (OpenSpec.upto recordOrderSpec)

/-- 'garnerlaw09.RecordPuts', WHERE WHAT IT READS IS OF BULK AT MOST 1048576: true; the input reads as it did. -/
def recordPutsUptoRow : OpenClaim := { program := "ytkgnhimepcihpaadoor", sum := "c8ff902579bfe40d6d6799b57f62102839137e48e8635249ad8185662f55b5c2", func := "garner/garnerlaw09.RecordPuts", spec := "recordPuts", unfollowed := true, recurses := true, named := ["unicode/utf8.first", "unicode/utf8.acceptRanges"], apart := false, laid := [("unicode/utf8.acceptRanges", laid_unicode_utf8_acceptRanges), ("unicode/utf8.first", laid_unicode_utf8_first)], narrowed := true }
def RecordPutsUptoSaid : Prop := recordPutsUptoRow.holds Tryd.pinned (OpenSpec.upto recordPutsSpec)

/-- 'garnerlaw09.RecordBack', WHERE WHAT IT READS IS OF BULK AT MOST 1048576: true; the input reads as it did. -/
def recordBackUptoRow : OpenClaim := { program := "ytkgnhimepcihpaadoor", sum := "c8ff902579bfe40d6d6799b57f62102839137e48e8635249ad8185662f55b5c2", func := "garner/garnerlaw09.RecordBack", spec := "recordBack", unfollowed := true, recurses := true, named := ["unicode/utf8.first", "unicode/utf8.acceptRanges"], apart := false, laid := [("unicode/utf8.acceptRanges", laid_unicode_utf8_acceptRanges), ("unicode/utf8.first", laid_unicode_utf8_first)], narrowed := true }
def RecordBackUptoSaid : Prop := recordBackUptoRow.holds Tryd.pinned (OpenSpec.upto recordBackSpec)

/-- 'garnerlaw09.RecordKeeps', WHERE WHAT IT READS IS OF BULK AT MOST 1048576: true; the input reads as it did. -/
def recordKeepsUptoRow : OpenClaim := { program := "ytkgnhimepcihpaadoor", sum := "c8ff902579bfe40d6d6799b57f62102839137e48e8635249ad8185662f55b5c2", func := "garner/garnerlaw09.RecordKeeps", spec := "recordKeeps", unfollowed := true, recurses := true, named := ["unicode/utf8.first", "unicode/utf8.acceptRanges"], apart := false, laid := [("unicode/utf8.acceptRanges", laid_unicode_utf8_acceptRanges), ("unicode/utf8.first", laid_unicode_utf8_first)], narrowed := true }
def RecordKeepsUptoSaid : Prop := recordKeepsUptoRow.holds Tryd.pinned (OpenSpec.upto recordKeepsSpec)

/-- 'garnerlaw08.LabelLists', WHERE WHAT IT READS IS OF BULK AT MOST 1048576: true; the input reads as it did. -/
def labelListsUptoRow : OpenClaim := { program := "ytkgnhimepcihpaadoor", sum := "c8ff902579bfe40d6d6799b57f62102839137e48e8635249ad8185662f55b5c2", func := "garner/garnerlaw08.LabelLists", spec := "labelLists", inPlace := ["internal/bytealg.IndexByteString", "internal/bytealg.IndexString", "internal/abi.NoEscape"], unfollowed := true, recurses := true, named := ["unicode/utf8.first", "unicode/utf8.acceptRanges", "internal/bytealg.MaxLen"], apart := false, laid := [("unicode/utf8.acceptRanges", laid_unicode_utf8_acceptRanges), ("unicode/utf8.first", laid_unicode_utf8_first)], narrowed := true }
def LabelListsUptoSaid : Prop := labelListsUptoRow.holds Tryd.pinned (OpenSpec.upto labelListsSpec)

/-- 'garnerlaw08.LabelBack', WHERE WHAT IT READS IS OF BULK AT MOST 1048576: true; the input reads as it did. -/
def labelBackUptoRow : OpenClaim := { program := "ytkgnhimepcihpaadoor", sum := "c8ff902579bfe40d6d6799b57f62102839137e48e8635249ad8185662f55b5c2", func := "garner/garnerlaw08.LabelBack", spec := "labelBack", inPlace := ["internal/bytealg.IndexByteString", "internal/bytealg.IndexString", "internal/abi.NoEscape"], unfollowed := true, recurses := true, named := ["unicode/utf8.first", "unicode/utf8.acceptRanges", "internal/bytealg.MaxLen"], apart := false, laid := [("unicode/utf8.acceptRanges", laid_unicode_utf8_acceptRanges), ("unicode/utf8.first", laid_unicode_utf8_first)], narrowed := true }
def LabelBackUptoSaid : Prop := labelBackUptoRow.holds Tryd.pinned (OpenSpec.upto labelBackSpec)

/-- 'garnerlaw08.LabelOrder', WHERE WHAT IT READS IS OF BULK AT MOST 1048576: true; the input reads as it did. -/
def labelOrderUptoRow : OpenClaim := { program := "ytkgnhimepcihpaadoor", sum := "c8ff902579bfe40d6d6799b57f62102839137e48e8635249ad8185662f55b5c2", func := "garner/garnerlaw08.LabelOrder", spec := "labelOrder", inPlace := ["internal/bytealg.IndexByteString", "internal/bytealg.IndexString", "internal/abi.NoEscape"], unfollowed := true, recurses := true, named := ["unicode/utf8.first", "unicode/utf8.acceptRanges", "internal/bytealg.MaxLen"], apart := false, laid := [("unicode/utf8.acceptRanges", laid_unicode_utf8_acceptRanges), ("unicode/utf8.first", laid_unicode_utf8_first)], narrowed := true }
def LabelOrderUptoSaid : Prop := labelOrderUptoRow.holds Tryd.pinned (OpenSpec.upto labelOrderSpec)

/-- 'garnerlaw08.LabelFinds', WHERE WHAT IT READS IS OF BULK AT MOST 1048576: true; the input reads as it did. -/
def labelFindsUptoRow : OpenClaim := { program := "ytkgnhimepcihpaadoor", sum := "c8ff902579bfe40d6d6799b57f62102839137e48e8635249ad8185662f55b5c2", func := "garner/garnerlaw08.LabelFinds", spec := "labelFinds", inPlace := ["internal/bytealg.IndexByteString", "internal/bytealg.IndexString", "internal/abi.NoEscape"], unfollowed := true, recurses := true, named := ["unicode/utf8.first", "unicode/utf8.acceptRanges", "internal/bytealg.MaxLen"], apart := false, laid := [("unicode/utf8.acceptRanges", laid_unicode_utf8_acceptRanges), ("unicode/utf8.first", laid_unicode_utf8_first)], narrowed := true }
def LabelFindsUptoSaid : Prop := labelFindsUptoRow.holds Tryd.pinned (OpenSpec.upto labelFindsSpec)

end Rows
end Go.Proofs.YtkgnhimepcihpaaDoor
