/-
  No cell of these rows narrows 'for every input' (looked for: loops, veiled, ifaces, maps, wideKeys, modest, calm, conditions, laid).
  DERIVED. THE GIVEN ROWS OF THIS SEAT. 15 by the template 'for every input the law returns true; each argument reads behind the call as it read before'; 0 by the template 'total and deterministic' (their statements: YtlinkpjneehnbaaTotals.lean).
  GIVEN WITH THE SEED: the statements are not yours to turn. If you find one false, say at which input.
  Laid BY PROGRAM, IN A SANDBOX (cutbox-rows.mjs): the forced cells as the released guide's own fill.sh prints them over the translation 13cdcf3afa57950d… (all of the seat's roots in one cut). By AI agents, Wed Nov 11 2026. No macro, syntax, notation, axiom, sorry.
-/
import Derived.Test.YtlinkpjneehnbaaChecked
import GoSem.Claim
import GoSem.ClaimJoined
import GoSem.ClaimMapViews
import Derived.JoinedTies
import Derived.KernelRfl
namespace Go.Proofs.Ytlinkpjneehnbaa
/- THE CELL 'sum', in the pinned program and in every row, IS THE sha256 OF THE DUMP (.gsa) THAT YtlinkpjneehnbaaProg.lean LOADS. Nothing in Lean hashes anything: it is a label: what it is worth is what the hold of that sum in a sandbox is worth. -/
noncomputable def Try.pinned : Pinned := { name := "ytlinkpjneehnbaa", sum := "13cdcf3afa57950d0a04a04591d8aea781dd2633ce931f4f70228c694dd07a61", checked := Try.checked }
namespace Rows
def none {H : Type} : Left H := { results := [], args := [] }

/-- 'hallmarklaw09.DiskFull': WHATEVER THE INPUT: true; the input reads as it did. -/
def diskFullSpec : ChangeSpec := { name := "diskFull", fn := fun _ => fun
  | [d1, d2] => { results := [.lit (.bool true)], args := [d1, d2] }
  | _ => none }
def diskFullRow : OpenClaim := { program := "ytlinkpjneehnbaa", sum := "13cdcf3afa57950d0a04a04591d8aea781dd2633ce931f4f70228c694dd07a61", func := "hallmark/hallmarklaw09.DiskFull", spec := "diskFull", inPlace := ["maps.clone"], apart := false }
def DiskFullSaid : Prop := diskFullRow.holds Try.pinned (OpenSpec.ofChange diskFullSpec)

/-- ITS FALSE NEIGHBOUR: 'it returns false'. Refute it at one input. -/
def diskFullWrong : ChangeSpec := { name := "diskFull", fn := fun _ => fun
  | [d1, d2] => { results := [.lit (.bool false)], args := [d1, d2] }
  | _ => none }
def DiskFullWrongFalsely : Prop := diskFullRow.holds Try.pinned (OpenSpec.ofChange diskFullWrong)

/-- 'hallmarklaw09.DiskLasts': WHATEVER THE INPUT: true; the input reads as it did. -/
def diskLastsSpec : ChangeSpec := { name := "diskLasts", fn := fun _ => fun
  | [d1, d2, d3, d4] => { results := [.lit (.bool true)], args := [d1, d2, d3, d4] }
  | _ => none }
def diskLastsRow : OpenClaim := { program := "ytlinkpjneehnbaa", sum := "13cdcf3afa57950d0a04a04591d8aea781dd2633ce931f4f70228c694dd07a61", func := "hallmark/hallmarklaw09.DiskLasts", spec := "diskLasts", inPlace := ["maps.clone"], apart := false }
def DiskLastsSaid : Prop := diskLastsRow.holds Try.pinned (OpenSpec.ofChange diskLastsSpec)

/-- ITS FALSE NEIGHBOUR: 'it returns false'. Refute it at one input. -/
def diskLastsWrong : ChangeSpec := { name := "diskLasts", fn := fun _ => fun
  | [d1, d2, d3, d4] => { results := [.lit (.bool false)], args := [d1, d2, d3, d4] }
  | _ => none }
def DiskLastsWrongFalsely : Prop := diskLastsRow.holds Try.pinned (OpenSpec.ofChange diskLastsWrong)

/-- 'hallmarklaw09.DiskMany': WHATEVER THE INPUT: true; the input reads as it did. -/
def diskManySpec : ChangeSpec := { name := "diskMany", fn := fun _ => fun
  | [] => { results := [.lit (.bool true)], args := [] }
  | _ => none }
def diskManyRow : OpenClaim := { program := "ytlinkpjneehnbaa", sum := "13cdcf3afa57950d0a04a04591d8aea781dd2633ce931f4f70228c694dd07a61", func := "hallmark/hallmarklaw09.DiskMany", spec := "diskMany", inPlace := ["maps.clone"], apart := false }
def DiskManySaid : Prop := diskManyRow.holds Try.pinned (OpenSpec.ofChange diskManySpec)

/-- ITS FALSE NEIGHBOUR: 'it returns false'. Refute it at one input. -/
def diskManyWrong : ChangeSpec := { name := "diskMany", fn := fun _ => fun
  | [] => { results := [.lit (.bool false)], args := [] }
  | _ => none }
def DiskManyWrongFalsely : Prop := diskManyRow.holds Try.pinned (OpenSpec.ofChange diskManyWrong)

/-- 'hallmarklaw10.JournalScans': WHATEVER THE INPUT: true; the input reads as it did. -/
def journalScansSpec : ChangeSpec := { name := "journalScans", fn := fun _ => fun
  | [d] => { results := [.lit (.bool true)], args := [d] }
  | _ => none }
def journalScansRow : OpenClaim := { program := "ytlinkpjneehnbaa", sum := "13cdcf3afa57950d0a04a04591d8aea781dd2633ce931f4f70228c694dd07a61", func := "hallmark/hallmarklaw10.JournalScans", spec := "journalScans", unfollowed := true, recurses := true, apart := false }
def JournalScansSaid : Prop := journalScansRow.holds Try.pinned (OpenSpec.ofChange journalScansSpec)

/-- ITS FALSE NEIGHBOUR: 'it returns false'. Refute it at one input. -/
def journalScansWrong : ChangeSpec := { name := "journalScans", fn := fun _ => fun
  | [d] => { results := [.lit (.bool false)], args := [d] }
  | _ => none }
def JournalScansWrongFalsely : Prop := journalScansRow.holds Try.pinned (OpenSpec.ofChange journalScansWrong)

/-- 'hallmarklaw10.JournalTurns': WHATEVER THE INPUT: true; the input reads as it did. -/
def journalTurnsSpec : ChangeSpec := { name := "journalTurns", fn := fun _ => fun
  | [d1, d2, d3] => { results := [.lit (.bool true)], args := [d1, d2, d3] }
  | _ => none }
def journalTurnsRow : OpenClaim := { program := "ytlinkpjneehnbaa", sum := "13cdcf3afa57950d0a04a04591d8aea781dd2633ce931f4f70228c694dd07a61", func := "hallmark/hallmarklaw10.JournalTurns", spec := "journalTurns", unfollowed := true, recurses := true, apart := false }
def JournalTurnsSaid : Prop := journalTurnsRow.holds Try.pinned (OpenSpec.ofChange journalTurnsSpec)

/-- ITS FALSE NEIGHBOUR: 'it returns false'. Refute it at one input. -/
def journalTurnsWrong : ChangeSpec := { name := "journalTurns", fn := fun _ => fun
  | [d1, d2, d3] => { results := [.lit (.bool false)], args := [d1, d2, d3] }
  | _ => none }
def JournalTurnsWrongFalsely : Prop := journalTurnsRow.holds Try.pinned (OpenSpec.ofChange journalTurnsWrong)

/-- 'hallmarklaw10.JournalNil': WHATEVER THE INPUT: true; the input reads as it did. -/
def journalNilSpec : ChangeSpec := { name := "journalNil", fn := fun _ => fun
  | [d] => { results := [.lit (.bool true)], args := [d] }
  | _ => none }
def journalNilRow : OpenClaim := { program := "ytlinkpjneehnbaa", sum := "13cdcf3afa57950d0a04a04591d8aea781dd2633ce931f4f70228c694dd07a61", func := "hallmark/hallmarklaw10.JournalNil", spec := "journalNil", unfollowed := true, recurses := true, apart := false }
def JournalNilSaid : Prop := journalNilRow.holds Try.pinned (OpenSpec.ofChange journalNilSpec)

/-- ITS FALSE NEIGHBOUR: 'it returns false'. Refute it at one input. -/
def journalNilWrong : ChangeSpec := { name := "journalNil", fn := fun _ => fun
  | [d] => { results := [.lit (.bool false)], args := [d] }
  | _ => none }
def JournalNilWrongFalsely : Prop := journalNilRow.holds Try.pinned (OpenSpec.ofChange journalNilWrong)

/-- 'hallmarklaw12.BlobOnce': WHATEVER THE INPUT: true; the input reads as it did. -/
def blobOnceSpec : ChangeSpec := { name := "blobOnce", fn := fun _ => fun
  | [d1, d2, d3] => { results := [.lit (.bool true)], args := [d1, d2, d3] }
  | _ => none }
def blobOnceRow : OpenClaim := { program := "ytlinkpjneehnbaa", sum := "13cdcf3afa57950d0a04a04591d8aea781dd2633ce931f4f70228c694dd07a61", func := "hallmark/hallmarklaw12.BlobOnce", spec := "blobOnce", unfollowed := true, recurses := true, apart := false }
def BlobOnceSaid : Prop := blobOnceRow.holds Try.pinned (OpenSpec.ofChange blobOnceSpec)

/-- ITS FALSE NEIGHBOUR: 'it returns false'. Refute it at one input. -/
def blobOnceWrong : ChangeSpec := { name := "blobOnce", fn := fun _ => fun
  | [d1, d2, d3] => { results := [.lit (.bool false)], args := [d1, d2, d3] }
  | _ => none }
def BlobOnceWrongFalsely : Prop := blobOnceRow.holds Try.pinned (OpenSpec.ofChange blobOnceWrong)

/-- 'hallmarklaw10.JournalLasts': WHATEVER THE INPUT: true; the input reads as it did. -/
def journalLastsSpec : ChangeSpec := { name := "journalLasts", fn := fun _ => fun
  | [d] => { results := [.lit (.bool true)], args := [d] }
  | _ => none }
def journalLastsRow : OpenClaim := { program := "ytlinkpjneehnbaa", sum := "13cdcf3afa57950d0a04a04591d8aea781dd2633ce931f4f70228c694dd07a61", func := "hallmark/hallmarklaw10.JournalLasts", spec := "journalLasts", inPlace := ["maps.clone"], unfollowed := true, recurses := true, apart := false }
def JournalLastsSaid : Prop := journalLastsRow.holds Try.pinned (OpenSpec.ofChange journalLastsSpec)

/-- ITS FALSE NEIGHBOUR: 'it returns false'. Refute it at one input. -/
def journalLastsWrong : ChangeSpec := { name := "journalLasts", fn := fun _ => fun
  | [d] => { results := [.lit (.bool false)], args := [d] }
  | _ => none }
def JournalLastsWrongFalsely : Prop := journalLastsRow.holds Try.pinned (OpenSpec.ofChange journalLastsWrong)

/-- 'hallmarklaw12.BlobAdopts': WHATEVER THE INPUT: true; the input reads as it did. -/
def blobAdoptsSpec : ChangeSpec := { name := "blobAdopts", fn := fun _ => fun
  | [d1, d2, d3] => { results := [.lit (.bool true)], args := [d1, d2, d3] }
  | _ => none }
def blobAdoptsRow : OpenClaim := { program := "ytlinkpjneehnbaa", sum := "13cdcf3afa57950d0a04a04591d8aea781dd2633ce931f4f70228c694dd07a61", func := "hallmark/hallmarklaw12.BlobAdopts", spec := "blobAdopts", unfollowed := true, recurses := true, apart := false }
def BlobAdoptsSaid : Prop := blobAdoptsRow.holds Try.pinned (OpenSpec.ofChange blobAdoptsSpec)

/-- ITS FALSE NEIGHBOUR: 'it returns false'. Refute it at one input. -/
def blobAdoptsWrong : ChangeSpec := { name := "blobAdopts", fn := fun _ => fun
  | [d1, d2, d3] => { results := [.lit (.bool false)], args := [d1, d2, d3] }
  | _ => none }
def BlobAdoptsWrongFalsely : Prop := blobAdoptsRow.holds Try.pinned (OpenSpec.ofChange blobAdoptsWrong)

/-- 'hallmarklaw09.DiskNames': WHATEVER THE INPUT: true; the input reads as it did. -/
def diskNamesSpec : ChangeSpec := { name := "diskNames", fn := fun _ => fun
  | [d1, d2] => { results := [.lit (.bool true)], args := [d1, d2] }
  | _ => none }
def diskNamesRow : OpenClaim := { program := "ytlinkpjneehnbaa", sum := "13cdcf3afa57950d0a04a04591d8aea781dd2633ce931f4f70228c694dd07a61", func := "hallmark/hallmarklaw09.DiskNames", spec := "diskNames", inPlace := ["maps.clone"], unfollowed := true, recurses := true, apart := false }
def DiskNamesSaid : Prop := diskNamesRow.holds Try.pinned (OpenSpec.ofChange diskNamesSpec)

/-- ITS FALSE NEIGHBOUR: 'it returns false'. Refute it at one input. -/
def diskNamesWrong : ChangeSpec := { name := "diskNames", fn := fun _ => fun
  | [d1, d2] => { results := [.lit (.bool false)], args := [d1, d2] }
  | _ => none }
def DiskNamesWrongFalsely : Prop := diskNamesRow.holds Try.pinned (OpenSpec.ofChange diskNamesWrong)

/-- 'hallmarklaw09.DiskPlays': WHATEVER THE INPUT: true; the input reads as it did. -/
def diskPlaysSpec : ChangeSpec := { name := "diskPlays", fn := fun _ => fun
  | [d1, d2] => { results := [.lit (.bool true)], args := [d1, d2] }
  | _ => none }
def diskPlaysRow : OpenClaim := { program := "ytlinkpjneehnbaa", sum := "13cdcf3afa57950d0a04a04591d8aea781dd2633ce931f4f70228c694dd07a61", func := "hallmark/hallmarklaw09.DiskPlays", spec := "diskPlays", inPlace := ["maps.clone"], unfollowed := true, recurses := true, apart := false }
def DiskPlaysSaid : Prop := diskPlaysRow.holds Try.pinned (OpenSpec.ofChange diskPlaysSpec)

/-- ITS FALSE NEIGHBOUR: 'it returns false'. Refute it at one input. -/
def diskPlaysWrong : ChangeSpec := { name := "diskPlays", fn := fun _ => fun
  | [d1, d2] => { results := [.lit (.bool false)], args := [d1, d2] }
  | _ => none }
def DiskPlaysWrongFalsely : Prop := diskPlaysRow.holds Try.pinned (OpenSpec.ofChange diskPlaysWrong)

/-- 'hallmarklaw09.DiskNil': WHATEVER THE INPUT: true; the input reads as it did. -/
def diskNilSpec : ChangeSpec := { name := "diskNil", fn := fun _ => fun
  | [d1, d2, d3] => { results := [.lit (.bool true)], args := [d1, d2, d3] }
  | _ => none }
def diskNilRow : OpenClaim := { program := "ytlinkpjneehnbaa", sum := "13cdcf3afa57950d0a04a04591d8aea781dd2633ce931f4f70228c694dd07a61", func := "hallmark/hallmarklaw09.DiskNil", spec := "diskNil", inPlace := ["maps.clone"], unfollowed := true, recurses := true, apart := false }
def DiskNilSaid : Prop := diskNilRow.holds Try.pinned (OpenSpec.ofChange diskNilSpec)

/-- ITS FALSE NEIGHBOUR: 'it returns false'. Refute it at one input. -/
def diskNilWrong : ChangeSpec := { name := "diskNil", fn := fun _ => fun
  | [d1, d2, d3] => { results := [.lit (.bool false)], args := [d1, d2, d3] }
  | _ => none }
def DiskNilWrongFalsely : Prop := diskNilRow.holds Try.pinned (OpenSpec.ofChange diskNilWrong)

/-- 'hallmarklaw10.JournalPlays': WHATEVER THE INPUT: true; the input reads as it did. -/
def journalPlaysSpec : ChangeSpec := { name := "journalPlays", fn := fun _ => fun
  | [d1, d2, d3] => { results := [.lit (.bool true)], args := [d1, d2, d3] }
  | _ => none }
def journalPlaysRow : OpenClaim := { program := "ytlinkpjneehnbaa", sum := "13cdcf3afa57950d0a04a04591d8aea781dd2633ce931f4f70228c694dd07a61", func := "hallmark/hallmarklaw10.JournalPlays", spec := "journalPlays", inPlace := ["maps.clone"], unfollowed := true, recurses := true, apart := false }
def JournalPlaysSaid : Prop := journalPlaysRow.holds Try.pinned (OpenSpec.ofChange journalPlaysSpec)

/-- ITS FALSE NEIGHBOUR: 'it returns false'. Refute it at one input. -/
def journalPlaysWrong : ChangeSpec := { name := "journalPlays", fn := fun _ => fun
  | [d1, d2, d3] => { results := [.lit (.bool false)], args := [d1, d2, d3] }
  | _ => none }
def JournalPlaysWrongFalsely : Prop := journalPlaysRow.holds Try.pinned (OpenSpec.ofChange journalPlaysWrong)

/-- 'hallmarklaw12.BlobNil': WHATEVER THE INPUT: true; the input reads as it did. -/
def blobNilSpec : ChangeSpec := { name := "blobNil", fn := fun _ => fun
  | [d1, d2] => { results := [.lit (.bool true)], args := [d1, d2] }
  | _ => none }
def blobNilRow : OpenClaim := { program := "ytlinkpjneehnbaa", sum := "13cdcf3afa57950d0a04a04591d8aea781dd2633ce931f4f70228c694dd07a61", func := "hallmark/hallmarklaw12.BlobNil", spec := "blobNil", unfollowed := true, recurses := true, apart := false }
def BlobNilSaid : Prop := blobNilRow.holds Try.pinned (OpenSpec.ofChange blobNilSpec)

/-- ITS FALSE NEIGHBOUR: 'it returns false'. Refute it at one input. -/
def blobNilWrong : ChangeSpec := { name := "blobNil", fn := fun _ => fun
  | [d1, d2] => { results := [.lit (.bool false)], args := [d1, d2] }
  | _ => none }
def BlobNilWrongFalsely : Prop := blobNilRow.holds Try.pinned (OpenSpec.ofChange blobNilWrong)

/-- 'hallmarklaw12.BlobRight': WHATEVER THE INPUT: true; the input reads as it did. -/
def blobRightSpec : ChangeSpec := { name := "blobRight", fn := fun _ => fun
  | [d1, d2] => { results := [.lit (.bool true)], args := [d1, d2] }
  | _ => none }
def blobRightRow : OpenClaim := { program := "ytlinkpjneehnbaa", sum := "13cdcf3afa57950d0a04a04591d8aea781dd2633ce931f4f70228c694dd07a61", func := "hallmark/hallmarklaw12.BlobRight", spec := "blobRight", inPlace := ["maps.clone"], unfollowed := true, recurses := true, apart := false }
def BlobRightSaid : Prop := blobRightRow.holds Try.pinned (OpenSpec.ofChange blobRightSpec)

/-- ITS FALSE NEIGHBOUR: 'it returns false'. Refute it at one input. -/
def blobRightWrong : ChangeSpec := { name := "blobRight", fn := fun _ => fun
  | [d1, d2] => { results := [.lit (.bool false)], args := [d1, d2] }
  | _ => none }
def BlobRightWrongFalsely : Prop := blobRightRow.holds Try.pinned (OpenSpec.ofChange blobRightWrong)

/- THE SECOND FORM. 'bulk': how many values and letters a reading holds, each counted each time it is reached (what is shared counts as often as it is met; a slice's spare places count too). A statement '..UptoSaid' is the law's where the arguments, and the package variables that the reading takes, are together of bulk at most 1048576: NARROWER than '..Said'. Prove '..Said' where nothing that the law and all that it calls make is longer than what came in: it says more and counts as full. Else prove '..UptoSaid'. A law counts once. -/
mutual
def uptoBulk {H : Type} : DataW H → Nat
  | .lit (.string bytes) => bytes.length + 1
  | .lit _ => 1
  | .nil => 1
  | .ptr d => uptoBulk d + 1
  | .slice elems spare => uptoBulkAll elems + uptoBulkAll spare + 1
  | .agg parts => uptoBulkAll parts + 1
  | .iface _ d => uptoBulk d + 1
  | .map entries => uptoBulkEntries entries + 1
  | .held _ => 1
def uptoBulkAll {H : Type} : List (DataW H) → Nat
  | [] => 0
  | d :: r => uptoBulk d + uptoBulkAll r
def uptoBulkEntries {H : Type} : List (Lit × DataW H) → Nat
  | [] => 0
  | x :: r => uptoBulkEntry x + uptoBulkEntries r
def uptoBulkEntry {H : Type} : Lit × DataW H → Nat
  | (.string bytes, d) => bytes.length + uptoBulk d + 1
  | (_, d) => uptoBulk d + 1
 end
def uptoSmall : (H : Type) → List (DataW H) → Bool := fun _ ds => decide (uptoBulkAll ds ≤ 1048576)
def OpenSpec.upto (s : _root_.Go.ChangeSpec) : _root_.Go.OpenSpec := { _root_.Go.OpenSpec.ofChange s with cond := some uptoSmall }

/-- 'hallmarklaw09.DiskFull', WHERE WHAT IT READS IS OF BULK AT MOST 1048576: true; the input reads as it did. -/
def diskFullUptoRow : OpenClaim := { program := "ytlinkpjneehnbaa", sum := "13cdcf3afa57950d0a04a04591d8aea781dd2633ce931f4f70228c694dd07a61", func := "hallmark/hallmarklaw09.DiskFull", spec := "diskFull", inPlace := ["maps.clone"], apart := false, narrowed := true }
def DiskFullUptoSaid : Prop := diskFullUptoRow.holds Try.pinned (OpenSpec.upto diskFullSpec)

/-- 'hallmarklaw09.DiskLasts', WHERE WHAT IT READS IS OF BULK AT MOST 1048576: true; the input reads as it did. -/
def diskLastsUptoRow : OpenClaim := { program := "ytlinkpjneehnbaa", sum := "13cdcf3afa57950d0a04a04591d8aea781dd2633ce931f4f70228c694dd07a61", func := "hallmark/hallmarklaw09.DiskLasts", spec := "diskLasts", inPlace := ["maps.clone"], apart := false, narrowed := true }
def DiskLastsUptoSaid : Prop := diskLastsUptoRow.holds Try.pinned (OpenSpec.upto diskLastsSpec)

/-- 'hallmarklaw09.DiskMany', WHERE WHAT IT READS IS OF BULK AT MOST 1048576: true; the input reads as it did. -/
def diskManyUptoRow : OpenClaim := { program := "ytlinkpjneehnbaa", sum := "13cdcf3afa57950d0a04a04591d8aea781dd2633ce931f4f70228c694dd07a61", func := "hallmark/hallmarklaw09.DiskMany", spec := "diskMany", inPlace := ["maps.clone"], apart := false, narrowed := true }
def DiskManyUptoSaid : Prop := diskManyUptoRow.holds Try.pinned (OpenSpec.upto diskManySpec)

/-- 'hallmarklaw10.JournalScans', WHERE WHAT IT READS IS OF BULK AT MOST 1048576: true; the input reads as it did. -/
def journalScansUptoRow : OpenClaim := { program := "ytlinkpjneehnbaa", sum := "13cdcf3afa57950d0a04a04591d8aea781dd2633ce931f4f70228c694dd07a61", func := "hallmark/hallmarklaw10.JournalScans", spec := "journalScans", unfollowed := true, recurses := true, apart := false, narrowed := true }
def JournalScansUptoSaid : Prop := journalScansUptoRow.holds Try.pinned (OpenSpec.upto journalScansSpec)

/-- 'hallmarklaw10.JournalTurns', WHERE WHAT IT READS IS OF BULK AT MOST 1048576: true; the input reads as it did. -/
def journalTurnsUptoRow : OpenClaim := { program := "ytlinkpjneehnbaa", sum := "13cdcf3afa57950d0a04a04591d8aea781dd2633ce931f4f70228c694dd07a61", func := "hallmark/hallmarklaw10.JournalTurns", spec := "journalTurns", unfollowed := true, recurses := true, apart := false, narrowed := true }
def JournalTurnsUptoSaid : Prop := journalTurnsUptoRow.holds Try.pinned (OpenSpec.upto journalTurnsSpec)

/-- 'hallmarklaw10.JournalNil', WHERE WHAT IT READS IS OF BULK AT MOST 1048576: true; the input reads as it did. -/
def journalNilUptoRow : OpenClaim := { program := "ytlinkpjneehnbaa", sum := "13cdcf3afa57950d0a04a04591d8aea781dd2633ce931f4f70228c694dd07a61", func := "hallmark/hallmarklaw10.JournalNil", spec := "journalNil", unfollowed := true, recurses := true, apart := false, narrowed := true }
def JournalNilUptoSaid : Prop := journalNilUptoRow.holds Try.pinned (OpenSpec.upto journalNilSpec)

/-- 'hallmarklaw12.BlobOnce', WHERE WHAT IT READS IS OF BULK AT MOST 1048576: true; the input reads as it did. -/
def blobOnceUptoRow : OpenClaim := { program := "ytlinkpjneehnbaa", sum := "13cdcf3afa57950d0a04a04591d8aea781dd2633ce931f4f70228c694dd07a61", func := "hallmark/hallmarklaw12.BlobOnce", spec := "blobOnce", unfollowed := true, recurses := true, apart := false, narrowed := true }
def BlobOnceUptoSaid : Prop := blobOnceUptoRow.holds Try.pinned (OpenSpec.upto blobOnceSpec)

/-- 'hallmarklaw10.JournalLasts', WHERE WHAT IT READS IS OF BULK AT MOST 1048576: true; the input reads as it did. -/
def journalLastsUptoRow : OpenClaim := { program := "ytlinkpjneehnbaa", sum := "13cdcf3afa57950d0a04a04591d8aea781dd2633ce931f4f70228c694dd07a61", func := "hallmark/hallmarklaw10.JournalLasts", spec := "journalLasts", inPlace := ["maps.clone"], unfollowed := true, recurses := true, apart := false, narrowed := true }
def JournalLastsUptoSaid : Prop := journalLastsUptoRow.holds Try.pinned (OpenSpec.upto journalLastsSpec)

/-- 'hallmarklaw12.BlobAdopts', WHERE WHAT IT READS IS OF BULK AT MOST 1048576: true; the input reads as it did. -/
def blobAdoptsUptoRow : OpenClaim := { program := "ytlinkpjneehnbaa", sum := "13cdcf3afa57950d0a04a04591d8aea781dd2633ce931f4f70228c694dd07a61", func := "hallmark/hallmarklaw12.BlobAdopts", spec := "blobAdopts", unfollowed := true, recurses := true, apart := false, narrowed := true }
def BlobAdoptsUptoSaid : Prop := blobAdoptsUptoRow.holds Try.pinned (OpenSpec.upto blobAdoptsSpec)

/-- 'hallmarklaw09.DiskNames', WHERE WHAT IT READS IS OF BULK AT MOST 1048576: true; the input reads as it did. -/
def diskNamesUptoRow : OpenClaim := { program := "ytlinkpjneehnbaa", sum := "13cdcf3afa57950d0a04a04591d8aea781dd2633ce931f4f70228c694dd07a61", func := "hallmark/hallmarklaw09.DiskNames", spec := "diskNames", inPlace := ["maps.clone"], unfollowed := true, recurses := true, apart := false, narrowed := true }
def DiskNamesUptoSaid : Prop := diskNamesUptoRow.holds Try.pinned (OpenSpec.upto diskNamesSpec)

/-- 'hallmarklaw09.DiskPlays', WHERE WHAT IT READS IS OF BULK AT MOST 1048576: true; the input reads as it did. -/
def diskPlaysUptoRow : OpenClaim := { program := "ytlinkpjneehnbaa", sum := "13cdcf3afa57950d0a04a04591d8aea781dd2633ce931f4f70228c694dd07a61", func := "hallmark/hallmarklaw09.DiskPlays", spec := "diskPlays", inPlace := ["maps.clone"], unfollowed := true, recurses := true, apart := false, narrowed := true }
def DiskPlaysUptoSaid : Prop := diskPlaysUptoRow.holds Try.pinned (OpenSpec.upto diskPlaysSpec)

/-- 'hallmarklaw09.DiskNil', WHERE WHAT IT READS IS OF BULK AT MOST 1048576: true; the input reads as it did. -/
def diskNilUptoRow : OpenClaim := { program := "ytlinkpjneehnbaa", sum := "13cdcf3afa57950d0a04a04591d8aea781dd2633ce931f4f70228c694dd07a61", func := "hallmark/hallmarklaw09.DiskNil", spec := "diskNil", inPlace := ["maps.clone"], unfollowed := true, recurses := true, apart := false, narrowed := true }
def DiskNilUptoSaid : Prop := diskNilUptoRow.holds Try.pinned (OpenSpec.upto diskNilSpec)

/-- 'hallmarklaw10.JournalPlays', WHERE WHAT IT READS IS OF BULK AT MOST 1048576: true; the input reads as it did. -/
def journalPlaysUptoRow : OpenClaim := { program := "ytlinkpjneehnbaa", sum := "13cdcf3afa57950d0a04a04591d8aea781dd2633ce931f4f70228c694dd07a61", func := "hallmark/hallmarklaw10.JournalPlays", spec := "journalPlays", inPlace := ["maps.clone"], unfollowed := true, recurses := true, apart := false, narrowed := true }
def JournalPlaysUptoSaid : Prop := journalPlaysUptoRow.holds Try.pinned (OpenSpec.upto journalPlaysSpec)

/-- 'hallmarklaw12.BlobNil', WHERE WHAT IT READS IS OF BULK AT MOST 1048576: true; the input reads as it did. -/
def blobNilUptoRow : OpenClaim := { program := "ytlinkpjneehnbaa", sum := "13cdcf3afa57950d0a04a04591d8aea781dd2633ce931f4f70228c694dd07a61", func := "hallmark/hallmarklaw12.BlobNil", spec := "blobNil", unfollowed := true, recurses := true, apart := false, narrowed := true }
def BlobNilUptoSaid : Prop := blobNilUptoRow.holds Try.pinned (OpenSpec.upto blobNilSpec)

/-- 'hallmarklaw12.BlobRight', WHERE WHAT IT READS IS OF BULK AT MOST 1048576: true; the input reads as it did. -/
def blobRightUptoRow : OpenClaim := { program := "ytlinkpjneehnbaa", sum := "13cdcf3afa57950d0a04a04591d8aea781dd2633ce931f4f70228c694dd07a61", func := "hallmark/hallmarklaw12.BlobRight", spec := "blobRight", inPlace := ["maps.clone"], unfollowed := true, recurses := true, apart := false, narrowed := true }
def BlobRightUptoSaid : Prop := blobRightUptoRow.holds Try.pinned (OpenSpec.upto blobRightSpec)

end Rows
end Go.Proofs.Ytlinkpjneehnbaa
