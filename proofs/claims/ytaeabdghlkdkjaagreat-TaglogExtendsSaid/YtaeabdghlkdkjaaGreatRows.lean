/-
  No cell of these rows narrows 'for every input' (looked for: loops, veiled, ifaces, maps, wideKeys, modest, calm, conditions, laid).
  DERIVED. THE GIVEN ROWS OF THIS SEAT. 7 by the template 'for every input the law returns true; each argument reads behind the call as it read before'; 0 by the template 'total and deterministic' (their statements: YtaeabdghlkdkjaaGreatTotals.lean).
  GIVEN WITH THE SEED: the statements are not yours to turn. If you find one false, say at which input.
  Laid BY PROGRAM, IN A SANDBOX (cutbox-rows.mjs): the forced cells as the released guide's own fill.sh prints them over the translation c5dbc7eac4e44bb8… (all of the seat's roots in one cut). By AI agents, Wed Nov 11 2026. No macro, syntax, notation, axiom, sorry.
-/
import Derived.Test.YtaeabdghlkdkjaaGreatChecked
import GoSem.Claim
import GoSem.ClaimJoined
import GoSem.ClaimMapViews
import Derived.JoinedTies
import Derived.KernelRfl
namespace Go.Proofs.YtaeabdghlkdkjaaGreat
/- THE CELL 'sum', in the pinned program and in every row, IS THE sha256 OF THE DUMP (.gsa) THAT YtaeabdghlkdkjaaGreatProg.lean LOADS. Nothing in Lean hashes anything: it is a label: what it is worth is what the hold of that sum in a sandbox is worth. -/
noncomputable def Tryz.pinned : Pinned := { name := "ytaeabdghlkdkjaagreat", sum := "c5dbc7eac4e44bb8609ebb70b68665153af789841dceb69a9bad286a867e042c", checked := Tryz.checked }
namespace Rows
def none {H : Type} : Left H := { results := [], args := [] }

/-- 'hallmarklaw11.TableBroken': WHATEVER THE INPUT: true; the input reads as it did. -/
def tableBrokenSpec : ChangeSpec := { name := "tableBroken", fn := fun _ => fun
  | [d] => { results := [.lit (.bool true)], args := [d] }
  | _ => none }
def tableBrokenRow : OpenClaim := { program := "ytaeabdghlkdkjaagreat", sum := "c5dbc7eac4e44bb8609ebb70b68665153af789841dceb69a9bad286a867e042c", func := "hallmark/hallmarklaw11.TableBroken", spec := "tableBroken", unfollowed := true, recurses := true, apart := false }
def TableBrokenSaid : Prop := tableBrokenRow.holds Tryz.pinned (OpenSpec.ofChange tableBrokenSpec)

/-- ITS FALSE NEIGHBOUR: 'it returns false'. Refute it at one input. -/
def tableBrokenWrong : ChangeSpec := { name := "tableBroken", fn := fun _ => fun
  | [d] => { results := [.lit (.bool false)], args := [d] }
  | _ => none }
def TableBrokenWrongFalsely : Prop := tableBrokenRow.holds Tryz.pinned (OpenSpec.ofChange tableBrokenWrong)

/-- 'hallmarklaw11.TablePlays': WHATEVER THE INPUT: true; the input reads as it did. -/
def tablePlaysSpec : ChangeSpec := { name := "tablePlays", fn := fun _ => fun
  | [d1, d2] => { results := [.lit (.bool true)], args := [d1, d2] }
  | _ => none }
def tablePlaysRow : OpenClaim := { program := "ytaeabdghlkdkjaagreat", sum := "c5dbc7eac4e44bb8609ebb70b68665153af789841dceb69a9bad286a867e042c", func := "hallmark/hallmarklaw11.TablePlays", spec := "tablePlays", inPlace := ["maps.clone"], unfollowed := true, recurses := true, apart := false }
def TablePlaysSaid : Prop := tablePlaysRow.holds Tryz.pinned (OpenSpec.ofChange tablePlaysSpec)

/-- ITS FALSE NEIGHBOUR: 'it returns false'. Refute it at one input. -/
def tablePlaysWrong : ChangeSpec := { name := "tablePlays", fn := fun _ => fun
  | [d1, d2] => { results := [.lit (.bool false)], args := [d1, d2] }
  | _ => none }
def TablePlaysWrongFalsely : Prop := tablePlaysRow.holds Tryz.pinned (OpenSpec.ofChange tablePlaysWrong)

/-- 'hallmarklaw15.TaglogBroken': WHATEVER THE INPUT: true; the input reads as it did. -/
def taglogBrokenSpec : ChangeSpec := { name := "taglogBroken", fn := fun _ => fun
  | [d] => { results := [.lit (.bool true)], args := [d] }
  | _ => none }
def taglogBrokenRow : OpenClaim := { program := "ytaeabdghlkdkjaagreat", sum := "c5dbc7eac4e44bb8609ebb70b68665153af789841dceb69a9bad286a867e042c", func := "hallmark/hallmarklaw15.TaglogBroken", spec := "taglogBroken", unfollowed := true, recurses := true, apart := false }
def TaglogBrokenSaid : Prop := taglogBrokenRow.holds Tryz.pinned (OpenSpec.ofChange taglogBrokenSpec)

/-- ITS FALSE NEIGHBOUR: 'it returns false'. Refute it at one input. -/
def taglogBrokenWrong : ChangeSpec := { name := "taglogBroken", fn := fun _ => fun
  | [d] => { results := [.lit (.bool false)], args := [d] }
  | _ => none }
def TaglogBrokenWrongFalsely : Prop := taglogBrokenRow.holds Tryz.pinned (OpenSpec.ofChange taglogBrokenWrong)

/-- 'hallmarklaw15.TaglogNil': WHATEVER THE INPUT: true; the input reads as it did. -/
def taglogNilSpec : ChangeSpec := { name := "taglogNil", fn := fun _ => fun
  | [d1, d2] => { results := [.lit (.bool true)], args := [d1, d2] }
  | _ => none }
def taglogNilRow : OpenClaim := { program := "ytaeabdghlkdkjaagreat", sum := "c5dbc7eac4e44bb8609ebb70b68665153af789841dceb69a9bad286a867e042c", func := "hallmark/hallmarklaw15.TaglogNil", spec := "taglogNil", unfollowed := true, recurses := true, apart := false }
def TaglogNilSaid : Prop := taglogNilRow.holds Tryz.pinned (OpenSpec.ofChange taglogNilSpec)

/-- ITS FALSE NEIGHBOUR: 'it returns false'. Refute it at one input. -/
def taglogNilWrong : ChangeSpec := { name := "taglogNil", fn := fun _ => fun
  | [d1, d2] => { results := [.lit (.bool false)], args := [d1, d2] }
  | _ => none }
def TaglogNilWrongFalsely : Prop := taglogNilRow.holds Tryz.pinned (OpenSpec.ofChange taglogNilWrong)

/-- 'hallmarklaw15.TaglogShows': WHATEVER THE INPUT: true; the input reads as it did. -/
def taglogShowsSpec : ChangeSpec := { name := "taglogShows", fn := fun _ => fun
  | [d1, d2] => { results := [.lit (.bool true)], args := [d1, d2] }
  | _ => none }
def taglogShowsRow : OpenClaim := { program := "ytaeabdghlkdkjaagreat", sum := "c5dbc7eac4e44bb8609ebb70b68665153af789841dceb69a9bad286a867e042c", func := "hallmark/hallmarklaw15.TaglogShows", spec := "taglogShows", unfollowed := true, recurses := true, apart := false }
def TaglogShowsSaid : Prop := taglogShowsRow.holds Tryz.pinned (OpenSpec.ofChange taglogShowsSpec)

/-- ITS FALSE NEIGHBOUR: 'it returns false'. Refute it at one input. -/
def taglogShowsWrong : ChangeSpec := { name := "taglogShows", fn := fun _ => fun
  | [d1, d2] => { results := [.lit (.bool false)], args := [d1, d2] }
  | _ => none }
def TaglogShowsWrongFalsely : Prop := taglogShowsRow.holds Tryz.pinned (OpenSpec.ofChange taglogShowsWrong)

/-- 'hallmarklaw15.TaglogExtends': WHATEVER THE INPUT: true; the input reads as it did. -/
def taglogExtendsSpec : ChangeSpec := { name := "taglogExtends", fn := fun _ => fun
  | [d] => { results := [.lit (.bool true)], args := [d] }
  | _ => none }
def taglogExtendsRow : OpenClaim := { program := "ytaeabdghlkdkjaagreat", sum := "c5dbc7eac4e44bb8609ebb70b68665153af789841dceb69a9bad286a867e042c", func := "hallmark/hallmarklaw15.TaglogExtends", spec := "taglogExtends", inPlace := ["maps.clone"], unfollowed := true, recurses := true, apart := false }
def TaglogExtendsSaid : Prop := taglogExtendsRow.holds Tryz.pinned (OpenSpec.ofChange taglogExtendsSpec)

/-- ITS FALSE NEIGHBOUR: 'it returns false'. Refute it at one input. -/
def taglogExtendsWrong : ChangeSpec := { name := "taglogExtends", fn := fun _ => fun
  | [d] => { results := [.lit (.bool false)], args := [d] }
  | _ => none }
def TaglogExtendsWrongFalsely : Prop := taglogExtendsRow.holds Tryz.pinned (OpenSpec.ofChange taglogExtendsWrong)

/-- 'hallmarklaw15.TaglogPlays': WHATEVER THE INPUT: true; the input reads as it did. -/
def taglogPlaysSpec : ChangeSpec := { name := "taglogPlays", fn := fun _ => fun
  | [d1, d2, d3] => { results := [.lit (.bool true)], args := [d1, d2, d3] }
  | _ => none }
def taglogPlaysRow : OpenClaim := { program := "ytaeabdghlkdkjaagreat", sum := "c5dbc7eac4e44bb8609ebb70b68665153af789841dceb69a9bad286a867e042c", func := "hallmark/hallmarklaw15.TaglogPlays", spec := "taglogPlays", inPlace := ["maps.clone"], unfollowed := true, recurses := true, apart := false }
def TaglogPlaysSaid : Prop := taglogPlaysRow.holds Tryz.pinned (OpenSpec.ofChange taglogPlaysSpec)

/-- ITS FALSE NEIGHBOUR: 'it returns false'. Refute it at one input. -/
def taglogPlaysWrong : ChangeSpec := { name := "taglogPlays", fn := fun _ => fun
  | [d1, d2, d3] => { results := [.lit (.bool false)], args := [d1, d2, d3] }
  | _ => none }
def TaglogPlaysWrongFalsely : Prop := taglogPlaysRow.holds Tryz.pinned (OpenSpec.ofChange taglogPlaysWrong)

/- THE SECOND FORM. 'bulk': how many values and letters a reading holds, each counted each time it is reached (what is shared counts as often as it is met; a slice's spare places count too). A statement '..UptoSaid' is the law's where the arguments, and the package variables that the reading takes, are together of bulk at most 1048576: NARROWER than '..Said'. Prove '..Said' where nothing that the law and all that it calls make is longer than what came in: it says more and counts as full. Else prove '..UptoSaid'. A law counts once. -/
mutual
def uptoBulk {H : Type} : DataW H → Nat
  | .lit (.string bytes) => bytes.length + 1
  | .lit _ => 1
  | .nil => 1
  | .ptr d => uptoBulk d + 1
  | .slice elems spare => uptoBulkAll elems + uptoBulkAll spare + 1
  | .agg parts => uptoBulkAll parts + 1
  | .iface _ d => uptoBulk d + 1
  | .map entries => uptoBulkEntries entries + 1
  | .held _ => 1
def uptoBulkAll {H : Type} : List (DataW H) → Nat
  | [] => 0
  | d :: r => uptoBulk d + uptoBulkAll r
def uptoBulkEntries {H : Type} : List (Lit × DataW H) → Nat
  | [] => 0
  | x :: r => uptoBulkEntry x + uptoBulkEntries r
def uptoBulkEntry {H : Type} : Lit × DataW H → Nat
  | (.string bytes, d) => bytes.length + uptoBulk d + 1
  | (_, d) => uptoBulk d + 1
 end
def uptoSmall : (H : Type) → List (DataW H) → Bool := fun _ ds => decide (uptoBulkAll ds ≤ 1048576)
def OpenSpec.upto (s : _root_.Go.ChangeSpec) : _root_.Go.OpenSpec := { _root_.Go.OpenSpec.ofChange s with cond := some uptoSmall }

/-- 'hallmarklaw11.TableBroken', WHERE WHAT IT READS IS OF BULK AT MOST 1048576: true; the input reads as it did. -/
def tableBrokenUptoRow : OpenClaim := { program := "ytaeabdghlkdkjaagreat", sum := "c5dbc7eac4e44bb8609ebb70b68665153af789841dceb69a9bad286a867e042c", func := "hallmark/hallmarklaw11.TableBroken", spec := "tableBroken", unfollowed := true, recurses := true, apart := false, narrowed := true }
def TableBrokenUptoSaid : Prop := tableBrokenUptoRow.holds Tryz.pinned (OpenSpec.upto tableBrokenSpec)

/-- 'hallmarklaw11.TablePlays', WHERE WHAT IT READS IS OF BULK AT MOST 1048576: true; the input reads as it did. -/
def tablePlaysUptoRow : OpenClaim := { program := "ytaeabdghlkdkjaagreat", sum := "c5dbc7eac4e44bb8609ebb70b68665153af789841dceb69a9bad286a867e042c", func := "hallmark/hallmarklaw11.TablePlays", spec := "tablePlays", inPlace := ["maps.clone"], unfollowed := true, recurses := true, apart := false, narrowed := true }
def TablePlaysUptoSaid : Prop := tablePlaysUptoRow.holds Tryz.pinned (OpenSpec.upto tablePlaysSpec)

/-- 'hallmarklaw15.TaglogBroken', WHERE WHAT IT READS IS OF BULK AT MOST 1048576: true; the input reads as it did. -/
def taglogBrokenUptoRow : OpenClaim := { program := "ytaeabdghlkdkjaagreat", sum := "c5dbc7eac4e44bb8609ebb70b68665153af789841dceb69a9bad286a867e042c", func := "hallmark/hallmarklaw15.TaglogBroken", spec := "taglogBroken", unfollowed := true, recurses := true, apart := false, narrowed := true }
def TaglogBrokenUptoSaid : Prop := taglogBrokenUptoRow.holds Tryz.pinned (OpenSpec.upto taglogBrokenSpec)

/-- 'hallmarklaw15.TaglogNil', WHERE WHAT IT READS IS OF BULK AT MOST 1048576: true; the input reads as it did. -/
def taglogNilUptoRow : OpenClaim := { program := "ytaeabdghlkdkjaagreat", sum := "c5dbc7eac4e44bb8609ebb70b68665153af789841dceb69a9bad286a867e042c", func := "hallmark/hallmarklaw15.TaglogNil", spec := "taglogNil", unfollowed := true, recurses := true, apart := false, narrowed := true }
def TaglogNilUptoSaid : Prop := taglogNilUptoRow.holds Tryz.pinned (OpenSpec.upto taglogNilSpec)

/-- 'hallmarklaw15.TaglogShows', WHERE WHAT IT READS IS OF BULK AT MOST 1048576: true; the input reads as it did. -/
def taglogShowsUptoRow : OpenClaim := { program := "ytaeabdghlkdkjaagreat", sum := "c5dbc7eac4e44bb8609ebb70b68665153af789841dceb69a9bad286a867e042c", func := "hallmark/hallmarklaw15.TaglogShows", spec := "taglogShows", unfollowed := true, recurses := true, apart := false, narrowed := true }
def TaglogShowsUptoSaid : Prop := taglogShowsUptoRow.holds Tryz.pinned (OpenSpec.upto taglogShowsSpec)

/-- 'hallmarklaw15.TaglogExtends', WHERE WHAT IT READS IS OF BULK AT MOST 1048576: true; the input reads as it did. -/
def taglogExtendsUptoRow : OpenClaim := { program := "ytaeabdghlkdkjaagreat", sum := "c5dbc7eac4e44bb8609ebb70b68665153af789841dceb69a9bad286a867e042c", func := "hallmark/hallmarklaw15.TaglogExtends", spec := "taglogExtends", inPlace := ["maps.clone"], unfollowed := true, recurses := true, apart := false, narrowed := true }
def TaglogExtendsUptoSaid : Prop := taglogExtendsUptoRow.holds Tryz.pinned (OpenSpec.upto taglogExtendsSpec)

/-- 'hallmarklaw15.TaglogPlays', WHERE WHAT IT READS IS OF BULK AT MOST 1048576: true; the input reads as it did. -/
def taglogPlaysUptoRow : OpenClaim := { program := "ytaeabdghlkdkjaagreat", sum := "c5dbc7eac4e44bb8609ebb70b68665153af789841dceb69a9bad286a867e042c", func := "hallmark/hallmarklaw15.TaglogPlays", spec := "taglogPlays", inPlace := ["maps.clone"], unfollowed := true, recurses := true, apart := false, narrowed := true }
def TaglogPlaysUptoSaid : Prop := taglogPlaysUptoRow.holds Tryz.pinned (OpenSpec.upto taglogPlaysSpec)

end Rows
end Go.Proofs.YtaeabdghlkdkjaaGreat
