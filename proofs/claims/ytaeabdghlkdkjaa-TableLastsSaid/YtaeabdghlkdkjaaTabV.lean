/- Tables: changes, their records, what they do. Plain. -/
import Derived.Test.YtaeabdghlkdkjaaCntV
import Derived.Test.YtaeabdghlkdkjaaPkF
namespace Go.Proofs.Ytaeabdghlkdkjaa
set_option linter.unusedVariables false
open Go.RowKit Go.MapKept

/-- A key that gets a value, or goes. -/
structure TCh where
  key : ByteArray
  gone : Bool
  val : List UInt8
/-- Keys with their values, in order: as files with their names. -/
def tdo (fs : FS) (c : TCh) : FS := if c.gone = true then fdel fs c.key else fput fs c.key c.val
def tdos (fs : FS) (l : List TCh) : FS := l.foldl tdo fs
theorem FSorted.tdo {fs : FS} (h : FSorted fs) (c : TCh) : FSorted (tdo fs c) := by
  unfold Go.Proofs.Ytaeabdghlkdkjaa.tdo; split
  · exact h.fdel _
  · exact h.fput _ _
theorem FSorted.tdos : ∀ (l : List TCh) {fs : FS}, FSorted fs → FSorted (tdos fs l)
  | [], _, h => h
  | c :: l, _, h => FSorted.tdos l (h.tdo c)

/-! ### Records -/
def badCh (c : TCh) : Bool := decide (c.key.size = 0) || decide (320 < c.key.size) || decide (262144 < c.val.length)
def encCh (c : TCh) : List UInt8 := if c.gone = true then 0 :: textOf c.key.toList else (1 :: textOf c.key.toList) ++ textOf c.val
def encFrom : List TCh → List UInt8 → Int × List UInt8
  | [], out => (0, out)
  | c :: l, out => if badCh c = true then (1, []) else if 1048568 < (out ++ encCh c).length then (8, []) else encFrom l (out ++ encCh c)
def encOf (l : List TCh) : Int × List UInt8 := if 256 < l.length then (8, []) else encFrom l (countOf l.length)
/-- Bytes with their count ahead, read: the bytes, how many were read, a code. -/
def readTextOf (b : List UInt8) (most : Nat) : List UInt8 × Nat × Int :=
  if (readCountOf b).2.2 = 0 then
    (if most < (readCountOf b).1 then ([], 0, 8) else if b.length - (readCountOf b).2.1 < (readCountOf b).1 then ([], 0, 9) else ((b.drop (readCountOf b).2.1).take (readCountOf b).1, (readCountOf b).2.1 + (readCountOf b).1, 0))
  else ([], 0, (readCountOf b).2.2)
/-- One change read off bytes: the change, what stands behind it. -/
def decCh (b : List UInt8) : Option (TCh × List UInt8) :=
  match b with
  | [] => none
  | k :: b1 =>
    if 1 < k.toNat then none
    else if (readTextOf b1 320).2.2 = 0 ∧ (readTextOf b1 320).1 ≠ [] then
      (if k.toNat = 0 then some (⟨⟨(readTextOf b1 320).1.toArray⟩, true, []⟩, b1.drop (readTextOf b1 320).2.1)
       else if (readTextOf (b1.drop (readTextOf b1 320).2.1) 262144).2.2 = 0 then some (⟨⟨(readTextOf b1 320).1.toArray⟩, false, (readTextOf (b1.drop (readTextOf b1 320).2.1) 262144).1⟩, (b1.drop (readTextOf b1 320).2.1).drop (readTextOf (b1.drop (readTextOf b1 320).2.1) 262144).2.1)
       else none)
    else none
def decFrom : Nat → List UInt8 → List TCh → Option (List TCh)
  | 0, b, out => if b = [] then some out else none
  | n + 1, b, out => match decCh b with | none => none | some (c, b') => decFrom n b' (out ++ [c])
def decOf (b : List UInt8) : Option (List TCh) :=
  if (readCountOf b).2.2 = 0 ∧ (readCountOf b).1 ≤ 256 then decFrom (readCountOf b).1 (b.drop (readCountOf b).2.1) [] else none

/-! ### The document's way of doing changes -/
/-- Where a key stands, or would stand. -/
def keyAt : FS → ByteArray → Nat
  | [], _ => 0
  | x :: l, k => if blt x.1 k = true then keyAt l k + 1 else 0
theorem keyAt_le : ∀ (fs : FS) (k : ByteArray), keyAt fs k ≤ fs.length
  | [], _ => Nat.le_refl _
  | x :: l, k => by
    rw [keyAt]
    split
    · have := keyAt_le l k; rw [List.length_cons]; omega
    · exact Nat.zero_le _
theorem fins_tail {x : ByteArray × List UInt8} {l : FS} {f : ByteArray × List UInt8} (h : blt f.1 x.1 = false) : fins (x :: l) f = x :: fins l f := by rw [fins_cons, h]; rfl
theorem blt_asym {a b : ByteArray} (h : blt a b = true) : blt b a = false := by
  cases h2 : blt b a with
  | false => rfl
  | true => have := blt_trans h h2; rw [blt_irrefl] at this; cases this
theorem fdel_all {l : FS} {k : ByteArray} (h : ∀ y ∈ l, blt k y.1 = true) : fdel l k = l := fdel_absent (fun hm => by
  obtain ⟨y, hy, e⟩ := List.mem_map.1 hm
  have := h y hy
  rw [e, blt_irrefl] at this
  cases this)
/-- Done by the document: what stands ahead, the new pair, what stands behind but for the key's own. -/
theorem tdo_split : ∀ {fs : FS}, FSorted fs → ∀ (c : TCh), tdo fs c = fs.take (keyAt fs c.key) ++ (if c.gone = true then [] else [(c.key, c.val)]) ++ fdel (fs.drop (keyAt fs c.key)) c.key
  | [], _, c => by
    unfold tdo
    split
    · rfl
    · rfl
  | x :: l, h, c => by
    have hx := List.pairwise_cons.1 h
    by_cases hb : blt x.1 c.key = true
    · have hne : ¬ x.1 = c.key := fun e => by rw [e, blt_irrefl] at hb; cases hb
      have hk : keyAt (x :: l) c.key = keyAt l c.key + 1 := by rw [keyAt, if_pos hb]
      rw [hk, List.take_succ_cons, List.drop_succ_cons, List.cons_append, List.cons_append, ← tdo_split hx.2 c]
      unfold tdo
      split
      · rw [fdel_cons, if_neg hne]
      · unfold fput
        rw [fdel_cons, if_neg hne]
        exact fins_tail (blt_asym hb)
    · have hk : keyAt (x :: l) c.key = 0 := by rw [keyAt, if_neg hb]
      rw [hk, List.take_zero, List.drop_zero, List.nil_append]
      have hb' : blt x.1 c.key = false := by simpa using hb
      have hall : ∀ y ∈ fdel (x :: l) c.key, blt c.key y.1 = true := fun y hy => by
        have hy2 := List.mem_filter.1 hy
        have hne : ¬ y.1 = c.key := by simpa using hy2.2
        rcases List.mem_cons.1 hy2.1 with rfl | hy3
        · exact blt_total hb' hne
        · by_cases e : x.1 = c.key
          · rw [← e]; exact hx.1 y hy3
          · exact blt_trans (blt_total hb' e) (hx.1 y hy3)
      unfold tdo
      split
      · rw [List.nil_append]
      · unfold fput
        rw [fins_ahead hall]
        rfl
end Go.Proofs.Ytaeabdghlkdkjaa
