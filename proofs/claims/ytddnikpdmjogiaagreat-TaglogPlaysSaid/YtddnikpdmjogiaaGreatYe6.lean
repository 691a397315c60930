/- A part of the proof. -/
import Derived.Test.YtddnikpdmjogiaaGreatYb9
import Derived.Test.YtddnikpdmjogiaaGreatYc5
import Derived.Test.YtddnikpdmjogiaaGreatYe5
namespace Go.Proofs.YtddnikpdmjogiaaGreat
set_option linter.unusedVariables false
open Go.RowKit Go.MapKept
def w60 (fs : FS) : Nat := (fs.map (fun p => 60 + p.1.size + p.2.length)).sum
theorem tabOf_append : ∀ (a b : List (List UInt8)) (fs : FS), tabOf (a ++ b) fs = match tabOf a fs with | none => none | some fs' => tabOf b fs'
 | [], b, fs => rfl
 | r :: a, b, fs => by
  simp only [List.cons_append, tabOf]
  cases decOf r with
  | none => rfl
  | some l => exact tabOf_append a b _
structure TGo (fs : FS) (rs : List (List UInt8)) (L : Nat) : Prop where
 tab : tabOf rs [] = some fs
 small : ∀ p ∈ rs, p.length ≤ 1048568
 len : (framesOf rs).length ≤ L
theorem frames_snoc (rs : List (List UInt8)) (p : List UInt8) : framesOf (rs ++ [p]) = framesOf rs ++ frameOf p := by rw [framesOf_append]; simp [framesOf]
theorem tmpT_ne : tmpOf nmT ≠ nmT := by
 intro h
 have h1 : (tmpOf nmT).size = 2 := by decide +kernel
 have h2 : nmT.size = 1 := by decide +kernel
 rw [h, h2] at h1
 cases h1
structure Two (g : Fn) (L : Nat) : Prop where
 only : ∀ n, n ≠ nmT → n ≠ tmpOf nmT → g n = none
 tmp : ((g (tmpOf nmT)).getD []).length ≤ L
structure JF (now nxt : FS) (cut : Bool) (L : Nat) (x : Fn) : Prop where
 two : Two x L
 jrn : ∃ b rs, x nmT = some b ∧ b.length ≤ L ∧ scanOf b = (rs, (framesOf rs).length) ∧ (TGo now rs L ∨ (cut = true ∧ TGo nxt rs L))
structure TLI (R : Int) (now nxt : FS) (cut : Bool) (m : DM) (size L n : Nat) : Prop where
 ok : TabOk now
 wt : w60 now ≤ L
 nok : cut = true → TabOk nxt ∧ w60 nxt ≤ L
 size : size ≤ L
 st : (cut = false ∧ ∃ g all, Two g L ∧ g nmT = some (framesOf all) ∧ TGo now all L ∧ Up R (fun x => x = g) g m n) ∨ (cut = true ∧ Dn R (JF now nxt true L) m n)
theorem TLI.start {R : Int} (h0 : 0 ≤ R) (h1 : R ≤ 67108864) (nxt : FS) : TLI R [] nxt false (oneT R []) 0 0 4 := by
 have hg : Good (oneT R []) 4 := by
  have h := open_good (Good.new (room := R) h0 h1) nmT
  rw [open_emptyT] at h
  exact ⟨h.room0, h.room1, h.fuse0, h.fuse, by simp [oneT], h.nsure, h.now, h.used, h.kinds⟩
 have hgt : fget [(nmT, ([] : List UInt8))] = fset (fun _ => none) nmT [] := by
  funext x
  simp only [fset]
  split
  ·rename_i e; subst e; simp [fget]
  ·rename_i e; simp [fget, Ne.symm e]
 refine ⟨TabOk.nil, Nat.le_refl _, (fun e => by cases e), Nat.le_refl _, .inl ⟨rfl, _, [], ⟨fun n h1 h2 => ?_, ?_⟩, ?_, ⟨rfl, fun p hp => by simp at hp, Nat.le_refl _⟩, hg, rfl, rfl, Img.one rfl ?_, hgt⟩⟩
 ·rw [fset_other _ _ h1]
 ·rw [fset_other _ _ tmpT_ne]; simp
 ·rw [fset_same, framesOf_nil]
 ·exact hgt
theorem encOf_code (l : List TCh) : (encOf l).1 ≠ 5 := by
 have : ∀ (l : List TCh) (o : List UInt8), (encFrom l o).1 ≠ 5 := by
  intro l
  induction l with
  | nil => intro o; simp [encFrom]
  | cons c l ih =>
   intro o
   rw [encFrom]
   split
   ·simp
   ·split
    ·simp
    ·exact ih _
 unfold encOf
 split
 ·simp
 ·exact this l _
theorem tOpen_m (m : DM) (nm : ByteArray) : (tOpenOf m nm).m = (openOf m nm).m := by
 unfold tOpenOf
 split
 ·rfl
 ·split <;> rfl
end Go.Proofs.YtddnikpdmjogiaaGreat
