/- A part of the proof. -/
import Derived.Test.YtlcnhpjggjgnpaaGreatDoorUlab6
import Derived.Test.YtlcnhpjggjgnpaaGreatDoorUlac0
namespace Go.Proofs.YtlcnhpjggjgnpaaGreatDoor
set_option linter.unusedVariables false
open Go.RowKit Go.MapKept
structure CM (m : DM) (R : Int) (F : FS) : Prop where
 calm : Calm m
 room : m.room = R
 now : m.now = F
 fold : m.now = m.loose.foldl doCh m.sure
 nd : FNodup F
theorem CM.does {m : DM} {R : Int} {F : FS} (h : CM m R F) (c : Ch) : CM { m with now := doCh m.now c, loose := m.loose ++ [c] } R (doCh F c) :=
 ⟨⟨h.calm.down, h.calm.fuse⟩, h.room, by rw [← h.now], by
  show doCh m.now c = (m.loose ++ [c]).foldl doCh m.sure
  rw [List.foldl_append, ← h.fold]; rfl, h.nd.doCh c⟩
theorem CM.oneT (R : Int) : CM (oneT R []) R [(nmT, [])] := ⟨⟨rfl, rfl⟩, rfl, rfl, rfl, by simp [FNodup]⟩
theorem CM.create {m : DM} {R : Int} {F : FS} (h : CM m R F) {k : ByteArray} (hn : isName k = true) (hg : fget F k = none) (hl : F.length < 4096) : (createOf m k).1 = 0 ∧ CM (createOf m k).2 R (fput F k []) := by
 rw [h.calm.create hn (by rw [h.now]; exact hg) (by rw [h.now]; omega)]
 exact ⟨rfl, by simpa [doCh] using h.does ⟨0, k, ⟨#[]⟩, []⟩⟩
theorem CM.append {m : DM} {R : Int} {F : FS} (h : CM m R F) {k : ByteArray} {v : List UInt8} (hg : fget F k = some v) {p : List UInt8} (hp : p.length ≤ 1048576) (hr : (used F : Int) + p.length ≤ R) : (appendOf m k p).1 = 0 ∧ CM (appendOf m k p).2 R (fput F k (v ++ p)) := by
 rw [h.calm.append (by rw [h.now, hg]; rfl) p (by omega), if_neg (by rw [h.room, h.now]; omega)]
 exact ⟨rfl, by simpa [doCh, h.now, hg] using h.does ⟨1, k, ⟨#[]⟩, p⟩⟩
theorem CM.rename {m : DM} {R : Int} {F : FS} (h : CM m R F) {k g : ByteArray} {v : List UInt8} (hg : fget F k = some v) (hn : isName g = true) (hne : k ≠ g) : (renameOf m k g).1 = 0 ∧ CM (renameOf m k g).2 R (fdel (fput F g v) k) := by
 unfold renameOf
 rw [h.calm.there (by rw [h.now, hg]; rfl), h.calm.does, hn]
 exact ⟨rfl, by simpa [doCh, h.now, hg, hne] using h.does ⟨3, k, g, []⟩⟩
theorem CM.sync {m : DM} {R : Int} {F : FS} (h : CM m R F) : (syncOf m).1 = 0 ∧ CM (syncOf m).2 R F := by
 have hf := h.calm.fuse
 unfold syncOf
 rw [h.calm.down, if_neg (by simp), if_neg (by rw [hf]; decide)]
 refine ⟨rfl, ⟨by simp [synced, spendOf, hf, h.calm.down], by simp [synced, spendOf, hf]⟩, by simp [synced, spendOf, hf, h.room], by simp [synced, spendOf, hf, h.now], ?_, h.nd⟩
 simp only [synced, List.foldl_nil]
 rw [← h.fold]
 simp [spendOf, hf]
theorem CM.there {m : DM} {R : Int} {F : FS} (h : CM m R F) (k : ByteArray) : thereOf m k = if (fget F k).isSome then 0 else 6 := by
 unfold thereOf
 rw [h.calm.down, h.now]; rfl
theorem CM.cont {m : DM} {R : Int} {F : FS} (h : CM m R F) (k : ByteArray) : contOf m k = (fget F k).getD [] := by
 unfold contOf
 rw [h.now]
structure CT (T : TM) (R : Int) (F : FS) (b : List UInt8) : Prop where
 cm : CM T.m R F
 file : fget F nmT = some b
 up : T.down = false
theorem CT.app {T : TM} {R : Int} {F : FS} {b : List UInt8} (h : CT T R F b) {l : List TCh} (he : (encOf l).1 = 0) (hr : (used F : Int) + (8 + (encOf l).2.length) ≤ R) :
  (tAppOf T nmT l).1 = 0 ∧ CT (tAppOf T nmT l).2 R (fput F nmT (b ++ frameOf (encOf l).2)) (b ++ frameOf (encOf l).2) ∧ (tAppOf T nmT l).2.fs = tdos T.fs l := by
 have hlen := (enc_ok he).2.2.2
 have ha := h.cm.append (k := nmT) h.file (p := frameOf (encOf l).2) (by rw [frameOf_length]; omega) (by rw [frameOf_length]; omega)
 have hj : jAppendOf T.m nmT T.size (encOf l).2 = (0, (appendOf T.m nmT (frameOf (encOf l).2)).2, T.size + (8 + (encOf l).2.length)) := by
  unfold jAppendOf
  rw [if_neg (by omega), if_pos ha.1]
 have hs := ha.2.sync
 unfold tAppOf
 rw [h.up, if_neg (by simp), if_pos he, hj, if_pos rfl, if_pos hs.1]
 exact ⟨rfl, ⟨hs.2, fget_fput_same h.cm.nd _ _, rfl⟩, rfl⟩
end Go.Proofs.YtlcnhpjggjgnpaaGreatDoor
