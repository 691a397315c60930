/- Law 15: opened. -/
import Derived.Test.YtaeabdghlkdkjaaGreatGOpen
import Derived.Test.YtaeabdghlkdkjaaGreatTAwk
namespace Go.Proofs.YtaeabdghlkdkjaaGreat
set_option linter.unusedVariables false
open Go.RowKit Go.MapKept

theorem topen_code (m : DM) (nm : ByteArray) : ((tOpenOf m nm).tab = none → (tOpenOf m nm).code ≠ 0) ∧ ∀ x, (tOpenOf m nm).tab = some x → (tOpenOf m nm).code = 0 := by
  have h0 := (open_res m nm).1
  unfold tOpenOf
  cases h : (openOf m nm).res with
  | none => exact ⟨fun _ => h0 h, fun x e => by cases e⟩
  | some s =>
    dsimp only
    cases h2 : tabOf s.1 [] with
    | none => exact ⟨fun _ => (by decide : (200 : Int) ≠ 0), fun x e => by cases e⟩
    | some fs => exact ⟨(fun e => by cases e), fun _ _ => rfl⟩
/-- A log in a disk's table, or why not. -/
def OpenedPost (w : World) (d : Nat) (nm : ByteArray) (rs : List (Res w.heap.size)) (r : TabR) (e : Ending) (w' : World) : Prop :=
  (r.tab = none ∧ e = .returned (.tuple #[.pointer none, .pointer none, .int .i64 r.code]) ∧ Own w w' (rDisk w.heap.size d r.m :: rs)) ∨
  (∃ (size : Nat) (fs : FS) (j t b : Nat), r.tab = some (size, fs) ∧ gOpenOf fs = none ∧ e = .returned (.tuple #[.pointer none, .pointer (some ⟨t, 0, none⟩), .int .i64 200]) ∧ Own w w' (tRes w.heap.size d j t b nm ⟨r.m, size, fs, false⟩ ++ rs)) ∨
  ∃ (size : Nat) (fs : FS) (j t b g : Nat) (ve vl : Value) (es : List (List UInt8)), r.tab = some (size, fs) ∧ gOpenOf fs = some es ∧ e = .returned (.tuple #[.pointer (some ⟨g, 0, none⟩), .pointer (some ⟨t, 0, none⟩), .int .i64 0]) ∧ Own w w' (tRes w.heap.size d j t b nm ⟨r.m, size, fs, false⟩ ++ (gRes w.heap.size g t ve vl es ++ rs))
set_option maxRecDepth 100000 in
theorem opened15_calls {w w0 : World} {d : Nat} {m : DM} {rs : List (Res w.heap.size)} (h : Own w w0 (rDisk w.heap.size d m :: rs)) {n : Nat} (hg : Good m n) (hn : n < 549755813888)
    (hfs : ∀ size fs, (tOpenOf m nmT).tab = some (size, fs) → FSorted fs ∧ (∀ p ∈ fs, p.1.size ≤ maxLen) ∧ fs.length ≤ 1099511627775 ∧ ∀ p ∈ fs, p.2.length ≤ 70368744177662) :
    Calls Tryz.prog 43 #[.pointer (some ⟨d, 0, none⟩)] w0 (OpenedPost w d nmT rs (tOpenOf m nmT)) := by
  have hop := topen_calls h hg hn nmT
  have hcd := topen_code m nmT
  generalize tOpenOf m nmT = R at *
  have HOP := Lib.hid hop
  unfold nmT at HOP
  have HFS := Lib.hid hfs
  clear h hg hn hop hfs
  go_enter Tryz.func43, Tryz.ntmps43
  go_wp2_with fail
  refine HOP.out.mono ?_
  rintro e w1 (⟨hr, rfl, h1⟩ | ⟨size, fs, j, t, b, hr, rfl, h1⟩)
  · have hc : (R.code != 0) = true := by simpa using hcd.1 hr
    have HF := Lib.hid (show OpenedPost w d nmT rs R (.returned (.tuple #[.pointer none, .pointer none, .int .i64 R.code])) w1 from .inl ⟨hr, rfl, h1⟩)
    clear hr h1 hcd HFS HOP
    go_wp2_with fail
    go_ret3
    exact HF.out
  · have hc : R.code = 0 := hcd.2 _ hr
    obtain ⟨f1, f2, f3, f4⟩ := HFS.out _ _ hr
    have hgo := gOpen_calls (T := ⟨R.m, size, fs, false⟩) (nm := nmT) h1 f1 f2 f3 f4
    rw [hc]
    have HGO := Lib.hid hgo
    have HR := Lib.hid hr
    clear f1 f2 f3 f4 hgo hr h1 hcd HFS HOP hc
    go_wp2_with fail
    refine HGO.out.mono ?_
    cases hgo : gOpenOf fs with
    | none =>
      intro e w2 hp
      unfold GOpenPost at hp
      dsimp only at hp
      rw [hgo] at hp
      obtain ⟨rfl, h2⟩ := hp
      have HF := Lib.hid (show OpenedPost w d nmT rs R (.returned (.tuple #[.pointer none, .pointer (some ⟨t, 0, none⟩), .int .i64 200])) w2 from .inr (.inl ⟨size, fs, j, t, b, HR.out, hgo, rfl, h2⟩))
      clear h2 hgo HGO HR
      go_wp2_with fail
      go_ret3
      exact HF.out
    | some es =>
      intro e w2 hp
      unfold GOpenPost at hp
      dsimp only at hp
      rw [hgo] at hp
      obtain ⟨g, ve, vl, rfl, h2⟩ := hp
      have HF := Lib.hid (show OpenedPost w d nmT rs R (.returned (.tuple #[.pointer (some ⟨g, 0, none⟩), .pointer (some ⟨t, 0, none⟩), .int .i64 0])) w2 from .inr (.inr ⟨size, fs, j, t, b, g, ve, vl, es, HR.out, hgo, rfl, h2⟩))
      clear h2 hgo HGO HR
      go_wp2_with fail
      go_ret3
      exact HF.out
end Go.Proofs.YtaeabdghlkdkjaaGreat
