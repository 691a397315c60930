/- The contracts of the disk's small functions. -/
import Derived.Test.YtlinkpjneehnbaaDisk
namespace Go.Proofs.Ytlinkpjneehnbaa
open Go.RowKit Go.MapKept
open Go.ChangeMaps (setBlock)

/-- The call returns v, in the world w2. -/
def Runs (f : FuncId) (args : Array Value) (w : World) (v : Value) (w2 : World) : Prop := Calls Try.prog f args w fun e w' => e = .returned v ∧ w2 = w'
theorem Runs.out {f : FuncId} {args : Array Value} {w w2 : World} {v : Value} (h : Runs f args w v w2) : Calls Try.prog f args w fun e w' => e = .returned v ∧ w2 = w' := h

def upOf (m : DM) : Int := if m.down then 5 else 0

theorem up_nil (w : World) : Calls Try.prog 73 #[.pointer none] w fun e w' => e = .returned (.int .i64 2) ∧ w = w' := by
  go_enter Try.func73, Try.ntmps73
  go_wp2
  go_ret
  exact ⟨rfl, rfl⟩

theorem up_raw {w : World} {d : Nat} (b : Bool) (c5 : w.cell? ⟨d, 5, none⟩ = some (.bool b)) : Calls Try.prog 73 #[.pointer (some ⟨d, 0, none⟩)] w fun e w' => e = .returned (.int .i64 (if b then 5 else 0)) ∧ w = w' := by
  cases b
  all_goals
    go_enter Try.func73, Try.ntmps73
    go_wp2
    go_ret
    exact ⟨rfl, rfl⟩
theorem up_calls {F : Nat → Prop} {w : World} {d : Nat} {m : DM} (h : DiskIs F w d m) : Calls Try.prog 73 #[.pointer (some ⟨d, 0, none⟩)] w fun e w' => e = .returned (.int .i64 (upOf m)) ∧ w = w' := by
  obtain ⟨bn, bs, vl, h⟩ := h
  exact up_raw m.down h.cells.c5

def isName (s : ByteArray) : Bool := !s.toList.isEmpty && decide ((s.size : Int) ≤ 160)

theorem isname_raw (s : ByteArray) (w : World) (b c : Bool) (hb : s.toList.isEmpty = b) (hc : decide ((s.size : Int) ≤ 160) = c) : Calls Try.prog 52 #[.string s] w fun e w' => e = .returned (.bool (!b && c)) ∧ w = w' := by
  go_enter Try.func52, Try.ntmps52
  cases b <;> cases c
  all_goals go_wp2
  all_goals go_ret
  all_goals exact ⟨by simp, rfl⟩
theorem isname_calls (s : ByteArray) (w : World) : Calls Try.prog 52 #[.string s] w fun e w' => e = .returned (.bool (isName s)) ∧ w = w' := isname_raw s w _ _ rfl rfl

/-- What there() answers. -/
def thereOf (m : DM) (n : ByteArray) : Int := if m.down then 5 else if (fget m.now n).isSome then 0 else 6

theorem there_raw (w : World) (d bn : Nat) (n : ByteArray) (v : Value) (b dn : Bool) (c1 : w.cell? ⟨d, 1, none⟩ = some (.map (some bn)))
    (hl : Sem.run Try.prog (Instr.lookup 122 (Value.map (some bn)) (Value.string n) true) w = Result.ok (Value.tuple #[v, Value.bool b]) w)
    (hup : Calls Try.prog 73 #[.pointer (some ⟨d, 0, none⟩)] w fun e w' => e = .returned (.int .i64 (if dn then 5 else 0)) ∧ w = w') :
    Calls Try.prog 75 #[.pointer (some ⟨d, 0, none⟩), .string n] w fun e w' => e = .returned (.int .i64 (if dn then 5 else if b then 0 else 6)) ∧ w = w' := by
  cases dn <;> cases b
  all_goals
    simp only [Bool.false_eq_true, if_false, if_true] at hup ⊢
    have Hup := Lib.hid hup
    clear hup
    go_enter Try.func75, Try.ntmps75
    go_wp2_with (go_at_call 73; refine Hup.out.mono ?_; rintro e w' ⟨rfl, rfl⟩)
    go_ret
    exact ⟨rfl, rfl⟩
theorem there_nil (n : ByteArray) (w : World) : Calls Try.prog 75 #[.pointer none, .string n] w fun e w' => e = .returned (.int .i64 2) ∧ w = w' := by
  go_enter Try.func75, Try.ntmps75
  go_wp2_with (go_at_call 73; refine (up_nil _).mono ?_; rintro e w' ⟨rfl, rfl⟩)
  go_ret
  exact ⟨rfl, rfl⟩

theorem look_now {F : Nat → Prop} {w : World} {b : Nat} {fs : FS} (h : MapFs F w b fs) (n : ByteArray) : ∃ v, Bytes F w v ((fget fs n).getD []) ∧ (fget fs n = none → v = .slice none 0 0) ∧
    ∀ c, (Instr.lookup 122 (.map (some b)) (.string n) c).run Try.prog w = .ok (if c then .tuple #[v, .bool (fget fs n).isSome] else v) w :=
  h.look (P := Try.prog) Try.underlying122 Try.underlying9 (zero_bytes w) n

theorem there_calls {F : Nat → Prop} {w : World} {d : Nat} {m : DM} (h : DiskIs F w d m) (n : ByteArray) : Calls Try.prog 75 #[.pointer (some ⟨d, 0, none⟩), .string n] w fun e w' => e = .returned (.int .i64 (thereOf m n)) ∧ w = w' := by
  have hup := up_calls h
  obtain ⟨bn, bs, vl, h⟩ := h
  obtain ⟨v, _, _, hlook⟩ := look_now h.now n
  exact there_raw w d bn n v _ m.down h.cells.c1 (hlook true) hup

/-- The disk's block written, the rest as it was. -/
theorem DiskAt.reset {F : Nat → Prop} {w w' : World} {d bn bs : Nat} {vl : Value} {m m' : DM} (h : DiskAt F w d bn bs vl m)
    (hd : w'.heap[d]? = some (.cells #[.int .i64 m'.room, .map (some bn), .map (some bs), vl, .int .i64 m'.fuse, .bool m'.down] 125 (0, 0)))
    (hne : ∀ b, b ≠ d → w'.heap[b]? = w.heap[b]?) (h1 : m'.now = m.now) (h2 : m'.sure = m.sure) (h3 : m'.loose = m.loose) : DiskAt F w' d bn bs vl m' := by
  have hu : KeepU8 F w w' := fun g cs fz hF hb => by
    rw [hne g (fun e => by subst e; rw [h.blk] at hb; simp at hb)]
    exact hb
  have hdn : bn ≠ d := fun e => by subst e; exact h.now.notU8 _ _ _ h.blk
  have hds : bs ≠ d := fun e => by subst e; exact h.sure.notU8 _ _ _ h.blk
  refine ⟨hd, h.fd, h.fbn, h.fbs, h.ne, ?_, ?_, ?_, ?_⟩
  · rw [h1]; exact h.now.keep (hne _ hdn) hu (fun _ h _ => h)
  · rw [h2]; exact h.sure.keep (hne _ hds) hu (fun _ h _ => h)
  · rw [h3]
    obtain ⟨ps, k1, k2, k3⟩ := h.loose
    refine h.loose.keep hu (fun b hb => hne b (fun e => ?_)) (fun _ h _ => h)
    subst e
    rcases k2.2 with ⟨e, _⟩ | ⟨g, cap, cur, e, _, hg, _⟩
    · rw [e] at hb; cases hb
    · rw [e] at hb; cases hb
      rw [h.blk] at hg; simp at hg
  · intro b hb
    by_cases e : b = d
    · subst e; exact lt_of_heap hd
    · have := h.lt b hb
      have e' := hne b e
      rw [Array.getElem?_eq_getElem this] at e'
      exact (Array.getElem?_eq_some_iff.1 e').1

/-- What a step needs. -/
def spendOf (m : DM) : Int × DM := if m.fuse = 0 then (5, { m with down := true }) else if 0 < m.fuse then (0, { m with fuse := m.fuse - 1 }) else (0, m)

theorem spend_raw (w : World) (d : Nat) (f : Int) (v5 : Value) (c4 : w.cell? ⟨d, 4, none⟩ = some (.int .i64 f)) (c5 : w.cell? ⟨d, 5, none⟩ = some v5) (f4 : w.frozen? ⟨d, 4, none⟩ = false) (f5 : w.frozen? ⟨d, 5, none⟩ = false) (hf : f ≤ 9223372036854775807) :
    Calls Try.prog 77 #[.pointer (some ⟨d, 0, none⟩)] w fun e w' => e = .returned (.int .i64 (if f = 0 then 5 else 0)) ∧ w' = if f = 0 then w.setCell ⟨d, 5, none⟩ (.bool true) else if 0 < f then w.setCell ⟨d, 4, none⟩ (.int .i64 (f - 1)) else w := by
  by_cases h0 : f = 0
  · subst h0
    simp only [if_true]
    go_enter Try.func77, Try.ntmps77
    go_wp2
    go_ret
    exact ⟨rfl, rfl⟩
  · have hb : (f == 0) = false := by simpa using h0
    by_cases h1 : 0 < f
    · have hb' : (decide (f = 0)) = false := by simpa using h0
      go_enter Try.func77, Try.ntmps77
      go_wp2
      go_ret
      exact ⟨rfl, rfl⟩
    · have hb' : (decide (f = 0)) = false := by simpa using h0
      go_enter Try.func77, Try.ntmps77
      go_wp2
      go_ret
      exact ⟨rfl, rfl⟩

theorem spend_calls {F : Nat → Prop} {w : World} {d bn bs : Nat} {vl : Value} {m : DM} (h : DiskAt F w d bn bs vl m) (hf : m.fuse ≤ 9223372036854775807) :
    Calls Try.prog 77 #[.pointer (some ⟨d, 0, none⟩)] w fun e w' => e = .returned (.int .i64 (spendOf m).1) ∧ DiskAt F w' d bn bs vl (spendOf m).2 ∧ Keeps (fun b => b = d) w w' ∧ w'.heap.size = w.heap.size := by
  refine (spend_raw w d m.fuse _ h.cells.c4 h.cells.c5 (h.cells.f0 4) (h.cells.f0 5) hf).mono ?_
  rintro e w' ⟨rfl, rfl⟩
  unfold spendOf
  by_cases h0 : m.fuse = 0
  · simp only [h0, if_true]
    refine ⟨trivial, h.reset ?_ (fun b hb => Below.heap_setCell _ _ _ _ hb) rfl rfl rfl, (Keeps.refl (fun b => b = d) w).setCell (p := ⟨d, 5, none⟩) (fun _ => rfl) _, by simp⟩
    rw [heap_setCell_eq h.blk]; simp [h0]
  · by_cases h1 : 0 < m.fuse
    · simp only [h0, h1, if_true, if_false]
      refine ⟨trivial, h.reset ?_ (fun b hb => Below.heap_setCell _ _ _ _ hb) rfl rfl rfl, (Keeps.refl (fun b => b = d) w).setCell (p := ⟨d, 4, none⟩) (fun _ => rfl) _, by simp⟩
      rw [heap_setCell_eq h.blk]; simp
    · simp only [h0, h1, if_false]
      exact ⟨trivial, h, Keeps.refl _ _, trivial⟩

end Go.Proofs.Ytlinkpjneehnbaa
