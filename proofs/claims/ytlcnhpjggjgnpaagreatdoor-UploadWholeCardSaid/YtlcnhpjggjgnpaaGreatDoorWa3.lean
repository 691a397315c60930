/- A part of the proof. -/
import Derived.Test.YtlcnhpjggjgnpaaGreatDoorWa2
import Derived.Shelf.SlMaps.Clone
import Derived.Lib.SlBytesConst
import Derived.Laws.IdiomStrings
import Derived.Lib.BufferRead
namespace Go.Proofs.YtlcnhpjggjgnpaaGreatDoor
open Go.RowKit Go.MapKept
open Go.ChangeMaps (setBlock)
def newOf (room : Int) : DM := { room := room, now := [], sure := [], loose := [], fuse := -1, down := false }
theorem new_raw (w : World) (room : Int) (h0 : 0 ≤ room) (h1 : room ≤ 67108864) :
    Runs 17 #[.int .i64 room] w (.tuple #[.pointer (some ⟨w.heap.size + 2, 0, none⟩), .int .i64 0])
      (((w.alloc (.map #[] 0)).alloc (.map #[] 0)).alloc (.cells #[.int .i64 room, .map (some w.heap.size), .map (some (w.heap.size + 1)), .slice none 0 0, .int .i64 (-1), .bool false] 135)) := by
  have hmm := @run_makeMap Tryz.prog
  unfold Runs
  go_enter Tryz.func17, Tryz.ntmps17
  go_wp2
  go_ret2
  exact ⟨rfl, rfl⟩
theorem new_runs (w : World) (room : Int) (h0 : 0 ≤ room) (h1 : room ≤ 67108864) :
    ∃ d w', Runs 17 #[.int .i64 room] w (.tuple #[.pointer (some ⟨d, 0, none⟩), .int .i64 0]) w' ∧ DiskIs (Ext (fun _ => False) w w') w' d (newOf room) ∧ Keeps (fun _ => False) w w' := by
  have hmap : ∀ (F : Nat → Prop) (w : World) (b : Nat), w.heap[b]? = some (.map #[] 0) → MapFs F w b [] := fun F w b hb => ⟨#[], 0, [], hb, stamped_empty 0, trivial, List.Perm.refl _⟩
  refine ⟨_, _, new_raw w room h0 h1, ⟨w.heap.size, w.heap.size + 1, .slice none 0 0, ?_, .inr ⟨by omega, by simp⟩, .inr ⟨by omega, by simp <;> omega⟩, .inr ⟨by omega, by simp <;> omega⟩, by omega, hmap _ _ _ ?_, hmap _ _ _ ?_, ⟨[], trivial, World.ownsRow_nil _ _ _ _, fun b hb => by cases hb⟩, ?_⟩, (((Keeps.refl _ w).alloc _).alloc _).alloc _⟩
  · have e2 : w.heap.size + 2 = ((w.alloc (.map #[] 0)).alloc (.map #[] 0)).heap.size := by simp
    rw [e2]
    exact heap_alloc_new ((w.alloc _).alloc _) _
  · rw [Below.heap_alloc _ _ _ (by simp; omega), Below.heap_alloc _ _ _ (by simp)]; exact heap_alloc_new w _
  · have e2 : w.heap.size + 1 = (w.alloc (.map #[] 0)).heap.size := by simp
    rw [Below.heap_alloc _ _ _ (by simp), e2]; exact heap_alloc_new (w.alloc _) _
  · intro b hb
    rcases hb with hb | hb
    · exact hb.elim
    · exact hb.2
end Go.Proofs.YtlcnhpjggjgnpaaGreatDoor
namespace Go.Proofs.YtlcnhpjggjgnpaaGreatDoor
open Go.RowKit Go.MapKept
open Go.ChangeMaps (setBlock)
def CInv (F : Nat → Prop) (w wr : World) (bs : Nat) (fs : FS) : Prop := Keeps (fun b => b = bs) w wr ∧ MapFs (fun i => F i ∨ w.heap.size ≤ i) wr bs fs
theorem crash_step {F : Nat → Prop} {w wr : World} {d bn bs : Nat} {vl : Value} {m : DM} {fs : FS} (hA : DiskAt F w d bn bs vl m) (hI : CInv F w wr bs fs) (c : Ch) {pv : Value} (hp : Bytes F w pv c.p) (hfit : Fits fs c) :
    ∃ w2, Runs 77 #[.map (some bs), .agg #[.int .i64 c.kind, .string c.a, .string c.b, pv]] (wr.alloc (.cells #[.int .i64 c.kind, .string c.a, .string c.b, pv] 166)).drew (.tuple #[]) w2 ∧ CInv F w w2 bs (doCh fs c) := by
  obtain ⟨hk, hm⟩ := hI
  have hz := hk.size
  have h1 : MapFs (fun i => F i ∨ w.heap.size ≤ i) (wr.alloc (.cells #[.int .i64 c.kind, .string c.a, .string c.b, pv] 166)).drew bs fs := hm.keep (Below.heap_alloc _ _ _ hm.lt) ((KeepU8.refl _ _).alloc _).drew (fun _ h _ => h)
  have hku : KeepU8 F w wr := KeepU8.of_keeps hk (fun g cs fz _ e hg => by subst e; exact hA.sure.notU8 _ _ _ hg)
  have hp1 : Bytes (fun i => F i ∨ w.heap.size ≤ i) (wr.alloc (.cells #[.int .i64 c.kind, .string c.a, .string c.b, pv] 166)).drew pv c.p := hp.keep (hku.alloc _).drew (fun _ h _ => .inl h)
  obtain ⟨w2, hr, h2, k2⟩ := do_calls h1 c hp1 hfit
  refine ⟨w2, hr, ?_, h2.keep rfl (KeepU8.refl _ _) (fun b hb _ => by rcases hb with hb | hb; exact hb; exact .inr (by simp at hb; omega))⟩
  exact ((hk.alloc _).drew).trans k2 (fun _ _ e => e)
theorem chCells_get : ∀ {ps : List Value} {cs : List Ch} {k : Nat} {p : Value} {c : Ch}, ps.length = cs.length → ps[k]? = some p → cs[k]? = some c →
    (chCells ps cs)[k * 4]? = some (.int .i64 c.kind) ∧ (chCells ps cs)[k * 4 + 1]? = some (.string c.a) ∧ (chCells ps cs)[k * 4 + 2]? = some (.string c.b) ∧ (chCells ps cs)[k * 4 + 3]? = some p
  | q :: ps, d :: cs, 0, p, c, _, hp, hc => by simp at hp hc; subst hp; subst hc; simp [chCells]
  | q :: ps, d :: cs, k + 1, p, c, hl, hp, hc => by
    have := chCells_get (ps := ps) (cs := cs) (k := k) (by simpa using hl) (by simpa using hp) (by simpa using hc)
    rw [show (k + 1) * 4 = k * 4 + 4 by omega]
    simpa [chCells] using this
  | [], _, _, _, _, _, hp, _ => by simp at hp
  | _ :: _, [], _, _, _, hl, _, _ => by simp at hl
theorem chs_cells {F : Nat → Prop} {w : World} {g n cap : Nat} {cs : List Ch} (h : ChsAt F w (.slice (some ⟨g, 0, none⟩) n cap) cs) {k : Nat} {c : Ch} (hc : cs[k]? = some c) :
    ∃ pa pc, Bytes F w (.slice pa c.p.length pc) c.p ∧ ∀ w' : World, w'.heap[g]? = w.heap[g]? →
      w'.cell? ⟨g, k * 4, none⟩ = some (.int .i64 c.kind) ∧ w'.cell? ⟨g, k * 4 + 1, none⟩ = some (.string c.a) ∧ w'.cell? ⟨g, k * 4 + 2, none⟩ = some (.string c.b) ∧ w'.cell? ⟨g, k * 4 + 3, none⟩ = some (.slice pa c.p.length pc) := by
  obtain ⟨ps, h1, h2, h3⟩ := h
  obtain ⟨p, hp, hb⟩ := h1.get' hc
  obtain ⟨pa, pc, rfl, _, _⟩ := hb.form
  refine ⟨pa, pc, hb, fun w' hw => ?_⟩
  obtain ⟨e0, e1, e2, e3⟩ := chCells_get h1.length hp hc
  have hcell := h2.cells (g := g) rfl
  have conv : ∀ j u, (chCells ps cs)[j]? = some u → w'.cell? ⟨g, j, none⟩ = some u := fun j u hj => by
    have := hcell j u hj
    rw [Addr.add_lit, Nat.zero_add] at this
    rw [World.cell?_of_block (w := w) (a := ⟨g, j, none⟩) hw]; exact this
  exact ⟨conv _ _ e0, conv _ _ e1, conv _ _ e2, conv _ _ e3⟩
end Go.Proofs.YtlcnhpjggjgnpaaGreatDoor
namespace Go.Proofs.YtlcnhpjggjgnpaaGreatDoor
open Go.RowKit Go.MapKept
open Go.ChangeMaps (setBlock)
def CrashRel (F : Nat → Prop) (w : World) (bs : Nat) (m : DM) (K : Nat) (i : Value) (wr : World) : Prop :=
  ∃ k : Nat, k ≤ K ∧ i = .int .i64 (k : Int) ∧ CInv F w wr bs ((m.loose.take k).foldl doCh m.sure)
theorem cells_of_cinv {F : Nat → Prop} {w wr : World} {d bn bs : Nat} {vl : Value} {m : DM} {fs : FS} (hA : DiskAt F w d bn bs vl m) (hI : CInv F w wr bs fs) :
    wr.cell? ⟨d, 2, none⟩ = some (.map (some bs)) ∧ wr.cell? ⟨d, 3, none⟩ = some vl ∧ d < wr.heap.size := by
  have hds : d ≠ bs := fun e => by subst e; exact hA.sure.notU8 _ _ _ hA.blk
  have hd3 : wr.heap[d]? = _ := hI.1.at hA.blk hds
  exact ⟨cell_at hd3 rfl, cell_at hd3 rfl, lt_of_heap hd3⟩
theorem row_of_cinv {F : Nat → Prop} {w wr : World} {d bn bs g n cap : Nat} {m : DM} {fs : FS} (hA : DiskAt F w d bn bs (.slice (some ⟨g, 0, none⟩) n cap) m) (hI : CInv F w wr bs fs) : wr.heap[g]? = w.heap[g]? := by
  obtain ⟨_, _, h2, _⟩ := hA.loose
  obtain ⟨cur, hg⟩ := ownsRow_type h2 (b := g) rfl
  exact hI.1.block g (lt_of_heap hg) (fun e => by subst e; exact hA.sure.notU8 _ _ _ hg)
end Go.Proofs.YtlcnhpjggjgnpaaGreatDoor
namespace Go.Proofs.YtlcnhpjggjgnpaaGreatDoor
open Go.RowKit Go.MapKept
theorem fget_perm {l fs : FS} (hp : l.Perm fs) (hn : FNodup fs) (n : ByteArray) : fget l n = fget fs n := by
  have hnl : FNodup l := (hp.map (fun q : ByteArray × List UInt8 => q.1)).nodup_iff.2 hn
  cases h : fget fs n with
  | some x => exact fget_mem hnl (hp.mem_iff.2 (mem_of_fget h))
  | none =>
    cases h' : fget l n with
    | none => rfl
    | some x => rw [fget_mem hn (hp.mem_iff.1 (mem_of_fget h'))] at h; cases h
theorem fget_cons_same (fs : FS) (n : ByteArray) (x : List UInt8) : fget ((n, x) :: fs) n = some x := by simp [fget]
theorem fget_cons_other (fs : FS) (n k : ByteArray) (x : List UInt8) (h : n ≠ k) : fget ((n, x) :: fs) k = fget fs k := by
  unfold fget
  rw [List.find?_cons]
  have : decide (n = k) = false := by simpa using h
  simp [this]
theorem fget_fdel_same (fs : FS) (n : ByteArray) : fget (fdel fs n) n = none := fget_none (fdel_not_mem fs n)
theorem fget_fdel_other (fs : FS) (n k : ByteArray) (h : n ≠ k) : fget (fdel fs n) k = fget fs k := by
  induction fs with
  | nil => rfl
  | cons p fs ih =>
    obtain ⟨a, x⟩ := p
    by_cases ha : a = n
    · subst ha
      rw [fget_cons_other _ _ _ _ h]
      simpa [fdel] using ih
    · have e : fdel ((a, x) :: fs) n = (a, x) :: fdel fs n := by simp [fdel, ha]
      rw [e]
      by_cases hk : a = k
      · subst hk; rw [fget_cons_same, fget_cons_same]
      · rw [fget_cons_other _ _ _ _ hk, fget_cons_other _ _ _ _ hk, ih]
theorem fget_fput_same {fs : FS} (hn : FNodup fs) (n : ByteArray) (x : List UInt8) : fget (fput fs n x) n = some x := by
  exact (fget_perm (fins_perm (n, x) (fdel fs n)).symm (hn.fput n x) n).symm.trans (fget_cons_same _ _ _)
theorem fget_fput_other {fs : FS} (hn : FNodup fs) (n k : ByteArray) (x : List UInt8) (h : n ≠ k) : fget (fput fs n x) k = fget fs k := by
  exact (fget_perm (fins_perm (n, x) (fdel fs n)).symm (hn.fput n x) k).symm.trans ((fget_cons_other _ _ _ _ h).trans (fget_fdel_other _ _ _ h))
theorem used_fdel : ∀ {fs : FS} (_ : FNodup fs) (n : ByteArray), used (fdel fs n) + ((fget fs n).getD []).length = used fs
  | [], _, _ => rfl
  | (a, x) :: fs, h, n => by
    have h' : a ∉ fs.map (·.1) ∧ (fs.map (·.1)).Nodup := List.nodup_cons.1 h
    by_cases ha : a = n
    · subst ha
      have e : fdel ((a, x) :: fs) a = fs := by
        have : fdel ((a, x) :: fs) a = fdel fs a := by simp [fdel]
        rw [this, fdel_absent h'.1]
      rw [e, fget_cons_same]
      simp [used]; omega
    · have e : fdel ((a, x) :: fs) n = (a, x) :: fdel fs n := by simp [fdel, ha]
      have ih := used_fdel (fs := fs) h'.2 n
      rw [e, fget_cons_other _ _ _ _ ha]
      simp only [used]
      omega
theorem used_fput {fs : FS} (hn : FNodup fs) (n : ByteArray) (x : List UInt8) : used (fput fs n x) + ((fget fs n).getD []).length = used fs + x.length := by
  have h1 := used_perm (fins_perm (n, x) (fdel fs n))
  have h2 := used_fdel hn n
  unfold fput
  rw [h1]
  simp only [used]
  omega
theorem used_get {fs : FS} (hn : FNodup fs) (n : ByteArray) : ((fget fs n).getD []).length ≤ used fs := by
  have := used_fdel hn n
  omega
theorem DiskIs.nodup {F : Nat → Prop} {w : World} {d : Nat} {m : DM} (h : DiskIs F w d m) : FNodup m.now := by
  obtain ⟨bn, bs, vl, h⟩ := h
  exact h.now.nodup
structure Calm (m : DM) : Prop where
  down : m.down = false
  fuse : m.fuse = -1
theorem Calm.does {m : DM} (h : Calm m) (c : Ch) : doesOf m c = (0, { m with now := doCh m.now c, loose := m.loose ++ [c] }) := by
  have hf := h.fuse
  simp [doesOf, spendOf, hf]
theorem Calm.there {m : DM} (h : Calm m) {n : ByteArray} (hg : (fget m.now n).isSome = true) : thereOf m n = 0 := by
  simp [thereOf, h.down, hg]
theorem Calm.create {m : DM} (h : Calm m) {n : ByteArray} (hn : isName n = true) (hg : fget m.now n = none) (hl : (m.now.length : Int) < 4096) :
    createOf m n = (0, { m with now := fput m.now n [], loose := m.loose ++ [⟨0, n, ⟨#[]⟩, []⟩] }) := by
  have hl' : ¬ ((4096 : Int) ≤ (m.now.length : Int)) := by omega
  unfold createOf
  rw [h.does]
  simp only [h.down, hn, hg, hl', Bool.false_eq_true, if_false, Bool.not_true, Option.isSome_none, decide_false]
  simp [doCh]
theorem Calm.append {m : DM} (h : Calm m) {n : ByteArray} (hg : (fget m.now n).isSome = true) (p : List UInt8) (hp : (p.length : Int) ≤ 1048576) :
    appendOf m n p = if m.room - (used m.now : Int) < (p.length : Int) then (4, m) else (0, { m with now := fput m.now n ((fget m.now n).getD [] ++ p), loose := m.loose ++ [⟨1, n, ⟨#[]⟩, p⟩] }) := by
  have hp' : ¬ ((1048576 : Int) < (p.length : Int)) := by omega
  unfold appendOf
  rw [h.there hg, h.does]
  simp only [if_true, hp', if_false]
  simp [doCh]
end Go.Proofs.YtlcnhpjggjgnpaaGreatDoor
namespace Go.Proofs.YtlcnhpjggjgnpaaGreatDoor
open Go.RowKit Go.MapKept
end Go.Proofs.YtlcnhpjggjgnpaaGreatDoor
namespace Go.Proofs.YtlcnhpjggjgnpaaGreatDoor
open Go.RowKit Go.MapKept
theorem wpList_make_run {P : Program} {w : World} {ops : Array Oper} {o : Oper} {rest : List Oper} {a : Act} {Q : Exit → Act → World → Prop}
    (hg : o.guard = none) (l c : Operand) (t : TypeId) (hop : o.op = Op.makeSlice t l c)
    {lv cv v' : Value} {w' : World} (hl : a.eval l = lv) (hc : a.eval c = cv) (hrun : (Instr.makeSlice t lv cv).run P w = .ok v' w')
    (hK : wpList P ops Q rest (a.put o.dst v') w') : wpList P ops Q (o :: rest) a w := by
  refine wpList_plain hg fun K hK' => ?_
  unfold Oper.wp
  simp [execOp, hop, hl, hc, hrun, Result.andThen]
  exact hK' _ _ hK
end Go.Proofs.YtlcnhpjggjgnpaaGreatDoor
