/- A part of the proof. -/
import Derived.Test.YtlcnhpjggjgnpaaGreatDoorUlaa1
import Derived.Shelf.SlMaps.Clone
import Derived.Lib.SlBytesConst
import Derived.Laws.IdiomStrings
import Derived.Lib.BufferRead
import Derived.Deep.QuietTactic
import Derived.BigQuiet
import Derived.Maps.AppendAt
import Derived.Laws.BitsAllLaws
namespace Go.Proofs.YtlcnhpjggjgnpaaGreatDoor
open Go.RowKit Go.MapKept
open Go.ChangeMaps (setBlock)
set_option maxRecDepth 100000 in
theorem mclone_runs (w : World) (b : Nat) (es : Array MapEntry) (clock : Nat) (hb : w.heap[b]? = some (.map es clock)) :
  Runs 78 #[.map (some b)] w (.map (some w.heap.size)) (w.alloc (.map es clock)) := by
 have hq := fun w => run_eql_map_nil_sl (P := Tryz.prog) w 132 _ _ (some b) Tryz.underlying132
 unfold Runs
 go_enter Tryz.func78, Tryz.ntmps78
 go_wp2
 rw [run_callFunc_extern Tryz.func129 (by kernel_rfl) (by kernel_rfl) (by kernel_rfl) (e := Extern.MapsClone.clone) (by kernel_rfl), run_maps_clone_sl w 132 hb]
 simp only [Result.andThen]
 rw [Oper.upon_value]
 go_wp2
 rw [run_typeAssert_map_sl _ 132 20 _ _ _ Tryz.underlying132]
 simp only [Result.andThen]
 rw [Oper.upon_value]
 go_wp2
 go_ret
 exact ⟨rfl, rfl⟩
theorem MapFs.copy {F : Nat → Prop} {w : World} {b : Nat} {fs : FS} (h : MapFs F w b fs) :
  ∃ w', Runs 78 #[.map (some b)] w (.map (some w.heap.size)) w' ∧ MapFs F w' w.heap.size fs ∧ Keeps (fun _ => False) w w' ∧ w'.heap.size = w.heap.size + 1 := by
 obtain ⟨es, clock, l, hb, hs, hr, hp⟩ := h
 refine ⟨_, mclone_runs w b es clock hb, ⟨es, clock, l, heap_alloc_new w _, hs, ?_, hp⟩, (Keeps.refl _ w).alloc _, by simp⟩
 exact hr.mono (fun e p hep => ⟨hep.1, hep.2.keep ((KeepU8.refl F w).alloc _) (fun _ h _ => h)⟩)
def newOf (room : Int) : DM := { room := room, now := [], sure := [], loose := [], fuse := -1, down := false }
theorem new_raw (w : World) (room : Int) (h0 : 0 ≤ room) (h1 : room ≤ 67108864) :
  Runs 17 #[.int .i64 room] w (.tuple #[.pointer (some ⟨w.heap.size + 2, 0, none⟩), .int .i64 0])
   (((w.alloc (.map #[] 0)).alloc (.map #[] 0)).alloc (.cells #[.int .i64 room, .map (some w.heap.size), .map (some (w.heap.size + 1)), .slice none 0 0, .int .i64 (-1), .bool false] 135)) := by
 have hmm := @run_makeMap Tryz.prog
 unfold Runs
 go_enter Tryz.func17, Tryz.ntmps17
 go_wp2
 go_ret2
 exact ⟨rfl, rfl⟩
theorem new_runs (w : World) (room : Int) (h0 : 0 ≤ room) (h1 : room ≤ 67108864) :
  ∃ d w', Runs 17 #[.int .i64 room] w (.tuple #[.pointer (some ⟨d, 0, none⟩), .int .i64 0]) w' ∧ DiskIs (Ext (fun _ => False) w w') w' d (newOf room) ∧ Keeps (fun _ => False) w w' := by
 have hmap : ∀ (F : Nat → Prop) (w : World) (b : Nat), w.heap[b]? = some (.map #[] 0) → MapFs F w b [] := fun F w b hb => ⟨#[], 0, [], hb, stamped_empty 0, trivial, List.Perm.refl _⟩
 refine ⟨_, _, new_raw w room h0 h1, ⟨w.heap.size, w.heap.size + 1, .slice none 0 0, ?_, .inr ⟨by omega, by simp⟩, .inr ⟨by omega, by simp <;> omega⟩, .inr ⟨by omega, by simp <;> omega⟩, by omega, hmap _ _ _ ?_, hmap _ _ _ ?_, ⟨[], trivial, World.ownsRow_nil _ _ _ _, fun b hb => by cases hb⟩, ?_⟩, (((Keeps.refl _ w).alloc _).alloc _).alloc _⟩
 ·have e2 : w.heap.size + 2 = ((w.alloc (.map #[] 0)).alloc (.map #[] 0)).heap.size := by simp
  rw [e2]
  exact heap_alloc_new ((w.alloc _).alloc _) _
 ·rw [Below.heap_alloc _ _ _ (by simp; omega), Below.heap_alloc _ _ _ (by simp)]; exact heap_alloc_new w _
 ·have e2 : w.heap.size + 1 = (w.alloc (.map #[] 0)).heap.size := by simp
  rw [Below.heap_alloc _ _ _ (by simp), e2]; exact heap_alloc_new (w.alloc _) _
 ·intro b hb
  rcases hb with hb | hb
  ·exact hb.elim
  ·exact hb.2
def CInv (F : Nat → Prop) (w wr : World) (bs : Nat) (fs : FS) : Prop := Keeps (fun b => b = bs) w wr ∧ MapFs (fun i => F i ∨ w.heap.size ≤ i) wr bs fs
theorem crash_step {F : Nat → Prop} {w wr : World} {d bn bs : Nat} {vl : Value} {m : DM} {fs : FS} (hA : DiskAt F w d bn bs vl m) (hI : CInv F w wr bs fs) (c : Ch) {pv : Value} (hp : Bytes F w pv c.p) (hfit : Fits fs c) :
  ∃ w2, Runs 77 #[.map (some bs), .agg #[.int .i64 c.kind, .string c.a, .string c.b, pv]] (wr.alloc (.cells #[.int .i64 c.kind, .string c.a, .string c.b, pv] 166)).drew (.tuple #[]) w2 ∧ CInv F w w2 bs (doCh fs c) := by
 obtain ⟨hk, hm⟩ := hI
 have hz := hk.size
 have h1 : MapFs (fun i => F i ∨ w.heap.size ≤ i) (wr.alloc (.cells #[.int .i64 c.kind, .string c.a, .string c.b, pv] 166)).drew bs fs := hm.keep (Below.heap_alloc _ _ _ hm.lt) ((KeepU8.refl _ _).alloc _).drew (fun _ h _ => h)
 have hku : KeepU8 F w wr := KeepU8.of_keeps hk (fun g cs fz _ e hg => by subst e; exact hA.sure.notU8 _ _ _ hg)
 have hp1 : Bytes (fun i => F i ∨ w.heap.size ≤ i) (wr.alloc (.cells #[.int .i64 c.kind, .string c.a, .string c.b, pv] 166)).drew pv c.p := hp.keep (hku.alloc _).drew (fun _ h _ => .inl h)
 obtain ⟨w2, hr, h2, k2⟩ := do_calls h1 c hp1 hfit
 refine ⟨w2, hr, ?_, h2.keep rfl (KeepU8.refl _ _) (fun b hb _ => by rcases hb with hb | hb; exact hb; exact .inr (by simp at hb; omega))⟩
 exact ((hk.alloc _).drew).trans k2 (fun _ _ e => e)
theorem chCells_get : ∀ {ps : List Value} {cs : List Ch} {k : Nat} {p : Value} {c : Ch}, ps.length = cs.length → ps[k]? = some p → cs[k]? = some c →
  (chCells ps cs)[k * 4]? = some (.int .i64 c.kind) ∧ (chCells ps cs)[k * 4 + 1]? = some (.string c.a) ∧ (chCells ps cs)[k * 4 + 2]? = some (.string c.b) ∧ (chCells ps cs)[k * 4 + 3]? = some p
 | q :: ps, d :: cs, 0, p, c, _, hp, hc => by simp at hp hc; subst hp; subst hc; simp [chCells]
 | q :: ps, d :: cs, k + 1, p, c, hl, hp, hc => by
  have := chCells_get (ps := ps) (cs := cs) (k := k) (by simpa using hl) (by simpa using hp) (by simpa using hc)
  rw [show (k + 1) * 4 = k * 4 + 4 by omega]
  simpa [chCells] using this
 | [], _, _, _, _, _, hp, _ => by simp at hp
 | _ :: _, [], _, _, _, hl, _, _ => by simp at hl
theorem chs_cells {F : Nat → Prop} {w : World} {g n cap : Nat} {cs : List Ch} (h : ChsAt F w (.slice (some ⟨g, 0, none⟩) n cap) cs) {k : Nat} {c : Ch} (hc : cs[k]? = some c) :
  ∃ pa pc, Bytes F w (.slice pa c.p.length pc) c.p ∧ ∀ w' : World, w'.heap[g]? = w.heap[g]? →
   w'.cell? ⟨g, k * 4, none⟩ = some (.int .i64 c.kind) ∧ w'.cell? ⟨g, k * 4 + 1, none⟩ = some (.string c.a) ∧ w'.cell? ⟨g, k * 4 + 2, none⟩ = some (.string c.b) ∧ w'.cell? ⟨g, k * 4 + 3, none⟩ = some (.slice pa c.p.length pc) := by
 obtain ⟨ps, h1, h2, h3⟩ := h
 obtain ⟨p, hp, hb⟩ := h1.get' hc
 obtain ⟨pa, pc, rfl, _, _⟩ := hb.form
 refine ⟨pa, pc, hb, fun w' hw => ?_⟩
 obtain ⟨e0, e1, e2, e3⟩ := chCells_get h1.length hp hc
 have hcell := h2.cells (g := g) rfl
 have conv : ∀ j u, (chCells ps cs)[j]? = some u → w'.cell? ⟨g, j, none⟩ = some u := fun j u hj => by
  have := hcell j u hj
  rw [Addr.add_lit, Nat.zero_add] at this
  rw [World.cell?_of_block (w := w) (a := ⟨g, j, none⟩) hw]; exact this
 exact ⟨conv _ _ e0, conv _ _ e1, conv _ _ e2, conv _ _ e3⟩
def crashed (m : DM) (fs : FS) : DM := { room := m.room, now := fs, sure := fs, loose := [], fuse := -1, down := false }
theorem crash_end {F : Nat → Prop} {w w3 : World} {d bn bs : Nat} {vl : Value} {m : DM} {fs : FS} (hA : DiskAt F w d bn bs vl m) (hI : CInv F w w3 bs fs) :
  ∃ w4, Runs 78 #[.map (some bs)] w3 (.map (some w3.heap.size)) w4 ∧ ((∀ i, i < 6 → ∃ v, w4.cell? ⟨d, i, none⟩ = some v) ∧ ∀ i, w4.frozen? ⟨d, i, none⟩ = false) ∧
   DPost F w d (0, crashed m fs) (.returned (.int .i64 0)) ((((w4.setCell ⟨d, 1, none⟩ (.map (some w3.heap.size))).setCell ⟨d, 3, none⟩ (.slice none 0 0)).setCell ⟨d, 4, none⟩ (.int .i64 (-1))).setCell ⟨d, 5, none⟩ (.bool false)) := by
 obtain ⟨hk, hm⟩ := hI
 obtain ⟨w4, hr, h4, k4, z4⟩ := hm.copy
 have hz := hk.size
 have hds : d ≠ bs := fun e => by subst e; exact hA.sure.notU8 _ _ _ hA.blk
 have hd3 : w3.heap[d]? = _ := hk.at hA.blk hds
 have hd4 : w4.heap[d]? = _ := k4.at hd3 (fun e => e)
 refine ⟨w4, hr, ⟨fun i hi => ⟨_, cell_at hd4 (Array.getElem?_eq_getElem (by simpa using hi))⟩, fun i => free_at hd4 i⟩, rfl, ?_, ?_⟩
 ·have hne : ∀ b, b ≠ d → ((((w4.setCell ⟨d, 1, none⟩ (.map (some w3.heap.size))).setCell ⟨d, 3, none⟩ (.slice none 0 0)).setCell ⟨d, 4, none⟩ (.int .i64 (-1))).setCell ⟨d, 5, none⟩ (.bool false)).heap[b]? = w4.heap[b]? := fun b hb => by
   rw [Below.heap_setCell _ _ _ _ hb, Below.heap_setCell _ _ _ _ hb, Below.heap_setCell _ _ _ _ hb, Below.heap_setCell _ _ _ _ hb]
  have hd5 := heap_setCell_eq (heap_setCell_eq (heap_setCell_eq (heap_setCell_eq hd4 1 (.map (some w3.heap.size))) 3 (.slice none 0 0)) 4 (.int .i64 (-1))) 5 (.bool false)
  have hku : ∀ G, KeepU8 G w4 ((((w4.setCell ⟨d, 1, none⟩ (.map (some w3.heap.size))).setCell ⟨d, 3, none⟩ (.slice none 0 0)).setCell ⟨d, 4, none⟩ (.int .i64 (-1))).setCell ⟨d, 5, none⟩ (.bool false)) := fun G g cs fz _ hg => by
   rw [hne g (fun e => by subst e; rw [hd4] at hg; simp at hg)]; exact hg
  have hlt := hA.lt d hA.fd
  have hlt2 := hA.lt bs hA.fbs
  have hext : ∀ b, (F b ∨ w.heap.size ≤ b) → b < w4.heap.size → Ext F w ((((w4.setCell ⟨d, 1, none⟩ (.map (some w3.heap.size))).setCell ⟨d, 3, none⟩ (.slice none 0 0)).setCell ⟨d, 4, none⟩ (.int .i64 (-1))).setCell ⟨d, 5, none⟩ (.bool false)) b := fun b hb hb2 => by
   rcases hb with hb | hb
   ·exact .inl hb
   ·exact .inr ⟨hb, by simpa using hb2⟩
  refine ⟨w3.heap.size, bs, .slice none 0 0, ?_, .inl hA.fd, hext _ (.inr (by omega)) (by omega), .inl hA.fbs, by omega, ?_, ?_, ⟨[], trivial, World.ownsRow_nil _ _ _ _, fun b hb => by cases hb⟩, ?_⟩
  ·rw [hd5]; simp [crashed]
  ·exact h4.keep (hne _ (by omega)) (hku _) hext
  ·exact (hm.keep (k4.block bs hm.lt (fun e => e)) (KeepU8.of_none k4) (fun _ h _ => h)).keep (hne _ (Ne.symm hds)) (hku _) hext
  ·intro b hb
   rcases hb with hb | hb
   ·have := hA.lt b hb; simp; omega
   ·exact hb.2
 ·have a1 : Keeps F w w3 := hk.mono (fun b _ e => by subst e; exact hA.fbs)
  have a2 : Keeps F w w4 := a1.trans k4 (fun _ _ e => e.elim)
  exact (((a2.setCell (fun _ => hA.fd) _).setCell (fun _ => hA.fd) _).setCell (fun _ => hA.fd) _).setCell (fun _ => hA.fd) _
theorem Bytes.take {F : Nat → Prop} {w : World} {a : Option Addr} {c n : Nat} {l : List UInt8} (h : Bytes F w (.slice a n c) l) (j : Nat) (hj : j ≤ l.length) : Bytes F w (.slice a j c) (l.take j) := by
 have hl : (l.take j).length = j := by simp; omega
 rcases h with ⟨e, rfl⟩ | ⟨g, off, cap, cs, fz, e, hF, hb, h1, h2, h3, h4⟩
 ·simp only [Value.slice.injEq] at e
  obtain ⟨rfl, rfl, rfl⟩ := e
  simp at hj; subst hj
  exact Bytes.nil _ _
 ·simp only [Value.slice.injEq] at e
  obtain ⟨rfl, rfl, rfl⟩ := e
  refine .inr ⟨g, off, c, cs, fz, by rw [hl], hF, hb, by omega, h2, h3, fun i x hx => ?_⟩
  rw [List.getElem?_take] at hx
  split at hx
  ·exact h4 _ _ hx
  ·cases hx
def clampI (n : Int) (most : Nat) : Nat := if n < 0 then 0 else if (most : Int) < n then most else n.toNat
def crashFs (m : DM) (keep part : Int) : FS :=
 let fs := (m.loose.take (clampI keep m.loose.length)).foldl doCh m.sure
 match m.loose[clampI keep m.loose.length]? with
 | some c => if c.kind = 1 then doCh fs { c with p := c.p.take (clampI part c.p.length) } else fs
 | none => fs
def crashOf (m : DM) (keep part : Int) : DM := crashed m (crashFs m keep part)
theorem clampI_le (n : Int) (most : Nat) : clampI n most ≤ most := by
 unfold clampI
 split
 ·omega
 ·split <;> omega
theorem clampI_min (n : Int) (most : Nat) : (if 0 < (if (most : Int) < n then (most : Int) else n) then (if (most : Int) < n then (most : Int) else n) else 0) = ((clampI n most : Nat) : Int) := by
 unfold clampI
 by_cases h1 : n < 0
 ·have h2 : ¬ (most : Int) < n := by omega
  have h3 : ¬ 0 < n := by omega
  simp [h1, h2, h3]
 ·by_cases h2 : (most : Int) < n
  ·simp only [h1, h2, if_true, if_false]
   split <;> omega
  ·simp only [h1, h2, if_false]
   split <;> omega
def CrashRel (F : Nat → Prop) (w : World) (bs : Nat) (m : DM) (K : Nat) (i : Value) (wr : World) : Prop :=
 ∃ k : Nat, k ≤ K ∧ i = .int .i64 (k : Int) ∧ CInv F w wr bs ((m.loose.take k).foldl doCh m.sure)
theorem cells_of_cinv {F : Nat → Prop} {w wr : World} {d bn bs : Nat} {vl : Value} {m : DM} {fs : FS} (hA : DiskAt F w d bn bs vl m) (hI : CInv F w wr bs fs) :
  wr.cell? ⟨d, 2, none⟩ = some (.map (some bs)) ∧ wr.cell? ⟨d, 3, none⟩ = some vl ∧ d < wr.heap.size := by
 have hds : d ≠ bs := fun e => by subst e; exact hA.sure.notU8 _ _ _ hA.blk
 have hd3 : wr.heap[d]? = _ := hI.1.at hA.blk hds
 exact ⟨cell_at hd3 rfl, cell_at hd3 rfl, lt_of_heap hd3⟩
theorem row_of_cinv {F : Nat → Prop} {w wr : World} {d bn bs g n cap : Nat} {m : DM} {fs : FS} (hA : DiskAt F w d bn bs (.slice (some ⟨g, 0, none⟩) n cap) m) (hI : CInv F w wr bs fs) : wr.heap[g]? = w.heap[g]? := by
 obtain ⟨_, _, h2, _⟩ := hA.loose
 obtain ⟨cur, hg⟩ := ownsRow_type h2 (b := g) rfl
 exact hI.1.block g (lt_of_heap hg) (fun e => by subst e; exact hA.sure.notU8 _ _ _ hg)
set_option maxRecDepth 100000 in
set_option maxHeartbeats 1000000 in
theorem crash_some {F : Nat → Prop} {w : World} {d bn bs g n cap : Nat} {m : DM} (hA : DiskAt F w d bn bs (.slice (some ⟨g, 0, none⟩) n cap) m) (hn : n = m.loose.length) (hnc : n ≤ cap) (hcap : 0 < cap) (hcm : (cap : Int) ≤ 9223372036854775807)
  (keep part : Int) (K : Nat) (hK : K = clampI keep n)
  (hfits : ∀ k c, m.loose[k]? = some c → Fits ((m.loose.take k).foldl doCh m.sure) c ∧ ∀ j, Fits ((m.loose.take k).foldl doCh m.sure) { c with p := c.p.take j }) :
  Calls Tryz.prog 30 #[.pointer (some ⟨d, 0, none⟩), .int .i64 keep, .int .i64 part] w (DPost F w d (0, crashOf m keep part)) := by
 have hKn : K ≤ n := by rw [hK]; exact clampI_le _ _
 have hmm := clampI_min keep n
 rw [← hK] at hmm
 obtain ⟨kk, hkk⟩ : ∃ kk, (if (n : Int) < keep then (n : Int) else keep) = kk := ⟨_, rfl⟩
 rw [hkk] at hmm
 have hK' : K = clampI keep m.loose.length := by rw [hK, hn]
 obtain ⟨_, c3, _⟩ := cells_of_cinv hA ⟨Keeps.refl _ w, hA.sure.keep rfl (KeepU8.refl _ _) (fun _ h _ => .inl h)⟩
 have hI0 : CInv F w w bs m.sure := ⟨Keeps.refl _ w, hA.sure.keep rfl (KeepU8.refl _ _) (fun _ h _ => .inl h)⟩
 have hcap0 : ¬ cap = 0 := by omega
 have hi0 : (0 : Int) ≤ K := by omega
 have hi1 : (K : Int) ≤ cap := by omega
 have hi2 : (K : Int) ≤ n := by omega
 have HA := Lib.hid hA
 have HN := Lib.hid hn
 have HK := Lib.hid hK'
 have HF := Lib.hid hfits
 clear hA hn hK hK' hfits hKn hnc hcap
 go_enter Tryz.func30, Tryz.ntmps30
 go_wp2
 go_loopw [27] (fun i wr => CrashRel F w bs m K i wr) (fun i _ => K - (intOf i).toNat)
 case atStart => exact ⟨0, Nat.zero_le _, rfl, hI0⟩
 case round =>
  obtain ⟨k, hk, rfl, hI⟩ := hrel
  obtain ⟨c2', c3', hdl⟩ := cells_of_cinv HA.out hI
  have hrow := row_of_cinv HA.out hI
  clear hI0 c3 hmm
  by_cases hlt : k < K
  ·obtain ⟨c, hc⟩ : ∃ c, m.loose[k]? = some c := ⟨m.loose[k]'(by have := HN.out; omega), List.getElem?_eq_getElem _⟩
   obtain ⟨pa, pc, hp, hcells⟩ := chs_cells HA.out.loose hc
   obtain ⟨e0, e1, e2, e3⟩ := hcells wr hrow
   obtain ⟨w2, hd, hI2⟩ := crash_step HA.out hI c hp (HF.out k c hc).1
   have hI2' : CInv F w w2 bs ((m.loose.take (k + 1)).foldl doCh m.sure) := by
    rw [List.take_add_one, hc]; simpa using hI2
   have HI2 := Lib.hid hI2'
   have j0 : (0 : Int) ≤ k := by omega
   have j1 : (k : Int) < K := by omega
   have a2 : (wr.alloc (.cells #[.int .i64 c.kind, .string c.a, .string c.b, .slice pa c.p.length pc] 166)).cell? ⟨d, 2, none⟩ = some (.map (some bs)) := (World.cell?_alloc_lt wr _ ⟨d, 2, none⟩ hdl).trans c2'
   have hbx := load_change (wr.alloc (.cells #[.int .i64 c.kind, .string c.a, .string c.b, .slice pa c.p.length pc] 166)) wr.heap.size _ _ _ _ (heap_alloc_new _ _)
   have HBX := Lib.hid hbx
   have HA2 := Lib.hid a2
   clear hI hI2 hI2' hcells hrow hp c3' hbx a2
   go_wp2
   have hbx := HBX.out
   have a2 := HA2.out
   generalize wr.alloc (.cells #[.int .i64 c.kind, .string c.a, .string c.b, .slice pa c.p.length pc] 166) = W at hbx a2 hd ⊢
   obtain ⟨b0, b1, b2, b3⟩ := hbx
   clear HBX HA2
   go_still_tail 5, (by kernel_rfl)
   change wpList _ _ _ _ _ W.drew
   go_wp2_with (go_at_call 77; refine hd.out.mono ?_; rintro e w' ⟨rfl, rfl⟩)
   go_roundw
   case rel => exact ⟨k + 1, by omega, by go_num, HI2.out⟩
   case measure => simp [intOf]; omega
  ·obtain rfl : k = K := by omega
   clear hlt
   by_cases hKn : k < n
   ·obtain ⟨c, hc⟩ : ∃ c, m.loose[k]? = some c := ⟨m.loose[k]'(by have := HN.out; omega), List.getElem?_eq_getElem _⟩
    obtain ⟨pa, pc, hp, hcells⟩ := chs_cells HA.out.loose hc
    obtain ⟨e0, e1, e2, e3⟩ := hcells wr hrow
    have j0 : (0 : Int) ≤ k := by omega
    have j1 : (k : Int) < n := by omega
    by_cases hk1 : c.kind = 1
    ·have hfit := (HF.out k c hc).2 (clampI part c.p.length)
     have hcr : crashOf m keep part = crashed m (doCh ((m.loose.take k).foldl doCh m.sure) { c with p := c.p.take (clampI part c.p.length) }) := by
      unfold crashOf crashFs
      rw [← HK.out, hc]
      simp [hk1]
     obtain ⟨ck, ca, cb, cp⟩ := c
     simp only at *
     subst hk1
     have hj := clampI_le part cp.length
     have hjm := clampI_min part cp.length
     generalize clampI part cp.length = j at *
     obtain ⟨pk, hpk⟩ : ∃ pk, (if (cp.length : Int) < part then (cp.length : Int) else part) = pk := ⟨_, rfl⟩
     rw [hpk] at hjm
     have hpcap := hp.form
     obtain ⟨pa', pc', epa, hpc1, hpc2⟩ := hpcap
     simp only [Value.slice.injEq, true_and] at epa
     obtain ⟨rfl, rfl⟩ := epa
     obtain ⟨w2, hd, hI2⟩ := crash_step HA.out hI ⟨1, ca, cb, cp.take j⟩ (hp.take j hj) hfit
     have hbx := load_change (wr.alloc (.cells #[.int .i64 1, .string ca, .string cb, .slice pa j pc] 166)) wr.heap.size _ _ _ _ (heap_alloc_new _ _)
     have a2 : (wr.alloc (.cells #[.int .i64 1, .string ca, .string cb, .slice pa j pc] 166)).cell? ⟨d, 2, none⟩ = some (.map (some bs)) := (World.cell?_alloc_lt wr _ ⟨d, 2, none⟩ hdl).trans c2'
     have HBX := Lib.hid hbx
     have HA2 := Lib.hid a2
     have HI2 := Lib.hid hI2
     have HCR := Lib.hid hcr
     have q0 : (0 : Int) ≤ j := by omega
     have q1 : (j : Int) ≤ pc := by omega
     by_cases hpc0 : pc = 0
     ·subst hpc0
      obtain rfl : j = 0 := by omega
      replace hjm : (if 0 < pk then pk else 0) = (0 : Int) := hjm
      clear hI hI2 hcells hrow hp hbx a2 hcr hc hfit hpc1 hpc2 q0 q1
      go_wp2
      have hbx := HBX.out
      have a2 := HA2.out
      generalize wr.alloc (.cells #[.int .i64 1, .string ca, .string cb, .slice pa 0 0] 166) = W at hbx a2 hd ⊢
      obtain ⟨b0, b1, b2, b3⟩ := hbx
      clear HBX HA2
      go_still_tail 5, (by kernel_rfl)
      change wpList _ _ _ _ _ W.drew
      obtain ⟨w4, hcl, ⟨hc4, hf4⟩, hpost⟩ := crash_end HA.out HI2.out
      rw [← HCR.out] at hpost
      obtain ⟨v1, g1⟩ := hc4 1 (by omega)
      obtain ⟨v3, g3⟩ := hc4 3 (by omega)
      obtain ⟨v4, g4⟩ := hc4 4 (by omega)
      obtain ⟨v5, g5⟩ := hc4 5 (by omega)
      obtain ⟨c2w, _, _⟩ := cells_of_cinv HA.out HI2.out
      have HP := Lib.hid hpost
      clear hc4 hpost
      go_wp2_with (first | (go_at_call 77; refine hd.out.mono ?_; rintro e w' ⟨rfl, rfl⟩) | (go_at_call 78; refine hcl.out.mono ?_; rintro e w' ⟨rfl, rfl⟩))
      go_ret
      exact HP.out
     ·clear hI hI2 hcells hrow hp hbx a2 hcr hc hfit hpc1 hpc2
      go_wp2
      have hbx := HBX.out
      have a2 := HA2.out
      generalize wr.alloc (.cells #[.int .i64 1, .string ca, .string cb, .slice pa j pc] 166) = W at hbx a2 hd ⊢
      obtain ⟨b0, b1, b2, b3⟩ := hbx
      clear HBX HA2
      go_still_tail 5, (by kernel_rfl)
      change wpList _ _ _ _ _ W.drew
      obtain ⟨w4, hcl, ⟨hc4, hf4⟩, hpost⟩ := crash_end HA.out HI2.out
      rw [← HCR.out] at hpost
      obtain ⟨v1, g1⟩ := hc4 1 (by omega)
      obtain ⟨v3, g3⟩ := hc4 3 (by omega)
      obtain ⟨v4, g4⟩ := hc4 4 (by omega)
      obtain ⟨v5, g5⟩ := hc4 5 (by omega)
      obtain ⟨c2w, _, _⟩ := cells_of_cinv HA.out HI2.out
      have HP := Lib.hid hpost
      clear hc4 hpost
      go_wp2_with (first | (go_at_call 77; refine hd.out.mono ?_; rintro e w' ⟨rfl, rfl⟩) | (go_at_call 78; refine hcl.out.mono ?_; rintro e w' ⟨rfl, rfl⟩))
      go_ret
      exact HP.out
    ·have hcr : crashOf m keep part = crashed m ((m.loose.take k).foldl doCh m.sure) := by
      unfold crashOf crashFs
      rw [← HK.out, hc]
      simp [hk1]
     obtain ⟨w4, hcl, ⟨hc4, hf4⟩, hpost⟩ := crash_end HA.out hI
     rw [← hcr] at hpost
     obtain ⟨v1, g1⟩ := hc4 1 (by omega)
     obtain ⟨v3, g3⟩ := hc4 3 (by omega)
     obtain ⟨v4, g4⟩ := hc4 4 (by omega)
     obtain ⟨v5, g5⟩ := hc4 5 (by omega)
     have HP := Lib.hid hpost
     have hb : (c.kind == 1) = false := by simpa using hk1
     clear hI hcells hrow hp hc4 hpost hcr hk1 hc
     go_wp2_with (go_at_call 78; refine hcl.out.mono ?_; rintro e w' ⟨rfl, rfl⟩)
     go_ret
     exact HP.out
   ·have hcr : crashOf m keep part = crashed m ((m.loose.take k).foldl doCh m.sure) := by
     unfold crashOf crashFs
     rw [← HK.out, List.getElem?_eq_none (by have := HN.out; omega)]
    obtain ⟨w4, hcl, ⟨hc4, hf4⟩, hpost⟩ := crash_end HA.out hI
    rw [← hcr] at hpost
    obtain ⟨v1, g1⟩ := hc4 1 (by omega)
    obtain ⟨v3, g3⟩ := hc4 3 (by omega)
    obtain ⟨v4, g4⟩ := hc4 4 (by omega)
    obtain ⟨v5, g5⟩ := hc4 5 (by omega)
    have HP := Lib.hid hpost
    have hb : ¬ (k : Int) < n := by omega
    clear hI hrow hc4 hpost hcr hKn
    go_wp2_with (go_at_call 78; refine hcl.out.mono ?_; rintro e w' ⟨rfl, rfl⟩)
    go_ret
    exact HP.out
set_option maxRecDepth 100000 in
set_option maxHeartbeats 400000 in
theorem crash_empty {F : Nat → Prop} {w : World} {d bn bs cap : Nat} {a : Option Addr} {m : DM} (hA : DiskAt F w d bn bs (.slice a 0 cap) m) (hn : m.loose = []) (keep part : Int) :
  Calls Tryz.prog 30 #[.pointer (some ⟨d, 0, none⟩), .int .i64 keep, .int .i64 part] w (DPost F w d (0, crashOf m keep part)) := by
 have hmm := clampI_min keep 0
 rw [show clampI keep 0 = 0 by have := clampI_le keep 0; omega] at hmm
 obtain ⟨kk, hkk⟩ : ∃ kk, (if (0 : Int) < keep then (0 : Int) else keep) = kk := ⟨_, rfl⟩
 replace hmm : (if 0 < (if (0 : Int) < keep then (0 : Int) else keep) then (if (0 : Int) < keep then (0 : Int) else keep) else 0) = (0 : Int) := hmm
 rw [hkk] at hmm
 have hI : CInv F w w bs m.sure := ⟨Keeps.refl _ w, hA.sure.keep rfl (KeepU8.refl _ _) (fun _ h _ => .inl h)⟩
 obtain ⟨c2, c3, _⟩ := cells_of_cinv hA hI
 have hcr : crashOf m keep part = crashed m m.sure := by
  unfold crashOf crashFs
  simp [hn]
 obtain ⟨w4, hcl, ⟨hc4, hf4⟩, hpost⟩ := crash_end hA hI
 rw [← hcr] at hpost
 obtain ⟨v1, g1⟩ := hc4 1 (by omega)
 obtain ⟨v3, g3⟩ := hc4 3 (by omega)
 obtain ⟨v4, g4⟩ := hc4 4 (by omega)
 obtain ⟨v5, g5⟩ := hc4 5 (by omega)
 have HP := Lib.hid hpost
 clear hA hn hI hc4 hpost hcr
 by_cases hc0 : cap = 0
 all_goals
  go_enter Tryz.func30, Tryz.ntmps30
  go_wp2
  refine wp_loop_rounds 1 ?_
  rw [rounds_succ]
  go_wp2_with (first | (go_at_call 78; refine hcl.out.mono ?_; rintro e w' ⟨rfl, rfl⟩))
  go_ret
  exact HP.out
theorem crash_calls {F : Nat → Prop} {w : World} {d : Nat} {m : DM} (h : DiskIs F w d m) (keep part : Int)
  (hfits : ∀ k c, m.loose[k]? = some c → Fits ((m.loose.take k).foldl doCh m.sure) c ∧ ∀ j, Fits ((m.loose.take k).foldl doCh m.sure) { c with p := c.p.take j }) :
  Calls Tryz.prog 30 #[.pointer (some ⟨d, 0, none⟩), .int .i64 keep, .int .i64 part] w (DPost F w d (0, crashOf m keep part)) := by
 obtain ⟨bn, bs, vl, h⟩ := h
 obtain ⟨ps, h1, h2, h3⟩ := h.loose
 by_cases hn : m.loose = []
 ·obtain ⟨a, c, rfl⟩ := ownsRow_slice h2
  rw [hn] at h
  exact crash_empty (by simpa using h) hn keep part
 ·have hpos : 0 < m.loose.length := List.length_pos_iff.2 hn
  rcases h2.2 with ⟨_, e⟩ | ⟨g, cap, cur, rfl, hg, hb, hnc, hcm, hcs, ht⟩
  ·omega
  ·unfold maxLen at hcm
   exact crash_some h rfl hnc (by omega) (by omega) keep part _ rfl hfits
end Go.Proofs.YtlcnhpjggjgnpaaGreatDoor
namespace Go.Proofs.YtlcnhpjggjgnpaaGreatDoor
open Go.RowKit Go.MapKept
theorem fget_perm {l fs : FS} (hp : l.Perm fs) (hn : FNodup fs) (n : ByteArray) : fget l n = fget fs n := by
 have hnl : FNodup l := (hp.map (fun q : ByteArray × List UInt8 => q.1)).nodup_iff.2 hn
 cases h : fget fs n with
 | some x => exact fget_mem hnl (hp.mem_iff.2 (mem_of_fget h))
 | none =>
  cases h' : fget l n with
  | none => rfl
  | some x => rw [fget_mem hn (hp.mem_iff.1 (mem_of_fget h'))] at h; cases h
theorem fget_cons_same (fs : FS) (n : ByteArray) (x : List UInt8) : fget ((n, x) :: fs) n = some x := by simp [fget]
theorem fget_cons_other (fs : FS) (n k : ByteArray) (x : List UInt8) (h : n ≠ k) : fget ((n, x) :: fs) k = fget fs k := by
 unfold fget
 rw [List.find?_cons]
 have : decide (n = k) = false := by simpa using h
 simp [this]
theorem fget_fdel_same (fs : FS) (n : ByteArray) : fget (fdel fs n) n = none := fget_none (fdel_not_mem fs n)
theorem fget_fdel_other (fs : FS) (n k : ByteArray) (h : n ≠ k) : fget (fdel fs n) k = fget fs k := by
 induction fs with
 | nil => rfl
 | cons p fs ih =>
  obtain ⟨a, x⟩ := p
  by_cases ha : a = n
  ·subst ha
   rw [fget_cons_other _ _ _ _ h]
   simpa [fdel] using ih
  ·have e : fdel ((a, x) :: fs) n = (a, x) :: fdel fs n := by simp [fdel, ha]
   rw [e]
   by_cases hk : a = k
   ·subst hk; rw [fget_cons_same, fget_cons_same]
   ·rw [fget_cons_other _ _ _ _ hk, fget_cons_other _ _ _ _ hk, ih]
theorem fget_fput_same {fs : FS} (hn : FNodup fs) (n : ByteArray) (x : List UInt8) : fget (fput fs n x) n = some x := by
 exact (fget_perm (fins_perm (n, x) (fdel fs n)).symm (hn.fput n x) n).symm.trans (fget_cons_same _ _ _)
theorem fget_fput_other {fs : FS} (hn : FNodup fs) (n k : ByteArray) (x : List UInt8) (h : n ≠ k) : fget (fput fs n x) k = fget fs k := by
 exact (fget_perm (fins_perm (n, x) (fdel fs n)).symm (hn.fput n x) k).symm.trans ((fget_cons_other _ _ _ _ h).trans (fget_fdel_other _ _ _ h))
theorem used_fdel : ∀ {fs : FS} (_ : FNodup fs) (n : ByteArray), used (fdel fs n) + ((fget fs n).getD []).length = used fs
 | [], _, _ => rfl
 | (a, x) :: fs, h, n => by
  have h' : a ∉ fs.map (·.1) ∧ (fs.map (·.1)).Nodup := List.nodup_cons.1 h
  by_cases ha : a = n
  ·subst ha
   have e : fdel ((a, x) :: fs) a = fs := by
    have : fdel ((a, x) :: fs) a = fdel fs a := by simp [fdel]
    rw [this, fdel_absent h'.1]
   rw [e, fget_cons_same]
   simp [used]; omega
  ·have e : fdel ((a, x) :: fs) n = (a, x) :: fdel fs n := by simp [fdel, ha]
   have ih := used_fdel (fs := fs) h'.2 n
   rw [e, fget_cons_other _ _ _ _ ha]
   simp only [used]
   omega
theorem used_fput {fs : FS} (hn : FNodup fs) (n : ByteArray) (x : List UInt8) : used (fput fs n x) + ((fget fs n).getD []).length = used fs + x.length := by
 have h1 := used_perm (fins_perm (n, x) (fdel fs n))
 have h2 := used_fdel hn n
 unfold fput
 rw [h1]
 simp only [used]
 omega
theorem used_get {fs : FS} (hn : FNodup fs) (n : ByteArray) : ((fget fs n).getD []).length ≤ used fs := by
 have := used_fdel hn n
 omega
theorem length_fput {fs : FS} (n : ByteArray) (x : List UInt8) : (fput fs n x).length = (fdel fs n).length + 1 := by
 unfold fput
 rw [(fins_perm (n, x) (fdel fs n)).length_eq]; rfl
theorem DiskIs.nodup {F : Nat → Prop} {w : World} {d : Nat} {m : DM} (h : DiskIs F w d m) : FNodup m.now := by
 obtain ⟨bn, bs, vl, h⟩ := h
 exact h.now.nodup
structure Calm (m : DM) : Prop where
 down : m.down = false
 fuse : m.fuse = -1
theorem Calm.does {m : DM} (h : Calm m) (c : Ch) : doesOf m c = (0, { m with now := doCh m.now c, loose := m.loose ++ [c] }) := by
 have hf := h.fuse
 simp [doesOf, spendOf, hf]
theorem Calm.there {m : DM} (h : Calm m) {n : ByteArray} (hg : (fget m.now n).isSome = true) : thereOf m n = 0 := by
 simp [thereOf, h.down, hg]
theorem Calm.create {m : DM} (h : Calm m) {n : ByteArray} (hn : isName n = true) (hg : fget m.now n = none) (hl : (m.now.length : Int) < 4096) :
  createOf m n = (0, { m with now := fput m.now n [], loose := m.loose ++ [⟨0, n, ⟨#[]⟩, []⟩] }) := by
 have hl' : ¬ ((4096 : Int) ≤ (m.now.length : Int)) := by omega
 unfold createOf
 rw [h.does]
 simp only [h.down, hn, hg, hl', Bool.false_eq_true, if_false, Bool.not_true, Option.isSome_none, decide_false]
 simp [doCh]
theorem Calm.append {m : DM} (h : Calm m) {n : ByteArray} (hg : (fget m.now n).isSome = true) (p : List UInt8) (hp : (p.length : Int) ≤ 1048576) :
  appendOf m n p = if m.room - (used m.now : Int) < (p.length : Int) then (4, m) else (0, { m with now := fput m.now n ((fget m.now n).getD [] ++ p), loose := m.loose ++ [⟨1, n, ⟨#[]⟩, p⟩] }) := by
 have hp' : ¬ ((1048576 : Int) < (p.length : Int)) := by omega
 unfold appendOf
 rw [h.there hg, h.does]
 simp only [if_true, hp', if_false]
 simp [doCh]
theorem wpList_make_run {P : Program} {w : World} {ops : Array Oper} {o : Oper} {rest : List Oper} {a : Act} {Q : Exit → Act → World → Prop}
  (hg : o.guard = none) (l c : Operand) (t : TypeId) (hop : o.op = Op.makeSlice t l c)
  {lv cv v' : Value} {w' : World} (hl : a.eval l = lv) (hc : a.eval c = cv) (hrun : (Instr.makeSlice t lv cv).run P w = .ok v' w')
  (hK : wpList P ops Q rest (a.put o.dst v') w') : wpList P ops Q (o :: rest) a w := by
 refine wpList_plain hg fun K hK' => ?_
 unfold Oper.wp
 simp [execOp, hop, hl, hc, hrun, Result.andThen]
 exact hK' _ _ hK
theorem Reads.cell {w : World} {v : Value} {l : List UInt8} (h : Reads w v l) {a : Option Addr} {n c k : Nat} (hv : v = .slice a n c) (hk : k < l.length) : ∃ x, a = some x ∧ w.cell? (x.add k) = some (.int .u8 (l[k].toNat : Int)) := by
 rcases h with ⟨_, rfl⟩ | ⟨x, c', e, _, _, h3⟩
 ·simp at hk
 ·rw [hv] at e
  cases e
  exact ⟨x, rfl, h3 k _ (by rw [List.getElem?_map, List.getElem?_eq_getElem hk]; rfl)⟩
theorem take_step {l l' : List UInt8} {k : Nat} (hk : k < l.length) (hk' : k < l'.length) (h : l.take k = l'.take k) : (l[k].toNat = l'[k].toNat) ↔ l.take (k + 1) = l'.take (k + 1) := by
 constructor
 ·intro e
  rw [List.take_succ_eq_append_getElem hk, List.take_succ_eq_append_getElem hk', h, UInt8.toNat_inj.1 e]
 ·intro e
  have := congrArg (fun t : List UInt8 => t[k]?) e
  simp [hk, hk'] at this
  rw [this]
set_option maxRecDepth 100000 in
theorem same_raw (w : World) {l l' : List UInt8} {n : Nat} (hb : n ≤ maxLen) (hn : l.length = n) (hn' : l'.length = n) {a a' : Option Addr} {c c' : Nat} (h : Reads w (.slice a n c) l) (h' : Reads w (.slice a' n c') l') :
  Calls Tryz.prog 15 #[.slice a n c, .slice a' n c'] w (QuietP w (.bool (decide (l = l')))) := by
 unfold maxLen at hb
 have H := Lib.hid h
 have H' := Lib.hid h'
 have HN := Lib.hid hn
 have HN' := Lib.hid hn'
 clear h h' hn hn'
 go_enter Tryz.func15, Tryz.ntmps15
 go_wp2_with fail
 go_loopw [5] (fun i wr => ∃ k : Nat, k ≤ n ∧ i = .int .i64 (k : Int) ∧ Keeps (fun _ => False) w wr ∧ l.take k = l'.take k) (fun i _ => n - (intOf i).toNat)
 case atStart => exact ⟨0, Nat.zero_le _, rfl, Keeps.refl _ _, rfl⟩
 case round =>
  obtain ⟨k, hk, rfl, hq, heq⟩ := hrel
  by_cases hlt : k < n
  ·obtain ⟨x, rfl, hx⟩ := (H.out.keep hq).cell rfl (k := k) (by have := HN.out; omega)
   obtain ⟨y, rfl, hy⟩ := (H'.out.keep hq).cell rfl (k := k) (by have := HN'.out; omega)
   have hpq := take_step (k := k) (by have := HN.out; omega) (by have := HN'.out; omega) heq
   generalize ((l[k]'(by have := HN.out; omega)).toNat) = p at hx hpq
   generalize ((l'[k]'(by have := HN'.out; omega)).toNat) = q at hy hpq
   have HP := Lib.hid hpq
   have j0 : (0 : Int) ≤ k := by omega
   have j1 : (k : Int) < n := by omega
   clear heq hpq
   by_cases hpq : p = q
   ·have heq2 := HP.out.1 hpq
    have HE := Lib.hid heq2
    clear heq2 HP
    subst hpq
    go_wp2_with fail
    go_quiet (fail)
    go_wp2_with fail
    go_roundw
    case rel => exact ⟨k + 1, by omega, rfl, hq.drewN _, HE.out⟩
    case measure => simp [intOf]; omega
   ·have hpq2 : ¬ (p : Int) = (q : Int) := by omega
    go_wp2_with fail
    go_quiet (fail)
    go_wp2_with fail
    go_ret
    refine ⟨?_, hq.drewN _⟩
    have : ¬ l = l' := fun e => hpq (HP.out.2 (by rw [e]))
    simp [this]
  ·obtain rfl : k = n := by omega
   clear hlt hk
   have he : l = l' := by
    rw [List.take_of_length_le (by have := HN.out; omega), List.take_of_length_le (by have := HN'.out; omega)] at heq
    exact heq
   have HE := Lib.hid he
   clear he heq
   go_wp2_with fail
   go_ret
   exact ⟨by simp [HE.out], hq⟩
theorem same_calls {w : World} {v v' : Value} {l l' : List UInt8} (h : Reads w v l) (h' : Reads w v' l') : Calls Tryz.prog 15 #[v, v'] w (QuietP w (.bool (decide (l = l')))) := by
 obtain ⟨a, c, rfl, h1, h2⟩ := h.form
 obtain ⟨a', c', rfl, _, _⟩ := h'.form
 by_cases hl : l.length = l'.length
 ·rw [← hl] at h' ⊢
  exact same_raw w (by omega) rfl hl.symm h h'
 ·have hl2 : ¬ (l.length : Int) = (l'.length : Int) := by omega
  have hne : ¬ l = l' := fun e => hl (by rw [e])
  have HE := Lib.hid hne
  clear h h' hl hne
  go_enter Tryz.func15, Tryz.ntmps15
  go_wp2_with fail
  go_ret
  exact ⟨by simp [HE.out], Keeps.refl _ _⟩
theorem owns_keep {w w' : World} {base n : Nat} {v : Value} {xs : List Value} (h : w.ownsRow base 5 1 v n xs) {F : Nat → Prop} (hk : Keeps F w w') (hF : ∀ b, v.ownBlock = some b → ¬ F b) : w'.ownsRow base 5 1 v n xs := by
 obtain ⟨h1, h2⟩ := h
 refine ⟨h1, ?_⟩
 rcases h2 with h2 | ⟨g, cap, cur, rfl, hg, hb, h3, h4, h5, h6⟩
 ·exact .inl h2
 ·exact .inr ⟨g, cap, cur, rfl, hg, hk.at hb (hF g rfl), h3, h4, h5, h6⟩
theorem owns_lt {w : World} {base n : Nat} {v : Value} {xs : List Value} (h : w.ownsRow base 5 1 v n xs) : ∀ b, v.ownBlock = some b → b < w.heap.size ∧ base ≤ b := by
 rcases h.2 with ⟨rfl, _⟩ | ⟨g, cap, cur, rfl, hg, hb, _⟩
 ·intro b hb; cases hb
 ·intro b hb'
  cases hb'
  exact ⟨lt_of_heap hb, hg⟩
def Owns (w : World) (base : Nat) (v : Value) (l : List UInt8) : Prop := w.ownsRow base 5 1 v l.length (l.map u8v)
theorem Owns.nil (w : World) (base : Nat) : Owns w base (.slice none 0 0) [] := ⟨rfl, .inl ⟨rfl, rfl⟩⟩
theorem Owns.bytes {w : World} {base : Nat} {v : Value} {l : List UInt8} (h : Owns w base v l) : Bytes (fun b => base ≤ b) w v l := bytes_of_owns h
theorem Owns.keep {w w' : World} {base : Nat} {v : Value} {l : List UInt8} (h : Owns w base v l) (hk : Keeps (fun _ => False) w w') : Owns w' base v l := owns_keep h hk (fun _ _ e => e)
theorem Owns.base {w : World} {base base' : Nat} {v : Value} {l : List UInt8} (h : Owns w base v l) (hb : base' ≤ base) : Owns w base' v l := by
 obtain ⟨h1, h2⟩ := h
 refine ⟨h1, ?_⟩
 rcases h2 with h2 | ⟨g, cap, cur, rfl, hg, h3⟩
 ·exact .inl h2
 ·exact .inr ⟨g, cap, cur, rfl, by omega, h3⟩
theorem Owns.grow {wr : World} {base : Nat} {v : Value} {l : List UInt8} (hz : base ≤ wr.heap.size) (ho : Owns wr base v l) {pv : Value} {p : List UInt8} (hp : Reads wr pv p) (hb : l.length + p.length ≤ 140737488355328) :
  ∃ v' w', (Builtin.append_ #[22, 22] 22 #[v, pv]).run Tryz.prog wr = .ok v' w' ∧ Owns w' base v' (l ++ p) ∧ Keeps (fun b => v.ownBlock = some b) wr w' := by
 obtain ⟨i0, hi, hz0, hz1, hz2⟩ := info_parts info_u8
 rcases hp with ⟨rfl, rfl⟩ | ⟨x, c, rfl, h1, h2, h3⟩
 ·refine ⟨v, wr, append_none 22 22 22 5 i0 Tryz.underlying22 Tryz.underlying22 hi (by rw [hz1]) (bytes_of_owns ho) (.inl ⟨rfl, rfl⟩), ?_, Keeps.refl _ _⟩
  rw [List.append_nil]; exact ho
 ·obtain ⟨v', w', hrun, ho2, hg, _, hat⟩ := run_append_own_at (P := Tryz.prog) wr base 22 22 5 i0 _ 1 1 Tryz.underlying22 hi hz0 hz1 hz2 (by rfl) (by omega) v l.length (l.map u8v) ho x p.length c (p.map u8v) (by simp) h3 (u8v_one _) (by unfold maxLen; omega) (by omega) hz
  refine ⟨v', w', hrun, ?_, Keeps.of_grown hg⟩
  rw [← List.map_append, ← List.length_append] at ho2; exact ho2
theorem one_byte (w : World) (c : UInt8) : Reads (w.alloc (.cells #[.int .u8 (c.toNat : Int)] 5)) (.slice (some ⟨w.heap.size, 0, none⟩) 1 1) [c] := by
 refine .inr ⟨_, 1, rfl, Nat.le_refl _, by simp [maxLen], fun j u hu => ?_⟩
 match j, hu with
 | 0, hu =>
  simp only [List.map_cons, List.map_nil, List.getElem?_cons_zero, Option.some.injEq] at hu
  rw [← hu, Addr.add_lit]
  exact cell_at (heap_alloc_new w _) rfl
 | j + 1, hu => simp at hu
def OPost (w : World) (l : List UInt8) (e : Ending) (w' : World) : Prop := ∃ v, e = .returned v ∧ Owns w' w.heap.size v l ∧ Keeps (fun _ => False) w w'
set_option maxRecDepth 100000 in
theorem twin_calls {w : World} {v : Value} {l : List UInt8} (h : Reads w v l) (hb : l.length ≤ 140737488355328) : Calls Tryz.prog 27 #[v] w (OPost w l) := by
 obtain ⟨a, c, rfl, hc1, hc2⟩ := h.form
 have H := Lib.hid h
 unfold maxLen at hc2
 clear h
 go_enter Tryz.func27, Tryz.ntmps27
 go_wp2_with fail
 go_loopw [3, 4] (fun av i wr => ∃ k : Nat, k ≤ l.length ∧ i = .int .i64 (k : Int) ∧ Owns wr w.heap.size av (l.take k) ∧ Keeps (fun _ => False) w wr) (fun _ i _ => l.length - (intOf i).toNat)
 case atStart => exact ⟨0, Nat.zero_le _, rfl, Owns.nil _ _, Keeps.refl _ _⟩
 case round =>
  obtain ⟨k, hk, rfl, ho, hq⟩ := hrel
  obtain ⟨aa, ac, rfl, q1, q2⟩ := ho.bytes.form
  by_cases hlt : k < l.length
  ·obtain ⟨x, rfl, hx⟩ := (H.out.keep hq).cell rfl hlt
   have hq2 : Keeps (fun _ => False) wr (wr.alloc (.cells #[.int .u8 (l[k].toNat : Int)] 5)) := (Keeps.refl _ _).alloc _
   have hq2z := hq.size
   obtain ⟨v', w3, hrun, ho3, hk3⟩ := Owns.grow (by simp only [World.size_alloc]; omega) (ho.keep hq2) (one_byte wr l[k]) (by simp only [List.length_take, List.length_cons, List.length_nil]; omega)
   rw [← List.take_succ_eq_append_getElem hlt] at ho3
   have hq3 : Keeps (fun _ => False) w w3 := (hq.trans hq2 (fun _ _ e => e)).trans hk3 (fun b hb e => by have := owns_lt ho b e; omega)
   obtain ⟨aa', ac', rfl, _, _⟩ := ho3.bytes.form
   have HR := Lib.hid (⟨k + 1, by omega, rfl, ho3, hq3⟩ : ∃ k' : Nat, k' ≤ l.length ∧ Value.int .i64 ((k + 1 : Nat) : Int) = .int .i64 (k' : Int) ∧ Owns w3 w.heap.size _ (l.take k') ∧ Keeps (fun _ => False) w w3)
   have Hrun := Lib.hid hrun
   have j0 : (0 : Int) ≤ k := by omega
   have j1 : (k : Int) < l.length := by omega
   generalize l[k].toNat = b at hx Hrun
   clear ho hq hq2 ho3 hk3 hq3 hrun
   go_wp2_with (at_builtin; refine wpList_append_run rfl _ _ _ _ rfl rfl rfl Hrun.out ?_)
   go_roundw
   case rel => have h := HR.out; simp only [List.length_take] at h; exact h
   case measure => simp [intOf]; omega
  ·obtain rfl : k = l.length := by omega
   have HO := Lib.hid ho
   have HQ := Lib.hid hq
   clear hlt hk ho hq
   go_wp2_with fail
   go_ret
   refine ⟨.slice aa (l.take l.length).length ac, rfl, ?_, HQ.out⟩
   have h := HO.out
   generalize Value.slice aa (l.take l.length).length ac = v at h ⊢
   rw [List.take_length] at h
   exact h
def crcBit (c : Nat) : Nat := if c % 2 = 1 then (c / 2) ^^^ 3988292384 else c / 2
def crcBits : Nat → Nat → Nat
 | 0, c => c
 | j + 1, c => crcBit (crcBits j c)
def crcStep (c : Nat) (b : UInt8) : Nat := crcBits 8 (c ^^^ b.toNat)
def crcAll (l : List UInt8) : Nat := l.foldl crcStep 4294967295
def crcOf (l : List UInt8) : Nat := 4294967295 - crcAll l
theorem crcBit_lt {c : Nat} (h : c < 4294967296) : crcBit c < 4294967296 := by
 unfold crcBit
 split
 ·exact Nat.xor_lt_two_pow (n := 32) (by omega) (by omega)
 ·omega
theorem crcBits_lt : ∀ (j : Nat) {c : Nat}, c < 4294967296 → crcBits j c < 4294967296
 | 0, _, h => h
 | j + 1, _, h => crcBit_lt (crcBits_lt j h)
theorem crcIn_lt {c : Nat} (h : c < 4294967296) (b : UInt8) : c ^^^ b.toNat < 4294967296 := Nat.xor_lt_two_pow (n := 32) (by omega) (by have := b.toNat_lt; omega)
theorem crcStep_lt {c : Nat} (h : c < 4294967296) (b : UInt8) : crcStep c b < 4294967296 := crcBits_lt 8 (crcIn_lt h b)
theorem crcFold_lt : ∀ (l : List UInt8) {c : Nat}, c < 4294967296 → l.foldl crcStep c < 4294967296
 | [], _, h => h
 | b :: l, _, h => crcFold_lt l (crcStep_lt h b)
theorem crcAll_lt (l : List UInt8) : crcAll l < 4294967296 := crcFold_lt l (by omega)
theorem crcAll_succ {l : List UInt8} {k : Nat} (h : k < l.length) : crcAll (l.take (k + 1)) = crcStep (crcAll (l.take k)) l[k] := by
 unfold crcAll
 rw [List.take_succ_eq_append_getElem h, List.foldl_append]
 rfl
theorem nat_not32 {t : Nat} (h : t < 4294967296) : 4294967295 ^^^ t = 4294967295 - t := by
 have e : 4294967295 - t = 2 ^ 32 - (t + 1) := by omega
 rw [e]
 apply Nat.eq_of_testBit_eq
 intro i
 rw [Nat.testBit_two_pow_sub_succ (by omega), Nat.testBit_xor, show (4294967295 : Nat) = 2 ^ 32 - 1 by rfl, Nat.testBit_two_pow_sub_one]
 by_cases hi : i < 32
 ·simp [hi]
 ·have : t.testBit i = false := Nat.testBit_lt_two_pow (Nat.lt_of_lt_of_le (show t < 2 ^ 32 by omega) (Nat.pow_le_pow_right (by omega) (by omega)))
  simp [hi, this]
theorem crc_not {t : Nat} (h : t < 4294967296) : bits .xor .u32 IntKind.u32.max (t : Int) = 4294967295 - (t : Int) := by
 have := u32_xor_nat 4294967295 t (by omega) h
 rw [nat_not32 h] at this
 have e : IntKind.u32.max = ((4294967295 : Nat) : Int) := by decide
 rw [e, this]
 omega
theorem crc_k1 : bits .and .u32 3988292384 4294967295 = 3988292384 := by decide +kernel
theorem crc_k0 : bits .and .u32 3988292384 0 = 0 := by decide +kernel
theorem crc_odd {t : Nat} (ht : t < 4294967296) (hp : t % 2 = 1) : bits .and .u32 (t : Int) 1 = 1 ∧ bits .xor .u32 ((t : Int) / 2) 3988292384 = ((crcBit t : Nat) : Int) := by
 constructor
 ·have := u32_and_nat t 1 ht (by omega)
  rw [nat_mask1, hp] at this; exact this
 ·have := u32_xor_nat (t / 2) 3988292384 (by omega) (by omega)
  unfold crcBit
  rw [if_pos hp]
  exact this
theorem crc_even {t : Nat} (ht : t < 4294967296) (hp : ¬ t % 2 = 1) : bits .and .u32 (t : Int) 1 = 0 ∧ bits .xor .u32 ((t : Int) / 2) 0 = ((crcBit t : Nat) : Int) := by
 constructor
 ·have := u32_and_nat t 1 ht (by omega)
  rw [nat_mask1, show t % 2 = 0 by omega] at this; exact this
 ·have := u32_xor_nat (t / 2) 0 (by omega) (by omega)
  unfold crcBit
  rw [if_neg hp]
  rw [show t / 2 ^^^ 0 = t / 2 from Nat.xor_zero _] at this
  exact this
set_option maxRecDepth 100000 in
theorem crc_calls {w : World} {v : Value} {l : List UInt8} (h : Reads w v l) : Calls Tryz.prog 158 #[v] w (QuietP w (.int .u32 (crcOf l : Int))) := by
 obtain ⟨a, c, rfl, hc1, hc2⟩ := h.form
 have H := Lib.hid h
 unfold maxLen at hc2
 clear h
 go_enter Tryz.func158, Tryz.ntmps158
 go_wp2_with fail
 go_loopw [3, 8] (fun s i wr => ∃ k : Nat, k ≤ l.length ∧ i = .int .i64 (k : Int) ∧ s = .int .u32 (crcAll (l.take k) : Int) ∧ Keeps (fun _ => False) w wr) (fun _ i _ => l.length - (intOf i).toNat)
 case atStart => exact ⟨0, Nat.zero_le _, rfl, rfl, Keeps.refl _ _⟩
 case round =>
  obtain ⟨k, hk, rfl, rfl, hq⟩ := hrel
  by_cases hlt : k < l.length
  ·obtain ⟨x, rfl, hx⟩ := (H.out.keep hq).cell rfl hlt
   have hs := crcAll_succ hlt
   have hc0 := crcAll_lt (l.take k)
   have hb := l[k].toNat_lt
   unfold crcStep at hs
   have hin := crcIn_lt hc0 l[k]
   generalize l[k].toNat = b at hx hs hb hin
   generalize crcAll (l.take k) = s0 at hs hc0 hin ⊢
   have e1 : bits .xor .u32 (s0 : Int) (b : Int) = ((s0 ^^^ b : Nat) : Int) := u32_xor_nat _ _ hc0 (by omega)
   have HS := Lib.hid hs
   have j0 : (0 : Int) ≤ k := by omega
   have j1 : (k : Int) < l.length := by omega
   generalize s0 ^^^ b = s1 at e1 HS hin
   have j2 : (b : Int) < 256 := by omega
   have j3 : (0 : Int) ≤ b := by omega
   clear hs hb hc0
   have HQ := Lib.hid hq
   clear hq
   go_wp2_with fail
   go_loopw [3, 16] (fun s i wr' => ∃ j : Nat, j ≤ 8 ∧ i = .int .i64 (j : Int) ∧ s = .int .u32 (crcBits j s1 : Int) ∧ wr' = wr) (fun _ i _ => 8 - (intOf i).toNat)
   case atStart => exact ⟨0, Nat.zero_le _, rfl, rfl, rfl⟩
   case round =>
    obtain ⟨j, hj, rfl, rfl, rfl⟩ := hrel
    by_cases hj8 : j < 8
    ·have ht := crcBits_lt j hin
     have hst : crcBits (j + 1) s1 = crcBit (crcBits j s1) := rfl
     generalize crcBits j s1 = t at hst ht ⊢
     have j4 : (j : Int) < 8 := by omega
     have j5 : (0 : Int) ≤ j := by omega
     by_cases hp : t % 2 = 1
     ·obtain ⟨e2, e3⟩ := crc_odd ht hp
      rw [← hst] at e3
      clear hst hp
      go_wp2_with fail
      go_roundw
      case rel => exact ⟨j + 1, by omega, rfl, by rw [crc_k1, e3], trivial⟩
      case measure => simp [intOf]; omega
     ·obtain ⟨e2, e3⟩ := crc_even ht hp
      rw [← hst] at e3
      clear hst hp
      go_wp2_with fail
      go_roundw
      case rel => exact ⟨j + 1, by omega, rfl, by rw [crc_k0, e3], trivial⟩
      case measure => simp [intOf]; omega
    ·obtain rfl : j = 8 := by omega
     rw [← HS.out]
     clear hj hj8
     go_wp2_with fail
     go_roundw
     case rel => exact ⟨k + 1, by omega, rfl, rfl, HQ.out⟩
     case measure => simp [intOf]; omega
  ·obtain rfl : k = l.length := by omega
   rw [List.take_length]
   have hlt := crcAll_lt l
   have HQ := Lib.hid hq
   have e : ((crcOf l : Nat) : Int) = 4294967295 - (crcAll l : Int) := by unfold crcOf; omega
   rw [← crc_not hlt] at e
   have E := Lib.hid e
   clear e
   generalize crcAll l = s0 at hlt E ⊢
   clear hk hq
   go_wp2_with fail
   go_ret
   exact ⟨by rw [E.out]; rfl, HQ.out⟩
def getOf (l : List UInt8) : Nat := l.foldl (fun n b => n * 256 + b.toNat) 0
theorem getOf_succ {l : List UInt8} {k : Nat} (h : k < l.length) : getOf (l.take (k + 1)) = getOf (l.take k) * 256 + l[k].toNat := by
 unfold getOf
 rw [List.take_succ_eq_append_getElem h, List.foldl_append]
 rfl
theorem getOf_snoc (l : List UInt8) (b : UInt8) : getOf (l ++ [b]) = getOf l * 256 + b.toNat := by
 unfold getOf
 rw [List.foldl_append]
 rfl
theorem getOf_lt : ∀ (k : Nat) (l : List UInt8), l.length = k → getOf l < 256 ^ k
 | 0, l, h => by rw [List.eq_nil_of_length_eq_zero h]; simp [getOf]
 | k + 1, l, h => by
  have hk : k < l.length := by omega
  have e := getOf_succ hk
  rw [List.take_of_length_le (by omega)] at e
  have := getOf_lt k (l.take k) (by simp; omega)
  have hb := l[k].toNat_lt
  rw [e, Nat.pow_succ]
  omega
set_option maxRecDepth 100000 in
theorem get_calls {w : World} {v : Value} {l : List UInt8} (h : Reads w v l) (h8 : l.length ≤ 8) : Calls Tryz.prog 62 #[v] w (QuietP w (.tuple #[.int .u64 (getOf l : Int), .bool true])) := by
 obtain ⟨a, c, rfl, hc1, hc2⟩ := h.form
 have H := Lib.hid h
 unfold maxLen at hc2
 have j8 : (l.length : Int) ≤ 8 := by omega
 clear h
 go_enter Tryz.func62, Tryz.ntmps62
 go_wp2_with fail
 go_loopw [4, 12] (fun s i wr => ∃ k : Nat, k ≤ l.length ∧ i = .int .i64 (k : Int) ∧ s = .int .u64 (getOf (l.take k) : Int) ∧ Keeps (fun _ => False) w wr) (fun _ i _ => l.length - (intOf i).toNat)
 case atStart => exact ⟨0, Nat.zero_le _, rfl, rfl, Keeps.refl _ _⟩
 case round =>
  obtain ⟨k, hk, rfl, rfl, hq⟩ := hrel
  by_cases hlt : k < l.length
  ·obtain ⟨x, rfl, hx⟩ := (H.out.keep hq).cell rfl hlt
   have hs := getOf_succ hlt
   have hc0 := getOf_lt k (l.take k) (by simp; omega)
   have hc1 : getOf (l.take k) < 72057594037927936 := Nat.lt_of_lt_of_le hc0 (by have := Nat.pow_le_pow_right (n := 256) (by omega) (show k ≤ 7 by omega); simpa using this)
   have hb := l[k].toNat_lt
   generalize l[k].toNat = b at hx hs hb
   generalize getOf (l.take k) = s0 at hs hc0 hc1 ⊢
   have e1 : bits .or .u64 ((s0 : Int) * 256) (b : Int) = ((s0 * 256 + b : Nat) : Int) := by
    have := u64_or_nat (s0 * 256) b (by omega) (by omega)
    rw [nat_join 8 _ _ (by omega) (by omega)] at this
    exact this
   rw [← hs] at e1
   have j0 : (0 : Int) ≤ k := by omega
   have j1 : (k : Int) < l.length := by omega
   have j2 : (b : Int) < 256 := by omega
   have j3 : (0 : Int) ≤ b := by omega
   have j4 : (s0 : Int) < 72057594037927936 := by omega
   have j5 : (0 : Int) ≤ s0 := by omega
   have HQ := Lib.hid hq
   clear hq hc0 hs hb
   go_wp2_with fail
   go_roundw
   case rel => exact ⟨k + 1, by omega, rfl, rfl, HQ.out⟩
   case measure => simp [intOf]; omega
  ·obtain rfl : k = l.length := by omega
   rw [List.take_length]
   have HQ := Lib.hid hq
   clear hk hq
   go_wp2_with fail
   go_ret2
   exact ⟨rfl, HQ.out⟩
def wordOf (l : List UInt8) (at_ : Nat) : Nat := getOf ((l.drop at_).take 4)
theorem wordOf_lt (l : List UInt8) (at_ : Nat) (h : at_ + 4 ≤ l.length) : wordOf l at_ < 4294967296 := by
 have := getOf_lt 4 ((l.drop at_).take 4) (by simp; omega)
 simpa [wordOf] using this
theorem Reads.piece {w : World} {a : Option Addr} {n c : Nat} {l : List UInt8} (h : Reads w (.slice a n c) l) (i j : Nat) (hij : i + j ≤ l.length) (hpos : 0 < j) : ∃ x, a = some x ∧ Reads w (.slice (some (x.add i)) j (c - i)) ((l.drop i).take j) := by
 have hl : ((l.drop i).take j).length = j := by simp; omega
 rcases h with ⟨e, rfl⟩ | ⟨x, c', e, h1, h2, h3⟩
 ·simp at hij; omega
 ·cases e
  refine ⟨x, rfl, .inr ⟨_, _, by rw [hl], by omega, by omega, fun k u hu => ?_⟩⟩
  rw [List.getElem?_map, List.getElem?_take] at hu
  split at hu
  ·rw [List.getElem?_drop] at hu
   rw [Addr.add_add]
   exact h3 _ _ (by rw [List.getElem?_map]; exact hu)
  ·cases hu
set_option maxRecDepth 100000 in
theorem word_raw {w : World} {x : Addr} {len c at_ z : Nat} (hc2 : c ≤ 9223372036854775807) (j1 : (at_ : Int) + 4 ≤ (len : Int)) (j2 : (len : Int) ≤ (c : Int)) (hz : z < 4294967296)
  (hg : Calls Tryz.prog 62 #[.slice (some (x.add at_)) 4 (c - at_)] w (QuietP w (.tuple #[.int .u64 (z : Int), .bool true]))) :
  Calls Tryz.prog 157 #[.slice (some x) len c, .int .i64 (at_ : Int)] w (QuietP w (.tuple #[.int .u32 (z : Int), .bool true])) := by
 have j4 : ¬ ((len : Int) - 4 < (at_ : Int)) := by omega
 have j5 : (at_ : Int) + 4 ≤ (c : Int) := by omega
 have j6 : (0 : Int) ≤ at_ := by omega
 have HG := Lib.hid hg
 clear hg j1
 go_enter Tryz.func157, Tryz.ntmps157
 go_wp2_with fail
 refine HG.out.mono ?_
 rintro e w' ⟨rfl, hk⟩
 clear j4 j5 j6
 have j3 : (z : Int) < 4294967296 := by omega
 have j7 : (0 : Int) ≤ z := by omega
 go_wp2_with fail
 go_ret2
 exact ⟨rfl, hk⟩
set_option maxRecDepth 100000 in
theorem word_out {w : World} {a : Option Addr} {len c : Nat} {at_ : Int} (hc2 : c ≤ 9223372036854775807) (j2 : (len : Int) ≤ (c : Int)) (j0 : 0 ≤ at_) (j1 : (len : Int) < at_ + 4) :
  Calls Tryz.prog 157 #[.slice a len c, .int .i64 at_] w (QuietP w (.tuple #[.int .u32 0, .bool false])) := by
 have j4 : (len : Int) - 4 < at_ := by omega
 go_enter Tryz.func157, Tryz.ntmps157
 go_wp2_with fail
 go_ret2
 exact ⟨rfl, Keeps.refl _ _⟩
theorem word_calls {w : World} {v : Value} {l : List UInt8} (h : Reads w v l) (at_ : Nat) (h4 : at_ + 4 ≤ l.length) : Calls Tryz.prog 157 #[v, .int .i64 (at_ : Int)] w
  (QuietP w (.tuple #[.int .u32 (wordOf l at_ : Int), .bool true])) := by
 obtain ⟨a, c, rfl, hc1, hc2⟩ := h.form
 unfold maxLen at hc2
 obtain ⟨x, rfl, hp⟩ := h.piece at_ 4 h4 (by omega)
 exact word_raw (by omega) (by omega) (by omega) (wordOf_lt l at_ h4) (get_calls hp (by simp; omega))
theorem word_none {w : World} {v : Value} {l : List UInt8} (h : Reads w v l) (at_ : Int) (h0 : 0 ≤ at_) (h4 : (l.length : Int) < at_ + 4) : Calls Tryz.prog 157 #[v, .int .i64 at_] w
  (QuietP w (.tuple #[.int .u32 0, .bool false])) := by
 obtain ⟨a, c, rfl, hc1, hc2⟩ := h.form
 unfold maxLen at hc2
 exact word_out (by omega) (by omega) h0 h4
def putOf (n : Nat) : Nat → List UInt8
 | 0 => []
 | s + 1 => putOf (n / 256) s ++ [UInt8.ofNat (n % 256)]
theorem putOf_length : ∀ (s n : Nat), (putOf n s).length = s
 | 0, _ => rfl
 | s + 1, n => by simp [putOf, putOf_length s]
theorem putOf_cons : ∀ (s n : Nat), putOf n (s + 1) = UInt8.ofNat (n / 256 ^ s % 256) :: putOf n s
 | 0, n => by simp [putOf]
 | s + 1, n => by
  rw [putOf, putOf_cons s, List.cons_append]
  congr 2
  rw [Nat.div_div_eq_div_mul, Nat.pow_succ, Nat.mul_comm 256]
theorem byte_at (n k : Nat) : (UInt8.ofNat (n / 256 ^ k % 256)).toNat = n / 256 ^ k % 256 := by
 rw [UInt8.toNat_ofNat']
 omega
theorem byte_int (n k : Nat) : (n : Int) / 2 ^ (8 * k) % 256 = ((UInt8.ofNat (n / 256 ^ k % 256)).toNat : Int) := by
 rw [byte_at, show (256 : Nat) ^ k = 2 ^ (8 * k) by rw [Nat.pow_mul]]
 simp only [Int.natCast_emod, Int.natCast_ediv, Int.natCast_pow]
 rfl
theorem make_owns (w : World) (n : Nat) (hn : n ≤ 140737488355328) : ∃ w', (Instr.makeSlice 22 (.int .i64 (n : Int)) (.int .i64 (n : Int))).run Tryz.prog w = .ok (.slice (some ⟨w.heap.size, 0, none⟩) n n) w' ∧
  Owns w' w.heap.size (.slice (some ⟨w.heap.size, 0, none⟩) n n) (List.replicate n 0) ∧ Keeps (fun _ => False) w w' := by
 obtain ⟨i0, hi, hz0, hz1, hz2⟩ := info_parts info_u8
 obtain ⟨w', hr, ho, hg⟩ := run_make_full (P := Tryz.prog) w w.heap.size 22 5 i0 _ 1 Tryz.underlying22 hi hz0 hz1 .i64 .i64 n (by rw [hz2]; omega) (by unfold maxLen; omega) (Nat.le_refl _)
 have e : (madeCells (Value.int .u8 0).cells (n * 1)).toList = (List.replicate n (0 : UInt8)).map u8v := by
  apply List.ext_getElem?
  intro i
  simp only [madeCells, Array.toList_map, List.getElem?_map, Array.toList_range, Nat.mul_one, List.getElem?_replicate]
  by_cases h : i < n
  ·simp [h, Value.cells, u8v]
   rw [Nat.mod_one]
   rfl
  ·simp [h]
 rw [e] at ho
 refine ⟨w', hr, ?_, (Keeps.of_grown hg).mono (fun _ _ e => by cases e)⟩
 unfold Owns
 rw [List.length_replicate]
 exact ho
theorem Owns.set {w : World} {base g n c : Nat} {l : List UInt8} (h : Owns w base (.slice (some ⟨g, 0, none⟩) n c) l) {i : Nat} (hi : i < l.length) (b : UInt8) :
  Owns (w.setCell ⟨g, i, none⟩ (.int .u8 (b.toNat : Int))) base (.slice (some ⟨g, 0, none⟩) n c) (l.set i b) ∧ (∃ u, w.cell? ⟨g, i, none⟩ = some u) ∧ w.frozen? ⟨g, i, none⟩ = false ∧ Keeps (fun x => x = g) w (w.setCell ⟨g, i, none⟩ (.int .u8 (b.toNat : Int))) := by
 obtain ⟨h1, h2⟩ := h
 rcases h2 with ⟨e, _⟩ | ⟨g', cap, cur, e, hg, hb, h3, h4, h5, h6⟩
 ·cases e
 ·cases e
  have hi2 : i < cur.size := by omega
  refine ⟨⟨by simp, .inr ⟨g, c, _, by rw [List.length_set], hg, heap_setCell_eq hb i _, by rw [List.length_set]; exact h3, h4, by simp; omega, ?_⟩⟩, ⟨cur[i], cell_at hb (by simp [hi2])⟩, free_at hb i, Keeps.setCell (F := fun x => x = g) (p := ⟨g, i, none⟩) (Keeps.refl _ w) (fun _ => rfl) _⟩
  rw [List.length_set]
  simp only [Nat.mul_one] at h6 ⊢
  rw [List.map_set, ← h6]
  simp [List.take_set, u8v]
theorem set_step (n k j : Nat) : (List.replicate (j + 1) (0 : UInt8) ++ putOf n k).set j (UInt8.ofNat (n / 256 ^ k % 256)) = List.replicate j 0 ++ putOf n (k + 1) := by
 rw [putOf_cons, List.replicate_succ', List.append_assoc, List.set_append_right _ _ (by simp)]
 simp
set_option maxRecDepth 100000 in
theorem put_calls (w : World) (n s : Nat) (_hn : n < 18446744073709551616) (hs : s ≤ 8) : Calls Tryz.prog 44 #[.int .u64 (n : Int), .int .i64 (s : Int)] w (OPost w (putOf n s)) := by
 have j0 : (0 : Int) ≤ s := by omega
 have j1 : (s : Int) ≤ 8 := by omega
 obtain ⟨w1, hmk, ho1, hq1⟩ := make_owns w s (by omega)
 have HO1 := Lib.hid ho1
 have HQ1 := Lib.hid hq1
 clear ho1 hq1
 go_enter Tryz.func44, Tryz.ntmps44
 go_wp2_with fail
 go_loopw [16] (fun i wr => ∃ k : Nat, k ≤ s ∧ i = .int .i64 (k : Int) ∧ Owns wr w.heap.size (.slice (some ⟨w.heap.size, 0, none⟩) s s) (List.replicate (s - k) 0 ++ putOf n k) ∧ Keeps (fun _ => False) w wr) (fun i _ => (s : Nat) - (intOf i).toNat)
 case atStart => exact ⟨0, Nat.zero_le _, rfl, by simpa [putOf] using HO1.out, HQ1.out⟩
 case round =>
  obtain ⟨k, hk, rfl, ho, hq⟩ := hrel
  clear hmk
  by_cases hlt : k < s
  ·obtain ⟨j, hj⟩ : ∃ j, s = k + (j + 1) := ⟨s - (k + 1), by omega⟩
   have e0 : (s : Int) - 1 - (k : Int) = (j : Int) := by omega
   rw [show s - k = j + 1 by omega] at ho
   have e1 := byte_int n k
   have e2 := set_step n k j
   generalize UInt8.ofNat (n / 256 ^ k % 256) = b at e1 e2
   obtain ⟨ho2, ⟨u, hu⟩, hf, hk2⟩ := ho.set (i := j) (by simp; omega) b
   rw [e2] at ho2
   have hq2 : Keeps (fun _ => False) w (wr.setCell ⟨w.heap.size, j, none⟩ (.int .u8 (b.toNat : Int))) := hq.trans hk2 (fun x hx e => by omega)
   have HR := Lib.hid (⟨k + 1, by omega, rfl, by rw [show s - (k + 1) = j by omega]; exact ho2, hq2⟩ : ∃ k' : Nat, k' ≤ s ∧ Value.int .i64 ((k + 1 : Nat) : Int) = .int .i64 (k' : Int) ∧ Owns (wr.setCell ⟨w.heap.size, j, none⟩ (.int .u8 (b.toNat : Int))) w.heap.size (.slice (some ⟨w.heap.size, 0, none⟩) s s) (List.replicate (s - k') 0 ++ putOf n k') ∧ Keeps (fun _ => False) w (wr.setCell ⟨w.heap.size, j, none⟩ (.int .u8 (b.toNat : Int))))
   have i0 : (0 : Int) ≤ k := by omega
   have i1 : (k : Int) < s := by omega
   have i2 : (j : Int) < s := by omega
   have i3 : (0 : Int) ≤ j := by omega
   generalize b.toNat = bb at e1 HR
   clear e2 ho ho2 hq hq2 hk2 hlt hj
   go_wp2_with fail
   go_roundw
   case rel => exact HR.out
   case measure => simp [intOf]; omega
  ·obtain rfl : k = s := by omega
   rw [Nat.sub_self] at ho
   have HO := Lib.hid ho
   have HQ := Lib.hid hq
   clear ho hq hlt hk
   go_wp2_with fail
   go_ret
   exact ⟨_, rfl, HO.out, HQ.out⟩
def frameOf (p : List UInt8) : List UInt8 := putOf p.length 4 ++ putOf (crcOf (putOf p.length 4 ++ p)) 4 ++ p
theorem frameOf_length (p : List UInt8) : (frameOf p).length = 8 + p.length := by
 simp [frameOf, putOf_length]; omega
theorem crcOf_lt (l : List UInt8) : crcOf l < 4294967296 := by unfold crcOf; omega
theorem Owns.more {w wr : World} {base : Nat} {v : Value} {l p : List UInt8} {pv : Value} (hz : base ≤ wr.heap.size) (ho : Owns wr base v l) (hp : Reads wr pv p) (hb : l.length + p.length ≤ 140737488355328) (hk : Keeps (fun _ => False) w wr) (hw : w.heap.size ≤ base) :
  ∃ v' w', (Builtin.append_ #[22, 22] 22 #[v, pv]).run Tryz.prog wr = .ok v' w' ∧ Owns w' base v' (l ++ p) ∧ Keeps (fun _ => False) w w' := by
 obtain ⟨v', w', hr, h2, hk2⟩ := ho.grow hz hp hb
 exact ⟨v', w', hr, h2, hk.trans hk2 (fun b hb e => by have := (owns_lt ho b e).2; omega)⟩
theorem Owns.form {w : World} {base : Nat} {v : Value} {l : List UInt8} (h : Owns w base v l) (hne : l ≠ []) : ∃ g c, v = .slice (some ⟨g, 0, none⟩) l.length c ∧ l.length ≤ c ∧ c ≤ maxLen ∧ Bytes (fun b => base ≤ b) w (.slice (some ⟨g, 0, none⟩) l.length l.length) l := by
 obtain ⟨h1, h2⟩ := h
 rcases h2 with ⟨rfl, e⟩ | ⟨g, cap, cur, rfl, hg, hb, h3, h4, h5, h6⟩
 ·exact absurd (List.eq_nil_of_length_eq_zero e) hne
 ·refine ⟨g, cap, rfl, h3, h4, .inr ⟨g, 0, l.length, cur, _, rfl, hg, hb, Nat.le_refl _, by omega, by omega, fun i x hx => ?_⟩⟩
  have e := congrArg (fun t : List Value => t[i]?) h6
  have hi : i < l.length := (List.getElem?_eq_some_iff.1 hx).1
  simp only [Nat.mul_one, List.getElem?_take, hi, if_true, List.getElem?_map, hx, Option.map_some] at e
  rw [Nat.zero_add]
  simpa [u8v] using e
set_option maxRecDepth 100000 in
theorem frame_calls {w : World} {v : Value} {p : List UInt8} (h : Reads w v p) (hp : p.length ≤ 1099511627776) : Calls Tryz.prog 155 #[v] w (OPost w (frameOf p)) := by
 obtain ⟨a, c, rfl, hc1, hc2⟩ := h.form
 have H := Lib.hid h
 clear h
 have hput := put_calls w p.length 4 (by omega) (by omega)
 have j0 : (0 : Int) ≤ p.length := by omega
 have j1 : (p.length : Int) ≤ 1099511627776 := by omega
 go_enter Tryz.func155, Tryz.ntmps155
 go_wp2_with fail
 refine hput.mono ?_
 rintro e w1 ⟨v1, rfl, ho1, hk1⟩
 have hl1 : (putOf p.length 4).length = 4 := putOf_length _ _
 obtain ⟨g, c1, rfl, q1, q2, hB1⟩ := ho1.form (by intro e; rw [e] at hl1; simp at hl1)
 obtain ⟨i0, hi, hz0, hz1, hz2⟩ := info_parts info_u8
 obtain ⟨v2, w2, hrun2, hB2, hk2, _⟩ := append_full (P := Tryz.prog) 22 22 22 5 i0 _ Tryz.underlying22 Tryz.underlying22 hi hz0 hz1 hz2 rfl hB1 (H.out.keep hk1) rfl (by omega)
 obtain ⟨a2, c2, rfl, _, _⟩ := hB2.form
 have hcrc := crc_calls hB2.reads
 rw [List.length_append, hl1] at hcrc hrun2
 rw [hl1] at q1
 unfold maxLen at q2
 have j2 : (4 : Int) ≤ c1 := by omega
 have HO := Lib.hid ho1
 have HK := Lib.hid (hk1.trans hk2 (fun _ _ e => e))
 have HK2 := Lib.hid hk2
 have Hrun := Lib.hid hrun2
 have Hc := Lib.hid hcrc
 rw [hl1]
 clear hput ho1 hk1 hk2 hB1 hB2 hrun2 hcrc
 go_wp2_with (at_builtin; refine wpList_append_run (w := w1) rfl _ _ _ _ rfl rfl rfl Hrun.out ?_)
 refine Hc.out.mono ?_
 rintro e w3 ⟨rfl, hk3⟩
 obtain ⟨cc, hcc⟩ : ∃ cc, cc = crcOf (putOf p.length 4 ++ p) := ⟨_, rfl⟩
 have hlt := crcOf_lt (putOf p.length 4 ++ p)
 have hfr : frameOf p = putOf p.length 4 ++ putOf cc 4 ++ p := by rw [hcc]; rfl
 rw [← hcc] at hlt ⊢
 have hput2 := put_calls w3 cc 4 (by omega) (by omega)
 have j3 : (cc : Int) < 4294967296 := by omega
 have j4 : (0 : Int) ≤ cc := by omega
 have HF := Lib.hid hfr
 have HK3 := Lib.hid hk3
 clear hk3 hfr hcc
 go_wp2_with fail
 refine hput2.mono ?_
 rintro e w4 ⟨v4, rfl, ho4, hk4⟩
 have kk14 : Keeps (fun _ => False) w1 w4 := (HK2.out.trans HK3.out (fun _ _ e => e)).trans hk4 (fun _ _ e => e)
 have kk4 : Keeps (fun _ => False) w w4 := (HK.out.trans HK3.out (fun _ _ e => e)).trans hk4 (fun _ _ e => e)
 obtain ⟨v5, w5, hrun5, ho5, hk5⟩ := (HO.out.keep kk14).more kk4.size ho4.bytes.reads (by rw [putOf_length, putOf_length]; omega) kk4 (Nat.le_refl _)
 obtain ⟨v6, w6, hrun6, ho6, hk6⟩ := ho5.more hk5.size (H.out.keep hk5) (by rw [List.length_append, putOf_length, putOf_length]; omega) hk5 (Nat.le_refl _)
 obtain ⟨a4, c4, rfl, _, _⟩ := ho4.bytes.form
 obtain ⟨a5, c5, rfl, _, _⟩ := ho5.bytes.form
 obtain ⟨a6, c6, rfl, _, _⟩ := ho6.bytes.form
 have hl4 : (putOf cc 4).length = 4 := putOf_length _ _
 have hl5 : (putOf p.length 4 ++ putOf cc 4).length = 8 := by rw [List.length_append, putOf_length, putOf_length]
 rw [hl1, hl4, hl5] at hrun5
 rw [hl5] at hrun6
 rw [hl4]
 obtain ⟨n6, hn6⟩ : ∃ n6, n6 = (putOf p.length 4 ++ putOf cc 4 ++ p).length := ⟨_, rfl⟩
 rw [← hn6] at hrun6 ho6
 rw [← HF.out] at ho6
 have Hrun5 := Lib.hid hrun5
 have Hrun6 := Lib.hid hrun6
 have HP := Lib.hid ho6
 have HPK := Lib.hid hk6
 clear hrun5 hrun6 ho4 ho5 ho6 hk4 hk5 hk6 kk14 kk4 hput2 j0 j1 j2 j3 j4 hlt hl1 hl4 hl5 hn6
 go_wp2_with (at_builtin; (first | (refine wpList_append_run (w := w4) rfl _ _ _ _ rfl rfl rfl Hrun5.out ?_) | (refine wpList_append_run (w := w5) rfl _ _ _ _ rfl rfl rfl Hrun6.out ?_)))
 go_ret
 exact ⟨_, rfl, HP.out, HPK.out⟩
theorem snoc_cases {α : Type} (l : List α) {k : Nat} (h : l.length = k + 1) : ∃ m c, l = m ++ [c] ∧ m.length = k := by
 refine ⟨l.dropLast, l.getLast (by intro e; rw [e] at h; simp at h), (List.dropLast_concat_getLast _).symm, by simp [h]⟩
theorem putOf_getOf : ∀ (k : Nat) (l : List UInt8), l.length = k → putOf (getOf l) k = l
 | 0, l, h => by rw [List.eq_nil_of_length_eq_zero h]; rfl
 | k + 1, l, h => by
  obtain ⟨m, c, rfl, hm⟩ := snoc_cases l h
  have hc := c.toNat_lt
  rw [getOf_snoc, putOf, show (getOf m * 256 + c.toNat) / 256 = getOf m by omega, show (getOf m * 256 + c.toNat) % 256 = c.toNat by omega, putOf_getOf k m hm]
  simp
theorem getOf_putOf : ∀ (k n : Nat), n < 256 ^ k → getOf (putOf n k) = n
 | 0, n, h => by simp at h; subst h; rfl
 | k + 1, n, h => by
  rw [Nat.pow_succ] at h
  rw [putOf, getOf_snoc, getOf_putOf k (n / 256) (by omega), UInt8.toNat_ofNat']
  omega
theorem putOf_inj {k a b : Nat} (ha : a < 256 ^ k) (hb : b < 256 ^ k) (h : putOf a k = putOf b k) : a = b := by
 rw [← getOf_putOf k a ha, h, getOf_putOf k b hb]
def recAt (l : List UInt8) (a : Nat) : List UInt8 := (l.drop (a + 8)).take (wordOf l a)
def FrameAt (l : List UInt8) (a : Nat) : Prop :=
 a + 8 ≤ l.length ∧ wordOf l a ≤ 1048576 ∧ a + 8 + wordOf l a ≤ l.length ∧ crcOf (putOf (wordOf l a) 4 ++ recAt l a) = wordOf l (a + 4)
instance (l : List UInt8) (a : Nat) : Decidable (FrameAt l a) := by unfold FrameAt; infer_instance
def scanFrom (l : List UInt8) : Nat → Nat → List (List UInt8) × Nat
 | 0, a => ([], a)
 | f + 1, a => if FrameAt l a then (recAt l a :: (scanFrom l f (a + 8 + wordOf l a)).1, (scanFrom l f (a + 8 + wordOf l a)).2) else ([], a)
def scanOf (l : List UInt8) : List (List UInt8) × Nat := scanFrom l (l.length + 1) 0
theorem recAt_length {l : List UInt8} {a : Nat} (h : a + 8 + wordOf l a ≤ l.length) : (recAt l a).length = wordOf l a := by
 unfold recAt; rw [List.length_take, List.length_drop]; omega
theorem take_split {α : Type} (l : List α) (a i j : Nat) : (l.drop a).take (i + j) = (l.drop a).take i ++ (l.drop (a + i)).take j := by
 rw [List.take_add, List.drop_drop]
theorem frame_eq {l : List UInt8} {a : Nat} (h8 : a + 8 ≤ l.length) (h : a + 8 + wordOf l a ≤ l.length) :
  frameOf (recAt l a) = (l.drop a).take (8 + wordOf l a) ↔ crcOf (putOf (wordOf l a) 4 ++ recAt l a) = wordOf l (a + 4) := by
 have hl := recAt_length h
 have e : (l.drop a).take (8 + wordOf l a) = (l.drop a).take 4 ++ (l.drop (a + 4)).take 4 ++ recAt l a := by
  rw [show (8 : Nat) = 4 + 4 by rfl, take_split, take_split]
  rfl
 have e1 : putOf (wordOf l a) 4 = (l.drop a).take 4 := putOf_getOf 4 _ (by rw [List.length_take, List.length_drop]; omega)
 have e2 : putOf (wordOf l (a + 4)) 4 = (l.drop (a + 4)).take 4 := putOf_getOf 4 _ (by rw [List.length_take, List.length_drop]; omega)
 unfold frameOf
 rw [hl, e, e1]
 constructor
 ·intro h2
  have h3 := List.append_cancel_right h2
  have h4 := List.append_cancel_left h3
  rw [← e2] at h4
  exact putOf_inj (crcOf_lt _) (wordOf_lt l (a + 4) (by omega)) h4
 ·intro h2
  rw [h2, e2]
theorem wordOf_mid {pre x post : List UInt8} (hx : x.length = 4) : wordOf (pre ++ (x ++ post)) pre.length = getOf x := by
 unfold wordOf
 rw [List.drop_left, List.take_append_of_le_length (by omega), List.take_of_length_le (by omega)]
theorem wordOf_at {l pre x post : List UInt8} {a : Nat} (e : l = pre ++ (x ++ post)) (ha : a = pre.length) (hx : x.length = 4) : wordOf l a = getOf x := by
 subst e; subst ha; exact wordOf_mid hx
theorem frame_found {l pre p post : List UInt8} (e : l = pre ++ (frameOf p ++ post)) (hp : p.length ≤ 1048576) : wordOf l pre.length = p.length ∧ recAt l pre.length = p ∧ FrameAt l pre.length := by
 have hf : frameOf p = putOf p.length 4 ++ putOf (crcOf (putOf p.length 4 ++ p)) 4 ++ p := rfl
 have w1 : wordOf l pre.length = p.length := by
  rw [wordOf_at (x := putOf p.length 4) (pre := pre) (post := putOf (crcOf (putOf p.length 4 ++ p)) 4 ++ (p ++ post)) (by rw [e, hf]; simp only [List.append_assoc]) rfl (putOf_length _ _)]
  exact getOf_putOf 4 _ (by omega)
 have w2 : wordOf l (pre.length + 4) = crcOf (putOf p.length 4 ++ p) := by
  rw [wordOf_at (x := putOf (crcOf (putOf p.length 4 ++ p)) 4) (pre := pre ++ putOf p.length 4) (post := p ++ post) (by rw [e, hf]; simp only [List.append_assoc]) (by rw [List.length_append, putOf_length]) (putOf_length _ _)]
  exact getOf_putOf 4 _ (crcOf_lt _)
 have hr : recAt l pre.length = p := by
  unfold recAt
  rw [w1]
  have : l = (pre ++ putOf p.length 4 ++ putOf (crcOf (putOf p.length 4 ++ p)) 4) ++ (p ++ post) := by rw [e, hf]; simp only [List.append_assoc]
  rw [this, show pre.length + 8 = (pre ++ putOf p.length 4 ++ putOf (crcOf (putOf p.length 4 ++ p)) 4).length by simp only [List.length_append, putOf_length], List.drop_left, List.take_append_of_le_length (Nat.le_refl _), List.take_length]
 have hlen : l.length = pre.length + 8 + p.length + post.length := by
  rw [e, List.length_append, List.length_append, frameOf_length]; omega
 refine ⟨w1, hr, ?_, ?_, ?_, ?_⟩
 ·omega
 ·omega
 ·omega
 ·rw [hr, w1, w2]
def framesOf (rs : List (List UInt8)) : List UInt8 := (rs.map frameOf).flatten
theorem framesOf_nil : framesOf [] = [] := rfl
theorem framesOf_cons (p : List UInt8) (rs : List (List UInt8)) : framesOf (p :: rs) = frameOf p ++ framesOf rs := rfl
theorem framesOf_append (a b : List (List UInt8)) : framesOf (a ++ b) = framesOf a ++ framesOf b := by simp [framesOf]
theorem scan_frames : ∀ (rs : List (List UInt8)) (l pre post : List UInt8) (f : Nat), (∀ p ∈ rs, p.length ≤ 1048576) → l = pre ++ (framesOf rs ++ post) →
  scanFrom l (rs.length + f) pre.length = (rs ++ (scanFrom l f (pre ++ framesOf rs).length).1, (scanFrom l f (pre ++ framesOf rs).length).2)
 | [], l, pre, post, f, _, _ => by simp [framesOf_nil]
 | p :: rs, l, pre, post, f, h, e => by
  have e1 : l = pre ++ (frameOf p ++ (framesOf rs ++ post)) := by rw [e, framesOf_cons]; simp only [List.append_assoc]
  obtain ⟨w1, r1, f1⟩ := frame_found e1 (h p (List.mem_cons_self ..))
  have e2 : l = (pre ++ frameOf p) ++ (framesOf rs ++ post) := by rw [e1]; simp only [List.append_assoc]
  have ih := scan_frames rs l (pre ++ frameOf p) post f (fun q hq => h q (List.mem_cons_of_mem _ hq)) e2
  have ea : pre.length + 8 + p.length = (pre ++ frameOf p).length := by rw [List.length_append, frameOf_length]; omega
  rw [show (p :: rs).length + f = (rs.length + f) + 1 by simp; omega, scanFrom, if_pos f1, w1, r1, ea, ih, framesOf_cons]
  simp only [List.append_assoc, List.cons_append]
theorem scan_fuel {l : List UInt8} : ∀ (f g a : Nat), l.length < a + f → l.length < a + g → scanFrom l f a = scanFrom l g a
 | 0, 0, _, _, _ => rfl
 | 0, g + 1, a, h, _ => by
  rw [scanFrom, scanFrom, if_neg (by unfold FrameAt; omega)]
 | f + 1, 0, a, _, h => by
  rw [scanFrom, scanFrom, if_neg (by unfold FrameAt; omega)]
 | f + 1, g + 1, a, h1, h2 => by
  rw [scanFrom, scanFrom]
  by_cases hf : FrameAt l a
  ·rw [if_pos hf, if_pos hf]
   have e := scan_fuel (l := l) f g (a + 8 + wordOf l a) (by omega) (by omega)
   rw [e]
  ·rw [if_neg hf, if_neg hf]
theorem scan_of_frames {rs : List (List UInt8)} {l post : List UInt8} (h : ∀ p ∈ rs, p.length ≤ 1048576) (e : l = framesOf rs ++ post) :
  scanOf l = (rs ++ (scanFrom l (l.length + 1) (framesOf rs).length).1, (scanFrom l (l.length + 1) (framesOf rs).length).2) := by
 have := scan_frames rs l [] post (l.length + 1) h (by rw [e]; rfl)
 unfold scanOf
 rw [scan_fuel (l.length + 1) (rs.length + (l.length + 1)) 0 (by omega) (by omega)]
 simpa using this
theorem scan_whole {rs : List (List UInt8)} (h : ∀ p ∈ rs, p.length ≤ 1048576) : scanOf (framesOf rs) = (rs, (framesOf rs).length) := by
 rw [scan_of_frames (post := []) h (by simp)]
 rw [show scanFrom (framesOf rs) ((framesOf rs).length + 1) (framesOf rs).length = ([], (framesOf rs).length) by rw [scanFrom, if_neg (by unfold FrameAt; omega)]]
 simp
theorem scanFrom_le {l : List UInt8} : ∀ (f a : Nat), a ≤ l.length → (scanFrom l f a).2 ≤ l.length
 | 0, a, h => h
 | f + 1, a, h => by
  rw [scanFrom]
  split
  ·rename_i hf; exact scanFrom_le f _ hf.2.2.1
  ·exact h
theorem scanOf_le (l : List UInt8) : (scanOf l).2 ≤ l.length := scanFrom_le _ _ (Nat.zero_le _)
theorem scanFrom_small {l : List UInt8} : ∀ (f a : Nat), ∀ p ∈ (scanFrom l f a).1, p.length ≤ 1048576
 | 0, a, p, hp => by simp [scanFrom] at hp
 | f + 1, a, p, hp => by
  rw [scanFrom] at hp
  split at hp
  ·rename_i hf
   rcases List.mem_cons.1 hp with rfl | hp
   ·rw [recAt_length hf.2.2.1]; exact hf.2.1
   ·exact scanFrom_small f _ p hp
  ·simp at hp
theorem scanFrom_frames {l : List UInt8} : ∀ (f a : Nat), a ≤ l.length → (scanFrom l f a).2 = a + (framesOf (scanFrom l f a).1).length ∧ (l.drop a).take (framesOf (scanFrom l f a).1).length = framesOf (scanFrom l f a).1
 | 0, a, h => by simp [scanFrom, framesOf_nil]
 | f + 1, a, h => by
  rw [scanFrom]
  by_cases hf : FrameAt l a
  ·rw [if_pos hf]
   obtain ⟨h1, h2, h3, h4⟩ := hf
   obtain ⟨i1, i2⟩ := scanFrom_frames f (a + 8 + wordOf l a) h3
   have hfr := (frame_eq h1 h3).2 h4
   have hl := recAt_length h3
   simp only [framesOf_cons]
   constructor
   ·rw [i1, List.length_append, frameOf_length, hl]; omega
   ·rw [List.length_append, take_split, frameOf_length, hl, ← hfr]
    congr 1
    rw [show a + (8 + wordOf l a) = a + 8 + wordOf l a by omega]
    exact i2
  ·rw [if_neg hf]; simp [framesOf_nil]
theorem info_bytes : (Tryz.prog.info? 22).map (fun i => (i.zero, i.size, i.bytes)) = some (some (.slice none 0 0), 1, 24) := by kernel_rfl
theorem row_push {w : World} {base n : Nat} {v p : Value} {ps : List Value} (h : w.ownsRow base 22 1 v n ps) (hz : base ≤ w.heap.size) (hp : p.oneCell' = true) (hb : n < 1099511627776) :
  ∃ v' w', (Builtin.append_ #[138, 138] 138 #[v, .slice (some ⟨w.heap.size, 0, none⟩) 1 1]).run Tryz.prog (w.alloc (.cells #[p] 22)) = .ok v' w' ∧ w'.ownsRow base 22 1 v' (n + 1) (ps ++ [p]) ∧
   Keeps (fun b => v.ownBlock = some b) w w' ∧ (v'.ownBlock = v.ownBlock ∨ v'.ownBlock = some (w.heap.size + 1)) := by
 obtain ⟨i0, hi, hz0, hz1, hz2⟩ := info_parts info_bytes
 obtain ⟨v', w', hrun, ho2, hg, _, hat⟩ := run_append_own_at (P := Tryz.prog) (w.alloc (.cells #[p] 22)) base 138 138 22 i0 _ 1 24 Tryz.underlying138 hi hz0 hz1 hz2 rfl (by omega) v n ps (h.alloc _) ⟨w.heap.size, 0, none⟩ 1 1 [p] rfl
  (fun j u hu => by
   rw [Addr.add_lit, Nat.zero_add]
   exact cell_at (heap_alloc_new w _) (by simpa using hu))
  (by intro u hu; simp at hu; subst hu; exact hp) (by unfold maxLen; omega) (by omega) (by simp only [World.size_alloc]; omega)
 refine ⟨v', w', hrun, ho2, ((Keeps.refl _ w).alloc _).trans (Keeps.of_grown hg) (fun _ _ h => h), ?_⟩
 simpa using hat
theorem row_keep {w w' : World} {base e n : Nat} {v : Value} {xs : List Value} (h : w.ownsRow base e 1 v n xs) {F : Nat → Prop} (hk : Keeps F w w') (hF : ∀ b, v.ownBlock = some b → ¬ F b) : w'.ownsRow base e 1 v n xs := by
 obtain ⟨h1, h2⟩ := h
 refine ⟨h1, ?_⟩
 rcases h2 with h2 | ⟨g, cap, cur, rfl, hg, hb, h3, h4, h5, h6⟩
 ·exact .inl h2
 ·exact .inr ⟨g, cap, cur, rfl, hg, hk.at hb (hF g rfl), h3, h4, h5, h6⟩
theorem row_lt {w : World} {base e n : Nat} {v : Value} {xs : List Value} (h : w.ownsRow base e 1 v n xs) : ∀ b, v.ownBlock = some b → b < w.heap.size ∧ base ≤ b := by
 rcases h.2 with ⟨rfl, _⟩ | ⟨g, cap, cur, rfl, hg, hb, _⟩
 ·intro b hb; cases hb
 ·intro b hb'
  cases hb'
  exact ⟨lt_of_heap hb, hg⟩
theorem row_base {w : World} {base base' e n : Nat} {v : Value} {xs : List Value} (h : w.ownsRow base e 1 v n xs) (hb : base' ≤ base) : w.ownsRow base' e 1 v n xs := by
 obtain ⟨h1, h2⟩ := h
 refine ⟨h1, ?_⟩
 rcases h2 with h2 | ⟨g, cap, cur, rfl, hg, h3⟩
 ·exact .inl h2
 ·exact .inr ⟨g, cap, cur, rfl, by omega, h3⟩
theorem row_ne {w : World} {base base' n n' : Nat} {v p : Value} {xs ys : List Value} (h : w.ownsRow base 22 1 v n xs) (k : w.ownsRow base' 5 1 p n' ys) {b : Nat} (hb : v.ownBlock = some b) (hb' : p.ownBlock = some b) : False := by
 obtain ⟨c1, e1⟩ := ownsRow_type h hb
 obtain ⟨c2, e2⟩ := ownsRow_type k hb'
 have := e1.symm.trans e2
 simp at this
def OwnsRecs (w : World) (base : Nat) (v : Value) (ll : List (List UInt8)) : Prop :=
 ∃ ps : List Value, w.ownsRow base 22 1 v ll.length ps ∧ Rel2 (fun p l => Owns w base p l) ps ll ∧ ps.Pairwise (fun p q => ∀ b, p.ownBlock = some b → q.ownBlock ≠ some b)
theorem OwnsRecs.nil (w : World) (base : Nat) : OwnsRecs w base (.slice none 0 0) [] := ⟨[], ⟨rfl, .inl ⟨rfl, rfl⟩⟩, trivial, List.Pairwise.nil⟩
theorem Rel2.mem {α β : Type} {R : α → β → Prop} : ∀ {l : List α} {m : List β}, Rel2 R l m → ∀ a ∈ l, ∃ b, R a b
 | a :: xs, b :: bs, h, x, hx => by
  rcases List.mem_cons.1 hx with rfl | hx
  ·exact ⟨b, h.1⟩
  ·exact Rel2.mem h.2 x hx
 | [], _, _, x, hx => by simp at hx
 | _ :: _, [], h, _, _ => h.elim
theorem OwnsRecs.form {w : World} {base : Nat} {v : Value} {ll : List (List UInt8)} (h : OwnsRecs w base v ll) : ∃ a c, v = .slice a ll.length c := by
 obtain ⟨ps, h1, _⟩ := h
 exact ownsRow_slice h1
theorem OwnsRecs.keep {w w' : World} {base : Nat} {v : Value} {ll : List (List UInt8)} (h : OwnsRecs w base v ll) (hk : Keeps (fun _ => False) w w') : OwnsRecs w' base v ll := by
 obtain ⟨ps, h1, h2, h3⟩ := h
 exact ⟨ps, row_keep h1 hk (fun _ _ e => e), h2.mono (fun p l hp => hp.keep hk), h3⟩
theorem OwnsRecs.push {w0 w : World} {base : Nat} {v p : Value} {ll : List (List UInt8)} {l : List UInt8} (h : OwnsRecs w0 base v ll) (hz : base ≤ w0.heap.size) (hk0 : Keeps (fun _ => False) w0 w) (hp : Owns w w0.heap.size p l) (hb : ll.length < 1099511627776) :
  ∃ v' w', (Builtin.append_ #[138, 138] 138 #[v, .slice (some ⟨w.heap.size, 0, none⟩) 1 1]).run Tryz.prog (w.alloc (.cells #[p] 22)) = .ok v' w' ∧ OwnsRecs w' base v' (ll ++ [l]) ∧ Keeps (fun b => v.ownBlock = some b) w w' := by
 obtain ⟨ps, h1, h2, h3⟩ := h
 have hp1 : p.oneCell' = true := by obtain ⟨a, c, rfl, _⟩ := hp.bytes.form; rfl
 have h1' := row_keep h1 hk0 (fun _ _ e => e)
 obtain ⟨v', w', hr, ho, hk, _⟩ := row_push h1' (Nat.le_trans hz hk0.size) hp1 hb
 refine ⟨v', w', hr, ⟨ps ++ [p], by rw [List.length_append]; exact ho, ?_, ?_⟩, hk⟩
 ·have hp2 : Owns w' w0.heap.size p l := owns_keep hp hk (fun b hb e => row_ne h1' hp e hb)
  refine Rel2.append (h2.mono (fun q m hq => ?_)) ⟨hp2.base hz, trivial⟩
  have hq' := hq.keep hk0
  exact owns_keep hq' hk (fun b hb e => row_ne h1' hq' e hb)
 ·rw [List.pairwise_append]
  refine ⟨h3, List.pairwise_singleton .., fun q hq r hr b hb e => ?_⟩
  simp at hr
  subst hr
  obtain ⟨m, hm⟩ := h2.mem q hq
  have e1 := owns_lt hm b hb
  have e2 := owns_lt hp b e
  omega
theorem copy_run {w : World} {pv : Value} {p : List UInt8} (hp : Reads w pv p) (hb : p.length ≤ 140737488355328) :
  ∃ v' w', (Builtin.append_ #[22, 22] 22 #[.slice (some ⟨w.heap.size, 0, none⟩) 0 0, pv]).run Tryz.prog (w.alloc (.cells #[] 5)) = .ok v' w' ∧ Owns w' w.heap.size v' p ∧ Keeps (fun _ => False) w w' := by
 have hk : Keeps (fun _ => False) w (w.alloc (.cells #[] 5)) := (Keeps.refl _ w).alloc _
 have ho : Owns (w.alloc (.cells #[] 5)) w.heap.size (.slice (some ⟨w.heap.size, 0, none⟩) 0 0) [] :=
  ⟨rfl, .inr ⟨w.heap.size, 0, #[], rfl, Nat.le_refl _, heap_alloc_new w _, Nat.le_refl _, Nat.zero_le _, by simp, by simp⟩⟩
 obtain ⟨v', w', hr, h2, hk2⟩ := ho.grow (by simp) (hp.keep hk) (by simpa using hb)
 refine ⟨v', w', hr, by simpa using h2, hk.trans hk2 (fun b hb e => ?_)⟩
 have : w.heap.size = b := by simpa [Value.ownBlock] using e
 omega
def RPost (w : World) (ll : List (List UInt8)) (n : Int) (e : Ending) (w' : World) : Prop := ∃ v, e = .returned (.tuple #[v, .int .i64 n]) ∧ OwnsRecs w' w.heap.size v ll ∧ Keeps (fun _ => False) w w'
end Go.Proofs.YtlcnhpjggjgnpaaGreatDoor
