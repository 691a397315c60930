/- A part of the proof. -/
import Derived.Test.YtddnikpdmjogiaaGreatYa1
import Derived.Shelf.SlMaps.Clone
import Derived.Lib.SlBytesConst
import Derived.Laws.IdiomStrings
import Derived.Lib.BufferRead
namespace Go.Proofs.YtddnikpdmjogiaaGreat
open Go.RowKit Go.MapKept
open Go.ChangeMaps (setBlock)
set_option maxRecDepth 100000 in
theorem mclone_runs (w : World) (b : Nat) (es : Array MapEntry) (clock : Nat) (hb : w.heap[b]? = some (.map es clock)) :
  Runs 123 #[.map (some b)] w (.map (some w.heap.size)) (w.alloc (.map es clock)) := by
 have hq := fun w => run_eql_map_nil_sl (P := Tryz.prog) w 77 _ _ (some b) Tryz.underlying77
 unfold Runs
 go_enter Tryz.func123, Tryz.ntmps123
 go_wp2
 rw [run_callFunc_extern Tryz.func149 (by kernel_rfl) (by kernel_rfl) (by kernel_rfl) (e := Extern.MapsClone.clone) (by kernel_rfl), run_maps_clone_sl w 77 hb]
 simp only [Result.andThen]
 rw [Oper.upon_value]
 go_wp2
 rw [run_typeAssert_map_sl _ 77 20 _ _ _ Tryz.underlying77]
 simp only [Result.andThen]
 rw [Oper.upon_value]
 go_wp2
 go_ret
 exact ⟨rfl, rfl⟩
theorem MapFs.copy {F : Nat → Prop} {w : World} {b : Nat} {fs : FS} (h : MapFs F w b fs) :
  ∃ w', Runs 123 #[.map (some b)] w (.map (some w.heap.size)) w' ∧ MapFs F w' w.heap.size fs ∧ Keeps (fun _ => False) w w' ∧ w'.heap.size = w.heap.size + 1 := by
 obtain ⟨es, clock, l, hb, hs, hr, hp⟩ := h
 refine ⟨_, mclone_runs w b es clock hb, ⟨es, clock, l, heap_alloc_new w _, hs, ?_, hp⟩, (Keeps.refl _ w).alloc _, by simp⟩
 exact hr.mono (fun e p hep => ⟨hep.1, hep.2.keep ((KeepU8.refl F w).alloc _) (fun _ h _ => h)⟩)
def newOf (room : Int) : DM := { room := room, now := [], sure := [], loose := [], fuse := -1, down := false }
theorem new_raw (w : World) (room : Int) (h0 : 0 ≤ room) (h1 : room ≤ 67108864) :
  Runs 5 #[.int .i64 room] w (.tuple #[.pointer (some ⟨w.heap.size + 2, 0, none⟩), .int .i64 0])
   (((w.alloc (.map #[] 0)).alloc (.map #[] 0)).alloc (.cells #[.int .i64 room, .map (some w.heap.size), .map (some (w.heap.size + 1)), .slice none 0 0, .int .i64 (-1), .bool false] 80)) := by
 have hmm := @run_makeMap Tryz.prog
 unfold Runs
 go_enter Tryz.func5, Tryz.ntmps5
 go_wp2
 go_ret2
 exact ⟨rfl, rfl⟩
theorem new_runs (w : World) (room : Int) (h0 : 0 ≤ room) (h1 : room ≤ 67108864) :
  ∃ d w', Runs 5 #[.int .i64 room] w (.tuple #[.pointer (some ⟨d, 0, none⟩), .int .i64 0]) w' ∧ DiskIs (Ext (fun _ => False) w w') w' d (newOf room) ∧ Keeps (fun _ => False) w w' := by
 have hmap : ∀ (F : Nat → Prop) (w : World) (b : Nat), w.heap[b]? = some (.map #[] 0) → MapFs F w b [] := fun F w b hb => ⟨#[], 0, [], hb, stamped_empty 0, trivial, List.Perm.refl _⟩
 refine ⟨_, _, new_raw w room h0 h1, ⟨w.heap.size, w.heap.size + 1, .slice none 0 0, ?_, .inr ⟨by omega, by simp⟩, .inr ⟨by omega, by simp <;> omega⟩, .inr ⟨by omega, by simp <;> omega⟩, by omega, hmap _ _ _ ?_, hmap _ _ _ ?_, ⟨[], trivial, World.ownsRow_nil _ _ _ _, fun b hb => by cases hb⟩, ?_⟩, (((Keeps.refl _ w).alloc _).alloc _).alloc _⟩
 ·have e2 : w.heap.size + 2 = ((w.alloc (.map #[] 0)).alloc (.map #[] 0)).heap.size := by simp
  rw [e2]
  exact heap_alloc_new ((w.alloc _).alloc _) _
 ·rw [Below.heap_alloc _ _ _ (by simp; omega), Below.heap_alloc _ _ _ (by simp)]; exact heap_alloc_new w _
 ·have e2 : w.heap.size + 1 = (w.alloc (.map #[] 0)).heap.size := by simp
  rw [Below.heap_alloc _ _ _ (by simp), e2]; exact heap_alloc_new (w.alloc _) _
 ·intro b hb
  rcases hb with hb | hb
  ·exact hb.elim
  ·exact hb.2
def CInv (F : Nat → Prop) (w wr : World) (bs : Nat) (fs : FS) : Prop := Keeps (fun b => b = bs) w wr ∧ MapFs (fun i => F i ∨ w.heap.size ≤ i) wr bs fs
theorem crash_step {F : Nat → Prop} {w wr : World} {d bn bs : Nat} {vl : Value} {m : DM} {fs : FS} (hA : DiskAt F w d bn bs vl m) (hI : CInv F w wr bs fs) (c : Ch) {pv : Value} (hp : Bytes F w pv c.p) (hfit : Fits fs c) :
  ∃ w2, Runs 121 #[.map (some bs), .agg #[.int .i64 c.kind, .string c.a, .string c.b, pv]] (wr.alloc (.cells #[.int .i64 c.kind, .string c.a, .string c.b, pv] 191)).drew (.tuple #[]) w2 ∧ CInv F w w2 bs (doCh fs c) := by
 obtain ⟨hk, hm⟩ := hI
 have hz := hk.size
 have h1 : MapFs (fun i => F i ∨ w.heap.size ≤ i) (wr.alloc (.cells #[.int .i64 c.kind, .string c.a, .string c.b, pv] 191)).drew bs fs := hm.keep (Below.heap_alloc _ _ _ hm.lt) ((KeepU8.refl _ _).alloc _).drew (fun _ h _ => h)
 have hku : KeepU8 F w wr := KeepU8.of_keeps hk (fun g cs fz _ e hg => by subst e; exact hA.sure.notU8 _ _ _ hg)
 have hp1 : Bytes (fun i => F i ∨ w.heap.size ≤ i) (wr.alloc (.cells #[.int .i64 c.kind, .string c.a, .string c.b, pv] 191)).drew pv c.p := hp.keep (hku.alloc _).drew (fun _ h _ => .inl h)
 obtain ⟨w2, hr, h2, k2⟩ := do_calls h1 c hp1 hfit
 refine ⟨w2, hr, ?_, h2.keep rfl (KeepU8.refl _ _) (fun b hb _ => by rcases hb with hb | hb; exact hb; exact .inr (by simp at hb; omega))⟩
 exact ((hk.alloc _).drew).trans k2 (fun _ _ e => e)
theorem chCells_get : ∀ {ps : List Value} {cs : List Ch} {k : Nat} {p : Value} {c : Ch}, ps.length = cs.length → ps[k]? = some p → cs[k]? = some c →
  (chCells ps cs)[k * 4]? = some (.int .i64 c.kind) ∧ (chCells ps cs)[k * 4 + 1]? = some (.string c.a) ∧ (chCells ps cs)[k * 4 + 2]? = some (.string c.b) ∧ (chCells ps cs)[k * 4 + 3]? = some p
 | q :: ps, d :: cs, 0, p, c, _, hp, hc => by simp at hp hc; subst hp; subst hc; simp [chCells]
 | q :: ps, d :: cs, k + 1, p, c, hl, hp, hc => by
  have := chCells_get (ps := ps) (cs := cs) (k := k) (by simpa using hl) (by simpa using hp) (by simpa using hc)
  rw [show (k + 1) * 4 = k * 4 + 4 by omega]
  simpa [chCells] using this
 | [], _, _, _, _, _, hp, _ => by simp at hp
 | _ :: _, [], _, _, _, hl, _, _ => by simp at hl
theorem chs_cells {F : Nat → Prop} {w : World} {g n cap : Nat} {cs : List Ch} (h : ChsAt F w (.slice (some ⟨g, 0, none⟩) n cap) cs) {k : Nat} {c : Ch} (hc : cs[k]? = some c) :
  ∃ pa pc, Bytes F w (.slice pa c.p.length pc) c.p ∧ ∀ w' : World, w'.heap[g]? = w.heap[g]? →
   w'.cell? ⟨g, k * 4, none⟩ = some (.int .i64 c.kind) ∧ w'.cell? ⟨g, k * 4 + 1, none⟩ = some (.string c.a) ∧ w'.cell? ⟨g, k * 4 + 2, none⟩ = some (.string c.b) ∧ w'.cell? ⟨g, k * 4 + 3, none⟩ = some (.slice pa c.p.length pc) := by
 obtain ⟨ps, h1, h2, h3⟩ := h
 obtain ⟨p, hp, hb⟩ := h1.get' hc
 obtain ⟨pa, pc, rfl, _, _⟩ := hb.form
 refine ⟨pa, pc, hb, fun w' hw => ?_⟩
 obtain ⟨e0, e1, e2, e3⟩ := chCells_get h1.length hp hc
 have hcell := h2.cells (g := g) rfl
 have conv : ∀ j u, (chCells ps cs)[j]? = some u → w'.cell? ⟨g, j, none⟩ = some u := fun j u hj => by
  have := hcell j u hj
  rw [Addr.add_lit, Nat.zero_add] at this
  rw [World.cell?_of_block (w := w) (a := ⟨g, j, none⟩) hw]; exact this
 exact ⟨conv _ _ e0, conv _ _ e1, conv _ _ e2, conv _ _ e3⟩
def crashed (m : DM) (fs : FS) : DM := { room := m.room, now := fs, sure := fs, loose := [], fuse := -1, down := false }
theorem crash_end {F : Nat → Prop} {w w3 : World} {d bn bs : Nat} {vl : Value} {m : DM} {fs : FS} (hA : DiskAt F w d bn bs vl m) (hI : CInv F w w3 bs fs) :
  ∃ w4, Runs 123 #[.map (some bs)] w3 (.map (some w3.heap.size)) w4 ∧ ((∀ i, i < 6 → ∃ v, w4.cell? ⟨d, i, none⟩ = some v) ∧ ∀ i, w4.frozen? ⟨d, i, none⟩ = false) ∧
   DPost F w d (0, crashed m fs) (.returned (.int .i64 0)) ((((w4.setCell ⟨d, 1, none⟩ (.map (some w3.heap.size))).setCell ⟨d, 3, none⟩ (.slice none 0 0)).setCell ⟨d, 4, none⟩ (.int .i64 (-1))).setCell ⟨d, 5, none⟩ (.bool false)) := by
 obtain ⟨hk, hm⟩ := hI
 obtain ⟨w4, hr, h4, k4, z4⟩ := hm.copy
 have hz := hk.size
 have hds : d ≠ bs := fun e => by subst e; exact hA.sure.notU8 _ _ _ hA.blk
 have hd3 : w3.heap[d]? = _ := hk.at hA.blk hds
 have hd4 : w4.heap[d]? = _ := k4.at hd3 (fun e => e)
 refine ⟨w4, hr, ⟨fun i hi => ⟨_, cell_at hd4 (Array.getElem?_eq_getElem (by simpa using hi))⟩, fun i => free_at hd4 i⟩, rfl, ?_, ?_⟩
 ·have hne : ∀ b, b ≠ d → ((((w4.setCell ⟨d, 1, none⟩ (.map (some w3.heap.size))).setCell ⟨d, 3, none⟩ (.slice none 0 0)).setCell ⟨d, 4, none⟩ (.int .i64 (-1))).setCell ⟨d, 5, none⟩ (.bool false)).heap[b]? = w4.heap[b]? := fun b hb => by
   rw [Below.heap_setCell _ _ _ _ hb, Below.heap_setCell _ _ _ _ hb, Below.heap_setCell _ _ _ _ hb, Below.heap_setCell _ _ _ _ hb]
  have hd5 := heap_setCell_eq (heap_setCell_eq (heap_setCell_eq (heap_setCell_eq hd4 1 (.map (some w3.heap.size))) 3 (.slice none 0 0)) 4 (.int .i64 (-1))) 5 (.bool false)
  have hku : ∀ G, KeepU8 G w4 ((((w4.setCell ⟨d, 1, none⟩ (.map (some w3.heap.size))).setCell ⟨d, 3, none⟩ (.slice none 0 0)).setCell ⟨d, 4, none⟩ (.int .i64 (-1))).setCell ⟨d, 5, none⟩ (.bool false)) := fun G g cs fz _ hg => by
   rw [hne g (fun e => by subst e; rw [hd4] at hg; simp at hg)]; exact hg
  have hlt := hA.lt d hA.fd
  have hlt2 := hA.lt bs hA.fbs
  have hext : ∀ b, (F b ∨ w.heap.size ≤ b) → b < w4.heap.size → Ext F w ((((w4.setCell ⟨d, 1, none⟩ (.map (some w3.heap.size))).setCell ⟨d, 3, none⟩ (.slice none 0 0)).setCell ⟨d, 4, none⟩ (.int .i64 (-1))).setCell ⟨d, 5, none⟩ (.bool false)) b := fun b hb hb2 => by
   rcases hb with hb | hb
   ·exact .inl hb
   ·exact .inr ⟨hb, by simpa using hb2⟩
  refine ⟨w3.heap.size, bs, .slice none 0 0, ?_, .inl hA.fd, hext _ (.inr (by omega)) (by omega), .inl hA.fbs, by omega, ?_, ?_, ⟨[], trivial, World.ownsRow_nil _ _ _ _, fun b hb => by cases hb⟩, ?_⟩
  ·rw [hd5]; simp [crashed]
  ·exact h4.keep (hne _ (by omega)) (hku _) hext
  ·exact (hm.keep (k4.block bs hm.lt (fun e => e)) (KeepU8.of_none k4) (fun _ h _ => h)).keep (hne _ (Ne.symm hds)) (hku _) hext
  ·intro b hb
   rcases hb with hb | hb
   ·have := hA.lt b hb; simp; omega
   ·exact hb.2
 ·have a1 : Keeps F w w3 := hk.mono (fun b _ e => by subst e; exact hA.fbs)
  have a2 : Keeps F w w4 := a1.trans k4 (fun _ _ e => e.elim)
  exact (((a2.setCell (fun _ => hA.fd) _).setCell (fun _ => hA.fd) _).setCell (fun _ => hA.fd) _).setCell (fun _ => hA.fd) _
theorem Bytes.take {F : Nat → Prop} {w : World} {a : Option Addr} {c n : Nat} {l : List UInt8} (h : Bytes F w (.slice a n c) l) (j : Nat) (hj : j ≤ l.length) : Bytes F w (.slice a j c) (l.take j) := by
 have hl : (l.take j).length = j := by simp; omega
 rcases h with ⟨e, rfl⟩ | ⟨g, off, cap, cs, fz, e, hF, hb, h1, h2, h3, h4⟩
 ·simp only [Value.slice.injEq] at e
  obtain ⟨rfl, rfl, rfl⟩ := e
  simp at hj; subst hj
  exact Bytes.nil _ _
 ·simp only [Value.slice.injEq] at e
  obtain ⟨rfl, rfl, rfl⟩ := e
  refine .inr ⟨g, off, c, cs, fz, by rw [hl], hF, hb, by omega, h2, h3, fun i x hx => ?_⟩
  rw [List.getElem?_take] at hx
  split at hx
  ·exact h4 _ _ hx
  ·cases hx
def clampI (n : Int) (most : Nat) : Nat := if n < 0 then 0 else if (most : Int) < n then most else n.toNat
def crashFs (m : DM) (keep part : Int) : FS :=
 let fs := (m.loose.take (clampI keep m.loose.length)).foldl doCh m.sure
 match m.loose[clampI keep m.loose.length]? with
 | some c => if c.kind = 1 then doCh fs { c with p := c.p.take (clampI part c.p.length) } else fs
 | none => fs
def crashOf (m : DM) (keep part : Int) : DM := crashed m (crashFs m keep part)
theorem clampI_le (n : Int) (most : Nat) : clampI n most ≤ most := by
 unfold clampI
 split
 ·omega
 ·split <;> omega
theorem clampI_min (n : Int) (most : Nat) : (if 0 < (if (most : Int) < n then (most : Int) else n) then (if (most : Int) < n then (most : Int) else n) else 0) = ((clampI n most : Nat) : Int) := by
 unfold clampI
 by_cases h1 : n < 0
 ·have h2 : ¬ (most : Int) < n := by omega
  have h3 : ¬ 0 < n := by omega
  simp [h1, h2, h3]
 ·by_cases h2 : (most : Int) < n
  ·simp only [h1, h2, if_true, if_false]
   split <;> omega
  ·simp only [h1, h2, if_false]
   split <;> omega
def CrashRel (F : Nat → Prop) (w : World) (bs : Nat) (m : DM) (K : Nat) (i : Value) (wr : World) : Prop :=
 ∃ k : Nat, k ≤ K ∧ i = .int .i64 (k : Int) ∧ CInv F w wr bs ((m.loose.take k).foldl doCh m.sure)
theorem cells_of_cinv {F : Nat → Prop} {w wr : World} {d bn bs : Nat} {vl : Value} {m : DM} {fs : FS} (hA : DiskAt F w d bn bs vl m) (hI : CInv F w wr bs fs) :
  wr.cell? ⟨d, 2, none⟩ = some (.map (some bs)) ∧ wr.cell? ⟨d, 3, none⟩ = some vl ∧ d < wr.heap.size := by
 have hds : d ≠ bs := fun e => by subst e; exact hA.sure.notU8 _ _ _ hA.blk
 have hd3 : wr.heap[d]? = _ := hI.1.at hA.blk hds
 exact ⟨cell_at hd3 rfl, cell_at hd3 rfl, lt_of_heap hd3⟩
theorem row_of_cinv {F : Nat → Prop} {w wr : World} {d bn bs g n cap : Nat} {m : DM} {fs : FS} (hA : DiskAt F w d bn bs (.slice (some ⟨g, 0, none⟩) n cap) m) (hI : CInv F w wr bs fs) : wr.heap[g]? = w.heap[g]? := by
 obtain ⟨_, _, h2, _⟩ := hA.loose
 obtain ⟨cur, hg⟩ := ownsRow_type h2 (b := g) rfl
 exact hI.1.block g (lt_of_heap hg) (fun e => by subst e; exact hA.sure.notU8 _ _ _ hg)
set_option maxRecDepth 100000 in
set_option maxHeartbeats 1000000 in
theorem crash_some {F : Nat → Prop} {w : World} {d bn bs g n cap : Nat} {m : DM} (hA : DiskAt F w d bn bs (.slice (some ⟨g, 0, none⟩) n cap) m) (hn : n = m.loose.length) (hnc : n ≤ cap) (hcap : 0 < cap) (hcm : (cap : Int) ≤ 9223372036854775807)
  (keep part : Int) (K : Nat) (hK : K = clampI keep n)
  (hfits : ∀ k c, m.loose[k]? = some c → Fits ((m.loose.take k).foldl doCh m.sure) c ∧ ∀ j, Fits ((m.loose.take k).foldl doCh m.sure) { c with p := c.p.take j }) :
  Calls Tryz.prog 65 #[.pointer (some ⟨d, 0, none⟩), .int .i64 keep, .int .i64 part] w (DPost F w d (0, crashOf m keep part)) := by
 have hKn : K ≤ n := by rw [hK]; exact clampI_le _ _
 have hmm := clampI_min keep n
 rw [← hK] at hmm
 obtain ⟨kk, hkk⟩ : ∃ kk, (if (n : Int) < keep then (n : Int) else keep) = kk := ⟨_, rfl⟩
 rw [hkk] at hmm
 have hK' : K = clampI keep m.loose.length := by rw [hK, hn]
 obtain ⟨_, c3, _⟩ := cells_of_cinv hA ⟨Keeps.refl _ w, hA.sure.keep rfl (KeepU8.refl _ _) (fun _ h _ => .inl h)⟩
 have hI0 : CInv F w w bs m.sure := ⟨Keeps.refl _ w, hA.sure.keep rfl (KeepU8.refl _ _) (fun _ h _ => .inl h)⟩
 have hcap0 : ¬ cap = 0 := by omega
 have hi0 : (0 : Int) ≤ K := by omega
 have hi1 : (K : Int) ≤ cap := by omega
 have hi2 : (K : Int) ≤ n := by omega
 have HA := hyd hA
 have HN := hyd hn
 have HK := hyd hK'
 have HF := hyd hfits
 clear hA hn hK hK' hfits hKn hnc hcap
 go_enter Tryz.func65, Tryz.ntmps65
 go_wp2
 go_loopw [27] (fun i wr => CrashRel F w bs m K i wr) (fun i _ => K - (intOf i).toNat)
 case atStart => exact ⟨0, Nat.zero_le _, rfl, hI0⟩
 case round =>
  obtain ⟨k, hk, rfl, hI⟩ := hrel
  obtain ⟨c2', c3', hdl⟩ := cells_of_cinv HA.out hI
  have hrow := row_of_cinv HA.out hI
  clear hI0 c3 hmm
  by_cases hlt : k < K
  ·obtain ⟨c, hc⟩ : ∃ c, m.loose[k]? = some c := ⟨m.loose[k]'(by have := HN.out; omega), List.getElem?_eq_getElem _⟩
   obtain ⟨pa, pc, hp, hcells⟩ := chs_cells HA.out.loose hc
   obtain ⟨e0, e1, e2, e3⟩ := hcells wr hrow
   obtain ⟨w2, hd, hI2⟩ := crash_step HA.out hI c hp (HF.out k c hc).1
   have hI2' : CInv F w w2 bs ((m.loose.take (k + 1)).foldl doCh m.sure) := by
    rw [List.take_add_one, hc]; simpa using hI2
   have HI2 := hyd hI2'
   have j0 : (0 : Int) ≤ k := by omega
   have j1 : (k : Int) < K := by omega
   have a2 : (wr.alloc (.cells #[.int .i64 c.kind, .string c.a, .string c.b, .slice pa c.p.length pc] 191)).cell? ⟨d, 2, none⟩ = some (.map (some bs)) := (World.cell?_alloc_lt wr _ ⟨d, 2, none⟩ hdl).trans c2'
   have hbx := load_change (wr.alloc (.cells #[.int .i64 c.kind, .string c.a, .string c.b, .slice pa c.p.length pc] 191)) wr.heap.size _ _ _ _ (heap_alloc_new _ _)
   have HBX := hyd hbx
   have HA2 := hyd a2
   clear hI hI2 hI2' hcells hrow hp c3' hbx a2
   go_wp2
   have hbx := HBX.out
   have a2 := HA2.out
   generalize wr.alloc (.cells #[.int .i64 c.kind, .string c.a, .string c.b, .slice pa c.p.length pc] 191) = W at hbx a2 hd ⊢
   obtain ⟨b0, b1, b2, b3⟩ := hbx
   clear HBX HA2
   go_still_tail 5, (by kernel_rfl)
   change wpList _ _ _ _ _ W.drew
   go_wp2_with (go_at_call 121; refine hd.out.mono ?_; rintro e w' ⟨rfl, rfl⟩)
   go_roundw
   case rel => exact ⟨k + 1, by omega, by go_num, HI2.out⟩
   case measure => simp [intOf]; omega
  ·obtain rfl : k = K := by omega
   clear hlt
   by_cases hKn : k < n
   ·obtain ⟨c, hc⟩ : ∃ c, m.loose[k]? = some c := ⟨m.loose[k]'(by have := HN.out; omega), List.getElem?_eq_getElem _⟩
    obtain ⟨pa, pc, hp, hcells⟩ := chs_cells HA.out.loose hc
    obtain ⟨e0, e1, e2, e3⟩ := hcells wr hrow
    have j0 : (0 : Int) ≤ k := by omega
    have j1 : (k : Int) < n := by omega
    by_cases hk1 : c.kind = 1
    ·have hfit := (HF.out k c hc).2 (clampI part c.p.length)
     have hcr : crashOf m keep part = crashed m (doCh ((m.loose.take k).foldl doCh m.sure) { c with p := c.p.take (clampI part c.p.length) }) := by
      unfold crashOf crashFs
      rw [← HK.out, hc]
      simp [hk1]
     obtain ⟨ck, ca, cb, cp⟩ := c
     simp only at *
     subst hk1
     have hj := clampI_le part cp.length
     have hjm := clampI_min part cp.length
     generalize clampI part cp.length = j at *
     obtain ⟨pk, hpk⟩ : ∃ pk, (if (cp.length : Int) < part then (cp.length : Int) else part) = pk := ⟨_, rfl⟩
     rw [hpk] at hjm
     have hpcap := hp.form
     obtain ⟨pa', pc', epa, hpc1, hpc2⟩ := hpcap
     simp only [Value.slice.injEq, true_and] at epa
     obtain ⟨rfl, rfl⟩ := epa
     obtain ⟨w2, hd, hI2⟩ := crash_step HA.out hI ⟨1, ca, cb, cp.take j⟩ (hp.take j hj) hfit
     have hbx := load_change (wr.alloc (.cells #[.int .i64 1, .string ca, .string cb, .slice pa j pc] 191)) wr.heap.size _ _ _ _ (heap_alloc_new _ _)
     have a2 : (wr.alloc (.cells #[.int .i64 1, .string ca, .string cb, .slice pa j pc] 191)).cell? ⟨d, 2, none⟩ = some (.map (some bs)) := (World.cell?_alloc_lt wr _ ⟨d, 2, none⟩ hdl).trans c2'
     have HBX := hyd hbx
     have HA2 := hyd a2
     have HI2 := hyd hI2
     have HCR := hyd hcr
     have q0 : (0 : Int) ≤ j := by omega
     have q1 : (j : Int) ≤ pc := by omega
     by_cases hpc0 : pc = 0
     ·subst hpc0
      obtain rfl : j = 0 := by omega
      replace hjm : (if 0 < pk then pk else 0) = (0 : Int) := hjm
      clear hI hI2 hcells hrow hp hbx a2 hcr hc hfit hpc1 hpc2 q0 q1
      go_wp2
      have hbx := HBX.out
      have a2 := HA2.out
      generalize wr.alloc (.cells #[.int .i64 1, .string ca, .string cb, .slice pa 0 0] 191) = W at hbx a2 hd ⊢
      obtain ⟨b0, b1, b2, b3⟩ := hbx
      clear HBX HA2
      go_still_tail 5, (by kernel_rfl)
      change wpList _ _ _ _ _ W.drew
      obtain ⟨w4, hcl, ⟨hc4, hf4⟩, hpost⟩ := crash_end HA.out HI2.out
      rw [← HCR.out] at hpost
      obtain ⟨v1, g1⟩ := hc4 1 (by omega)
      obtain ⟨v3, g3⟩ := hc4 3 (by omega)
      obtain ⟨v4, g4⟩ := hc4 4 (by omega)
      obtain ⟨v5, g5⟩ := hc4 5 (by omega)
      obtain ⟨c2w, _, _⟩ := cells_of_cinv HA.out HI2.out
      have HP := hyd hpost
      clear hc4 hpost
      go_wp2_with (first | (go_at_call 121; refine hd.out.mono ?_; rintro e w' ⟨rfl, rfl⟩) | (go_at_call 123; refine hcl.out.mono ?_; rintro e w' ⟨rfl, rfl⟩))
      go_ret
      exact HP.out
     ·clear hI hI2 hcells hrow hp hbx a2 hcr hc hfit hpc1 hpc2
      go_wp2
      have hbx := HBX.out
      have a2 := HA2.out
      generalize wr.alloc (.cells #[.int .i64 1, .string ca, .string cb, .slice pa j pc] 191) = W at hbx a2 hd ⊢
      obtain ⟨b0, b1, b2, b3⟩ := hbx
      clear HBX HA2
      go_still_tail 5, (by kernel_rfl)
      change wpList _ _ _ _ _ W.drew
      obtain ⟨w4, hcl, ⟨hc4, hf4⟩, hpost⟩ := crash_end HA.out HI2.out
      rw [← HCR.out] at hpost
      obtain ⟨v1, g1⟩ := hc4 1 (by omega)
      obtain ⟨v3, g3⟩ := hc4 3 (by omega)
      obtain ⟨v4, g4⟩ := hc4 4 (by omega)
      obtain ⟨v5, g5⟩ := hc4 5 (by omega)
      obtain ⟨c2w, _, _⟩ := cells_of_cinv HA.out HI2.out
      have HP := hyd hpost
      clear hc4 hpost
      go_wp2_with (first | (go_at_call 121; refine hd.out.mono ?_; rintro e w' ⟨rfl, rfl⟩) | (go_at_call 123; refine hcl.out.mono ?_; rintro e w' ⟨rfl, rfl⟩))
      go_ret
      exact HP.out
    ·have hcr : crashOf m keep part = crashed m ((m.loose.take k).foldl doCh m.sure) := by
      unfold crashOf crashFs
      rw [← HK.out, hc]
      simp [hk1]
     obtain ⟨w4, hcl, ⟨hc4, hf4⟩, hpost⟩ := crash_end HA.out hI
     rw [← hcr] at hpost
     obtain ⟨v1, g1⟩ := hc4 1 (by omega)
     obtain ⟨v3, g3⟩ := hc4 3 (by omega)
     obtain ⟨v4, g4⟩ := hc4 4 (by omega)
     obtain ⟨v5, g5⟩ := hc4 5 (by omega)
     have HP := hyd hpost
     have hb : (c.kind == 1) = false := by simpa using hk1
     clear hI hcells hrow hp hc4 hpost hcr hk1 hc
     go_wp2_with (go_at_call 123; refine hcl.out.mono ?_; rintro e w' ⟨rfl, rfl⟩)
     go_ret
     exact HP.out
   ·have hcr : crashOf m keep part = crashed m ((m.loose.take k).foldl doCh m.sure) := by
     unfold crashOf crashFs
     rw [← HK.out, List.getElem?_eq_none (by have := HN.out; omega)]
    obtain ⟨w4, hcl, ⟨hc4, hf4⟩, hpost⟩ := crash_end HA.out hI
    rw [← hcr] at hpost
    obtain ⟨v1, g1⟩ := hc4 1 (by omega)
    obtain ⟨v3, g3⟩ := hc4 3 (by omega)
    obtain ⟨v4, g4⟩ := hc4 4 (by omega)
    obtain ⟨v5, g5⟩ := hc4 5 (by omega)
    have HP := hyd hpost
    have hb : ¬ (k : Int) < n := by omega
    clear hI hrow hc4 hpost hcr hKn
    go_wp2_with (go_at_call 123; refine hcl.out.mono ?_; rintro e w' ⟨rfl, rfl⟩)
    go_ret
    exact HP.out
set_option maxRecDepth 100000 in
set_option maxHeartbeats 400000 in
theorem crash_empty {F : Nat → Prop} {w : World} {d bn bs cap : Nat} {a : Option Addr} {m : DM} (hA : DiskAt F w d bn bs (.slice a 0 cap) m) (hn : m.loose = []) (keep part : Int) :
  Calls Tryz.prog 65 #[.pointer (some ⟨d, 0, none⟩), .int .i64 keep, .int .i64 part] w (DPost F w d (0, crashOf m keep part)) := by
 have hmm := clampI_min keep 0
 rw [show clampI keep 0 = 0 by have := clampI_le keep 0; omega] at hmm
 obtain ⟨kk, hkk⟩ : ∃ kk, (if (0 : Int) < keep then (0 : Int) else keep) = kk := ⟨_, rfl⟩
 replace hmm : (if 0 < (if (0 : Int) < keep then (0 : Int) else keep) then (if (0 : Int) < keep then (0 : Int) else keep) else 0) = (0 : Int) := hmm
 rw [hkk] at hmm
 have hI : CInv F w w bs m.sure := ⟨Keeps.refl _ w, hA.sure.keep rfl (KeepU8.refl _ _) (fun _ h _ => .inl h)⟩
 obtain ⟨c2, c3, _⟩ := cells_of_cinv hA hI
 have hcr : crashOf m keep part = crashed m m.sure := by
  unfold crashOf crashFs
  simp [hn]
 obtain ⟨w4, hcl, ⟨hc4, hf4⟩, hpost⟩ := crash_end hA hI
 rw [← hcr] at hpost
 obtain ⟨v1, g1⟩ := hc4 1 (by omega)
 obtain ⟨v3, g3⟩ := hc4 3 (by omega)
 obtain ⟨v4, g4⟩ := hc4 4 (by omega)
 obtain ⟨v5, g5⟩ := hc4 5 (by omega)
 have HP := hyd hpost
 clear hA hn hI hc4 hpost hcr
 by_cases hc0 : cap = 0
 all_goals
  go_enter Tryz.func65, Tryz.ntmps65
  go_wp2
  refine wp_loop_rounds 1 ?_
  rw [rounds_succ]
  go_wp2_with (first | (go_at_call 123; refine hcl.out.mono ?_; rintro e w' ⟨rfl, rfl⟩))
  go_ret
  exact HP.out
theorem crash_calls {F : Nat → Prop} {w : World} {d : Nat} {m : DM} (h : DiskIs F w d m) (keep part : Int)
  (hfits : ∀ k c, m.loose[k]? = some c → Fits ((m.loose.take k).foldl doCh m.sure) c ∧ ∀ j, Fits ((m.loose.take k).foldl doCh m.sure) { c with p := c.p.take j }) :
  Calls Tryz.prog 65 #[.pointer (some ⟨d, 0, none⟩), .int .i64 keep, .int .i64 part] w (DPost F w d (0, crashOf m keep part)) := by
 obtain ⟨bn, bs, vl, h⟩ := h
 obtain ⟨ps, h1, h2, h3⟩ := h.loose
 by_cases hn : m.loose = []
 ·obtain ⟨a, c, rfl⟩ := ownsRow_slice h2
  rw [hn] at h
  exact crash_empty (by simpa using h) hn keep part
 ·have hpos : 0 < m.loose.length := List.length_pos_iff.2 hn
  rcases h2.2 with ⟨_, e⟩ | ⟨g, cap, cur, rfl, hg, hb, hnc, hcm, hcs, ht⟩
  ·omega
  ·unfold maxLen at hcm
   exact crash_some h rfl hnc (by omega) (by omega) keep part _ rfl hfits
end Go.Proofs.YtddnikpdmjogiaaGreat
namespace Go.Proofs.YtddnikpdmjogiaaGreat
open Go.RowKit Go.MapKept
theorem fget_perm {l fs : FS} (hp : l.Perm fs) (hn : FNodup fs) (n : ByteArray) : fget l n = fget fs n := by
 have hnl : FNodup l := (hp.map (fun q : ByteArray × List UInt8 => q.1)).nodup_iff.2 hn
 cases h : fget fs n with
 | some x => exact fget_mem hnl (hp.mem_iff.2 (mem_of_fget h))
 | none =>
  cases h' : fget l n with
  | none => rfl
  | some x => rw [fget_mem hn (hp.mem_iff.1 (mem_of_fget h'))] at h; cases h
theorem fget_cons_same (fs : FS) (n : ByteArray) (x : List UInt8) : fget ((n, x) :: fs) n = some x := by simp [fget]
theorem fget_cons_other (fs : FS) (n k : ByteArray) (x : List UInt8) (h : n ≠ k) : fget ((n, x) :: fs) k = fget fs k := by
 unfold fget
 rw [List.find?_cons]
 have : decide (n = k) = false := by simpa using h
 simp [this]
theorem fget_fdel_same (fs : FS) (n : ByteArray) : fget (fdel fs n) n = none := fget_none (fdel_not_mem fs n)
theorem fget_fdel_other (fs : FS) (n k : ByteArray) (h : n ≠ k) : fget (fdel fs n) k = fget fs k := by
 induction fs with
 | nil => rfl
 | cons p fs ih =>
  obtain ⟨a, x⟩ := p
  by_cases ha : a = n
  ·subst ha
   rw [fget_cons_other _ _ _ _ h]
   simpa [fdel] using ih
  ·have e : fdel ((a, x) :: fs) n = (a, x) :: fdel fs n := by simp [fdel, ha]
   rw [e]
   by_cases hk : a = k
   ·subst hk; rw [fget_cons_same, fget_cons_same]
   ·rw [fget_cons_other _ _ _ _ hk, fget_cons_other _ _ _ _ hk, ih]
theorem fget_fput_same {fs : FS} (hn : FNodup fs) (n : ByteArray) (x : List UInt8) : fget (fput fs n x) n = some x := by
 exact (fget_perm (fins_perm (n, x) (fdel fs n)).symm (hn.fput n x) n).symm.trans (fget_cons_same _ _ _)
theorem fget_fput_other {fs : FS} (hn : FNodup fs) (n k : ByteArray) (x : List UInt8) (h : n ≠ k) : fget (fput fs n x) k = fget fs k := by
 exact (fget_perm (fins_perm (n, x) (fdel fs n)).symm (hn.fput n x) k).symm.trans ((fget_cons_other _ _ _ _ h).trans (fget_fdel_other _ _ _ h))
theorem used_fdel : ∀ {fs : FS} (_ : FNodup fs) (n : ByteArray), used (fdel fs n) + ((fget fs n).getD []).length = used fs
 | [], _, _ => rfl
 | (a, x) :: fs, h, n => by
  have h' : a ∉ fs.map (·.1) ∧ (fs.map (·.1)).Nodup := List.nodup_cons.1 h
  by_cases ha : a = n
  ·subst ha
   have e : fdel ((a, x) :: fs) a = fs := by
    have : fdel ((a, x) :: fs) a = fdel fs a := by simp [fdel]
    rw [this, fdel_absent h'.1]
   rw [e, fget_cons_same]
   simp [used]; omega
  ·have e : fdel ((a, x) :: fs) n = (a, x) :: fdel fs n := by simp [fdel, ha]
   have ih := used_fdel (fs := fs) h'.2 n
   rw [e, fget_cons_other _ _ _ _ ha]
   simp only [used]
   omega
theorem used_fput {fs : FS} (hn : FNodup fs) (n : ByteArray) (x : List UInt8) : used (fput fs n x) + ((fget fs n).getD []).length = used fs + x.length := by
 have h1 := used_perm (fins_perm (n, x) (fdel fs n))
 have h2 := used_fdel hn n
 unfold fput
 rw [h1]
 simp only [used]
 omega
theorem used_get {fs : FS} (hn : FNodup fs) (n : ByteArray) : ((fget fs n).getD []).length ≤ used fs := by
 have := used_fdel hn n
 omega
theorem DiskIs.nodup {F : Nat → Prop} {w : World} {d : Nat} {m : DM} (h : DiskIs F w d m) : FNodup m.now := by
 obtain ⟨bn, bs, vl, h⟩ := h
 exact h.now.nodup
structure Calm (m : DM) : Prop where
 down : m.down = false
 fuse : m.fuse = -1
theorem Calm.does {m : DM} (h : Calm m) (c : Ch) : doesOf m c = (0, { m with now := doCh m.now c, loose := m.loose ++ [c] }) := by
 have hf := h.fuse
 simp [doesOf, spendOf, hf]
theorem Calm.there {m : DM} (h : Calm m) {n : ByteArray} (hg : (fget m.now n).isSome = true) : thereOf m n = 0 := by
 simp [thereOf, h.down, hg]
theorem Calm.create {m : DM} (h : Calm m) {n : ByteArray} (hn : isName n = true) (hg : fget m.now n = none) (hl : (m.now.length : Int) < 4096) :
  createOf m n = (0, { m with now := fput m.now n [], loose := m.loose ++ [⟨0, n, ⟨#[]⟩, []⟩] }) := by
 have hl' : ¬ ((4096 : Int) ≤ (m.now.length : Int)) := by omega
 unfold createOf
 rw [h.does]
 simp only [h.down, hn, hg, hl', Bool.false_eq_true, if_false, Bool.not_true, Option.isSome_none, decide_false]
 simp [doCh]
theorem Calm.append {m : DM} (h : Calm m) {n : ByteArray} (hg : (fget m.now n).isSome = true) (p : List UInt8) (hp : (p.length : Int) ≤ 1048576) :
  appendOf m n p = if m.room - (used m.now : Int) < (p.length : Int) then (4, m) else (0, { m with now := fput m.now n ((fget m.now n).getD [] ++ p), loose := m.loose ++ [⟨1, n, ⟨#[]⟩, p⟩] }) := by
 have hp' : ¬ ((1048576 : Int) < (p.length : Int)) := by omega
 unfold appendOf
 rw [h.there hg, h.does]
 simp only [if_true, hp', if_false]
 simp [doCh]
theorem uint_mod (a : Int) (k : Nat) (hk : 0 < k) (hk2 : (k : Int) ≤ 9223372036854775807) : ∃ n : Nat, wrap64 ((IntKind.u64.wrap a).tmod (k : Int)) = (n : Int) ∧ n < k := by
 have h0 : 0 ≤ IntKind.u64.wrap a := by
  simp only [IntKind.wrap, IntKind.signed, IntKind.bits]
  simp
  exact Int.emod_nonneg _ (by decide)
 generalize IntKind.u64.wrap a = x at h0
 rw [Int.tmod_eq_emod_of_nonneg h0]
 have h1 := Int.emod_nonneg x (b := (k : Int)) (by omega)
 have h2 := Int.emod_lt_of_pos x (b := (k : Int)) (by omega)
 refine ⟨(x % (k : Int)).toNat, ?_, by omega⟩
 rw [IntWalk.wrap64_in _ (by omega)]
 omega
theorem wpList_make_run {P : Program} {w : World} {ops : Array Oper} {o : Oper} {rest : List Oper} {a : Act} {Q : Exit → Act → World → Prop}
  (hg : o.guard = none) (l c : Operand) (t : TypeId) (hop : o.op = Op.makeSlice t l c)
  {lv cv v' : Value} {w' : World} (hl : a.eval l = lv) (hc : a.eval c = cv) (hrun : (Instr.makeSlice t lv cv).run P w = .ok v' w')
  (hK : wpList P ops Q rest (a.put o.dst v') w') : wpList P ops Q (o :: rest) a w := by
 refine wpList_plain hg fun K hK' => ?_
 unfold Oper.wp
 simp [execOp, hop, hl, hc, hrun, Result.andThen]
 exact hK' _ _ hK
end Go.Proofs.YtddnikpdmjogiaaGreat
