/- The contract of Crash. -/
import Derived.Test.YtlinkpjneehnbaaCrash
namespace Go.Proofs.Ytlinkpjneehnbaa
open Go.RowKit Go.MapKept
open Go.ChangeMaps (setBlock)

/-- Behind some changes done to the sure files: nothing else that was there has turned. -/
def CInv (F : Nat → Prop) (w wr : World) (bs : Nat) (fs : FS) : Prop := Keeps (fun b => b = bs) w wr ∧ MapFs (fun i => F i ∨ w.heap.size ≤ i) wr bs fs

theorem crash_step {F : Nat → Prop} {w wr : World} {d bn bs : Nat} {vl : Value} {m : DM} {fs : FS} (hA : DiskAt F w d bn bs vl m) (hI : CInv F w wr bs fs) (c : Ch) {pv : Value} (hp : Bytes F w pv c.p) (hfit : Fits fs c) :
    ∃ w2, Runs 78 #[.map (some bs), .agg #[.int .i64 c.kind, .string c.a, .string c.b, pv]] (wr.alloc (.cells #[.int .i64 c.kind, .string c.a, .string c.b, pv] 129)).drew (.tuple #[]) w2 ∧ CInv F w w2 bs (doCh fs c) := by
  obtain ⟨hk, hm⟩ := hI
  have hz := hk.size
  have h1 : MapFs (fun i => F i ∨ w.heap.size ≤ i) (wr.alloc (.cells #[.int .i64 c.kind, .string c.a, .string c.b, pv] 129)).drew bs fs := hm.keep (Below.heap_alloc _ _ _ hm.lt) ((KeepU8.refl _ _).alloc _).drew (fun _ h _ => h)
  have hku : KeepU8 F w wr := KeepU8.of_keeps hk (fun g cs fz _ e hg => by subst e; exact hA.sure.notU8 _ _ _ hg)
  have hp1 : Bytes (fun i => F i ∨ w.heap.size ≤ i) (wr.alloc (.cells #[.int .i64 c.kind, .string c.a, .string c.b, pv] 129)).drew pv c.p := hp.keep (hku.alloc _).drew (fun _ h _ => .inl h)
  obtain ⟨w2, hr, h2, k2⟩ := do_calls h1 c hp1 hfit
  refine ⟨w2, hr, ?_, h2.keep rfl (KeepU8.refl _ _) (fun b hb _ => by rcases hb with hb | hb; exact hb; exact .inr (by simp at hb; omega))⟩
  exact ((hk.alloc _).drew).trans k2 (fun _ _ e => e)

theorem chCells_get : ∀ {ps : List Value} {cs : List Ch} {k : Nat} {p : Value} {c : Ch}, ps.length = cs.length → ps[k]? = some p → cs[k]? = some c →
    (chCells ps cs)[k * 4]? = some (.int .i64 c.kind) ∧ (chCells ps cs)[k * 4 + 1]? = some (.string c.a) ∧ (chCells ps cs)[k * 4 + 2]? = some (.string c.b) ∧ (chCells ps cs)[k * 4 + 3]? = some p
  | q :: ps, d :: cs, 0, p, c, _, hp, hc => by simp at hp hc; subst hp; subst hc; simp [chCells]
  | q :: ps, d :: cs, k + 1, p, c, hl, hp, hc => by
    have := chCells_get (ps := ps) (cs := cs) (k := k) (by simpa using hl) (by simpa using hp) (by simpa using hc)
    rw [show (k + 1) * 4 = k * 4 + 4 by omega]
    simpa [chCells] using this
  | [], _, _, _, _, _, hp, _ => by simp at hp
  | _ :: _, [], _, _, _, hl, _, _ => by simp at hl

/-- The cells of one change. -/
theorem chs_cells {F : Nat → Prop} {w : World} {g n cap : Nat} {cs : List Ch} (h : ChsAt F w (.slice (some ⟨g, 0, none⟩) n cap) cs) {k : Nat} {c : Ch} (hc : cs[k]? = some c) :
    ∃ pa pc, Bytes F w (.slice pa c.p.length pc) c.p ∧ ∀ w' : World, w'.heap[g]? = w.heap[g]? →
      w'.cell? ⟨g, k * 4, none⟩ = some (.int .i64 c.kind) ∧ w'.cell? ⟨g, k * 4 + 1, none⟩ = some (.string c.a) ∧ w'.cell? ⟨g, k * 4 + 2, none⟩ = some (.string c.b) ∧ w'.cell? ⟨g, k * 4 + 3, none⟩ = some (.slice pa c.p.length pc) := by
  obtain ⟨ps, h1, h2, h3⟩ := h
  obtain ⟨p, hp, hb⟩ := h1.get' hc
  obtain ⟨pa, pc, rfl, _, _⟩ := hb.form
  refine ⟨pa, pc, hb, fun w' hw => ?_⟩
  obtain ⟨e0, e1, e2, e3⟩ := chCells_get h1.length hp hc
  have hcell := h2.cells (g := g) rfl
  have conv : ∀ j u, (chCells ps cs)[j]? = some u → w'.cell? ⟨g, j, none⟩ = some u := fun j u hj => by
    have := hcell j u hj
    rw [Addr.add_lit, Nat.zero_add] at this
    rw [World.cell?_of_block (w := w) (a := ⟨g, j, none⟩) hw]; exact this
  exact ⟨conv _ _ e0, conv _ _ e1, conv _ _ e2, conv _ _ e3⟩

def crashed (m : DM) (fs : FS) : DM := { room := m.room, now := fs, sure := fs, loose := [], fuse := -1, down := false }

theorem crash_end {F : Nat → Prop} {w w3 : World} {d bn bs : Nat} {vl : Value} {m : DM} {fs : FS} (hA : DiskAt F w d bn bs vl m) (hI : CInv F w w3 bs fs) :
    ∃ w4, Runs 79 #[.map (some bs)] w3 (.map (some w3.heap.size)) w4 ∧ ((∀ i, i < 6 → ∃ v, w4.cell? ⟨d, i, none⟩ = some v) ∧ ∀ i, w4.frozen? ⟨d, i, none⟩ = false) ∧
      DPost F w d (0, crashed m fs) (.returned (.int .i64 0)) ((((w4.setCell ⟨d, 1, none⟩ (.map (some w3.heap.size))).setCell ⟨d, 3, none⟩ (.slice none 0 0)).setCell ⟨d, 4, none⟩ (.int .i64 (-1))).setCell ⟨d, 5, none⟩ (.bool false)) := by
  obtain ⟨hk, hm⟩ := hI
  obtain ⟨w4, hr, h4, k4, z4⟩ := hm.copy
  have hz := hk.size
  have hds : d ≠ bs := fun e => by subst e; exact hA.sure.notU8 _ _ _ hA.blk
  have hd3 : w3.heap[d]? = _ := hk.at hA.blk hds
  have hd4 : w4.heap[d]? = _ := k4.at hd3 (fun e => e)
  refine ⟨w4, hr, ⟨fun i hi => ⟨_, cell_at hd4 (Array.getElem?_eq_getElem (by simpa using hi))⟩, fun i => free_at hd4 i⟩, rfl, ?_, ?_⟩
  · have hne : ∀ b, b ≠ d → ((((w4.setCell ⟨d, 1, none⟩ (.map (some w3.heap.size))).setCell ⟨d, 3, none⟩ (.slice none 0 0)).setCell ⟨d, 4, none⟩ (.int .i64 (-1))).setCell ⟨d, 5, none⟩ (.bool false)).heap[b]? = w4.heap[b]? := fun b hb => by
      rw [Below.heap_setCell _ _ _ _ hb, Below.heap_setCell _ _ _ _ hb, Below.heap_setCell _ _ _ _ hb, Below.heap_setCell _ _ _ _ hb]
    have hd5 := heap_setCell_eq (heap_setCell_eq (heap_setCell_eq (heap_setCell_eq hd4 1 (.map (some w3.heap.size))) 3 (.slice none 0 0)) 4 (.int .i64 (-1))) 5 (.bool false)
    have hku : ∀ G, KeepU8 G w4 ((((w4.setCell ⟨d, 1, none⟩ (.map (some w3.heap.size))).setCell ⟨d, 3, none⟩ (.slice none 0 0)).setCell ⟨d, 4, none⟩ (.int .i64 (-1))).setCell ⟨d, 5, none⟩ (.bool false)) := fun G g cs fz _ hg => by
      rw [hne g (fun e => by subst e; rw [hd4] at hg; simp at hg)]; exact hg
    have hlt := hA.lt d hA.fd
    have hlt2 := hA.lt bs hA.fbs
    have hext : ∀ b, (F b ∨ w.heap.size ≤ b) → b < w4.heap.size → Ext F w ((((w4.setCell ⟨d, 1, none⟩ (.map (some w3.heap.size))).setCell ⟨d, 3, none⟩ (.slice none 0 0)).setCell ⟨d, 4, none⟩ (.int .i64 (-1))).setCell ⟨d, 5, none⟩ (.bool false)) b := fun b hb hb2 => by
      rcases hb with hb | hb
      · exact .inl hb
      · exact .inr ⟨hb, by simpa using hb2⟩
    refine ⟨w3.heap.size, bs, .slice none 0 0, ?_, .inl hA.fd, hext _ (.inr (by omega)) (by omega), .inl hA.fbs, by omega, ?_, ?_, ⟨[], trivial, World.ownsRow_nil _ _ _ _, fun b hb => by cases hb⟩, ?_⟩
    · rw [hd5]; simp [crashed]
    · exact h4.keep (hne _ (by omega)) (hku _) hext
    · exact (hm.keep (k4.block bs hm.lt (fun e => e)) (KeepU8.of_none k4) (fun _ h _ => h)).keep (hne _ (Ne.symm hds)) (hku _) hext
    · intro b hb
      rcases hb with hb | hb
      · have := hA.lt b hb; simp; omega
      · exact hb.2
  · have a1 : Keeps F w w3 := hk.mono (fun b _ e => by subst e; exact hA.fbs)
    have a2 : Keeps F w w4 := a1.trans k4 (fun _ _ e => e.elim)
    exact (((a2.setCell (fun _ => hA.fd) _).setCell (fun _ => hA.fd) _).setCell (fun _ => hA.fd) _).setCell (fun _ => hA.fd) _

theorem Bytes.take {F : Nat → Prop} {w : World} {a : Option Addr} {c n : Nat} {l : List UInt8} (h : Bytes F w (.slice a n c) l) (j : Nat) (hj : j ≤ l.length) : Bytes F w (.slice a j c) (l.take j) := by
  have hl : (l.take j).length = j := by simp; omega
  rcases h with ⟨e, rfl⟩ | ⟨g, off, cap, cs, fz, e, hF, hb, h1, h2, h3, h4⟩
  · simp only [Value.slice.injEq] at e
    obtain ⟨rfl, rfl, rfl⟩ := e
    simp at hj; subst hj
    exact Bytes.nil _ _
  · simp only [Value.slice.injEq] at e
    obtain ⟨rfl, rfl, rfl⟩ := e
    refine .inr ⟨g, off, c, cs, fz, by rw [hl], hF, hb, by omega, h2, h3, fun i x hx => ?_⟩
    rw [List.getElem?_take] at hx
    split at hx
    · exact h4 _ _ hx
    · cases hx

/-- How many changes a crash keeps, and how many bytes of the next one. -/
def clampI (n : Int) (most : Nat) : Nat := if n < 0 then 0 else if (most : Int) < n then most else n.toNat
def crashFs (m : DM) (keep part : Int) : FS :=
  let fs := (m.loose.take (clampI keep m.loose.length)).foldl doCh m.sure
  match m.loose[clampI keep m.loose.length]? with
  | some c => if c.kind = 1 then doCh fs { c with p := c.p.take (clampI part c.p.length) } else fs
  | none => fs
def crashOf (m : DM) (keep part : Int) : DM := crashed m (crashFs m keep part)

theorem clampI_le (n : Int) (most : Nat) : clampI n most ≤ most := by
  unfold clampI
  split
  · omega
  · split <;> omega
theorem clampI_min (n : Int) (most : Nat) : (if 0 < (if (most : Int) < n then (most : Int) else n) then (if (most : Int) < n then (most : Int) else n) else 0) = ((clampI n most : Nat) : Int) := by
  unfold clampI
  by_cases h1 : n < 0
  · have h2 : ¬ (most : Int) < n := by omega
    have h3 : ¬ 0 < n := by omega
    simp [h1, h2, h3]
  · by_cases h2 : (most : Int) < n
    · simp only [h1, h2, if_true, if_false]
      split <;> omega
    · simp only [h1, h2, if_false]
      split <;> omega

theorem crash_nil (w : World) (keep part : Int) : Runs 25 #[.pointer none, .int .i64 keep, .int .i64 part] w (.int .i64 2) w := by
  unfold Runs
  go_enter Try.func25, Try.ntmps25
  go_wp2
  go_ret
  exact ⟨rfl, rfl⟩

end Go.Proofs.Ytlinkpjneehnbaa
