/- A part of the proof. -/
import Derived.Test.YtlcnhpjggjgnpaaGreatDoorUlaa8
import Derived.Test.YtlcnhpjggjgnpaaGreatDoorUlaa9
import Derived.Test.YtlcnhpjggjgnpaaGreatDoorUlab0
import Derived.Test.YtlcnhpjggjgnpaaGreatDoorUlab2
import Derived.Test.YtlcnhpjggjgnpaaGreatDoorUlab3
import Derived.Laws.Cover1
import Derived.Deep.DeepCutAuto
import Derived.Deep.CutBlock
namespace Go.Proofs.YtlcnhpjggjgnpaaGreatDoor
set_option linter.unusedVariables false
open Go.RowKit Go.MapKept
open Go.ChangeMaps (setBlock)
def tchCells : List Value → List TCh → List Value
 | p :: ps, c :: cs => .string c.key :: .bool c.gone :: p :: tchCells ps cs
 | _, _ => []
theorem tchCells_snoc : ∀ (ps : List Value) (cs : List TCh) (p : Value) (c : TCh), ps.length = cs.length → tchCells (ps ++ [p]) (cs ++ [c]) = tchCells ps cs ++ [.string c.key, .bool c.gone, p]
 | [], [], _, _, _ => rfl
 | q :: ps, g :: cs, p, c, h => by simp [tchCells, tchCells_snoc ps cs p c (by simpa using h)]
 | [], _ :: _, _, _, h => by simp at h
 | _ :: _, [], _, _, h => by simp at h
theorem tchCells_get : ∀ {ps : List Value} {cs : List TCh} (i : Nat) {p : Value} {c : TCh}, ps[i]? = some p → cs[i]? = some c → (tchCells ps cs)[i * 3]? = some (.string c.key) ∧ (tchCells ps cs)[i * 3 + 1]? = some (.bool c.gone) ∧ (tchCells ps cs)[i * 3 + 2]? = some p
 | q :: ps, g :: cs, 0, p, c, hp, hc => by
  simp at hp hc; subst hp; subst hc
  exact ⟨rfl, rfl, rfl⟩
 | q :: ps, g :: cs, i + 1, p, c, hp, hc => by
  have := tchCells_get (ps := ps) (cs := cs) i (by simpa using hp) (by simpa using hc)
  rw [show (i + 1) * 3 = i * 3 + 1 + 1 + 1 by omega]
  simpa [tchCells] using this
 | [], _, i, _, _, hp, _ => by simp at hp
 | _ :: _, [], i, _, _, _, hc => by simp at hc
def TChsIn (w : World) (a : Option Addr) (cs : List TCh) : Prop :=
 ∀ (i : Nat) (c : TCh), cs[i]? = some c → ∃ x p, a = some x ∧ w.cell? (x.add (i * 3)) = some (.string c.key) ∧ w.cell? (x.add (i * 3 + 1)) = some (.bool c.gone) ∧ w.cell? (x.add (i * 3 + 2)) = some p ∧ Reads w p c.val
theorem cell_keep {w w' : World} {x : Addr} {v : Value} (h : w.cell? x = some v) (hk : Keeps (fun _ => False) w w') : w'.cell? x = some v := by
 have := hk.block _ (World.block_lt_of_cell? w _ h) (fun e => e)
 rw [World.cell?_of_block this]; exact h
theorem TChsIn.keep {w w' : World} {a : Option Addr} {cs : List TCh} (h : TChsIn w a cs) (hk : Keeps (fun _ => False) w w') : TChsIn w' a cs := fun i c hc => by
 obtain ⟨x, p, e, c0, c1, c2, hp⟩ := h i c hc
 exact ⟨x, p, e, cell_keep c0 hk, cell_keep c1 hk, cell_keep c2 hk, hp.keep hk⟩
theorem TChsIn.cells {w : World} {a : Option Addr} {cs : List TCh} (h : TChsIn w a cs) {i : Nat} {c : TCh} (hc : cs[i]? = some c) : ∃ x p, a = some x ∧ w.cell? (x.add (i * 3)) = some (.string c.key) ∧ w.cell? { block := (x.add (i * 3)).block, off := (x.add (i * 3)).off + 1 } = some (.bool c.gone) ∧ w.cell? { block := (x.add (i * 3)).block, off := (x.add (i * 3)).off + 2 } = some p ∧ Reads w p c.val := by
 obtain ⟨x, p, e, c0, c1, c2, hp⟩ := h i c hc
 rw [← Addr.add_add, Addr.add_succ'] at c1 c2
 exact ⟨x, p, e, c0, c1, c2, hp⟩
def TChsF (B : Nat) (F : Nat → Prop) (w : World) (a : Option Addr) (cs : List TCh) : Prop :=
 ∀ (i : Nat) (c : TCh), cs[i]? = some c → ∃ x p, a = some x ∧ (F x.block ∨ x.block < B) ∧ w.cell? (x.add (i * 3)) = some (.string c.key) ∧ w.cell? (x.add (i * 3 + 1)) = some (.bool c.gone) ∧ w.cell? (x.add (i * 3 + 2)) = some p ∧ ReadsF B F w p c.val
theorem TChsF.keep {B : Nat} {F : Nat → Prop} {w w' : World} {a : Option Addr} {cs : List TCh} (h : TChsF B F w a cs) (hk : ∀ b, F b ∨ b < B → w'.heap[b]? = w.heap[b]?) : TChsF B F w' a cs := fun i c hc => by
 obtain ⟨x, p, e, hb, c0, c1, c2, hp⟩ := h i c hc
 have hh : ∀ j, w'.cell? (x.add j) = w.cell? (x.add j) := fun j => World.cell?_of_block (by rw [add_block]; exact hk _ hb)
 exact ⟨x, p, e, hb, (hh _).trans c0, (hh _).trans c1, (hh _).trans c2, hp.keep hk⟩
theorem TChsF.ins {B : Nat} {F : Nat → Prop} {w : World} {a : Option Addr} {cs : List TCh} (h : TChsF B F w a cs) : TChsIn w a cs := fun i c hc => by
 obtain ⟨x, p, e, _, c0, c1, c2, hp⟩ := h i c hc
 exact ⟨x, p, e, c0, c1, c2, hp.reads⟩
def rTChs (B : Nat) (a : Option Addr) (cs : List TCh) : Res B := ⟨fun F w => TChsF B F w a cs, fun _ _ _ h hk => h.keep hk⟩
theorem Own.tchs {w wr : World} {rs : List (Res w.heap.size)} {a : Option Addr} {cs : List TCh} (h : Own w wr rs) (hm : rTChs w.heap.size a cs ∈ rs) : TChsIn wr a cs := by
 obtain ⟨F, hF, _⟩ := h.mem hm
 exact TChsF.ins hF
def TChsAt (T : TypeId) (base : Nat) (w : World) (v : Value) (cs : List TCh) : Prop :=
 ∃ ps : List Value, Rel2 (fun p (c : TCh) => Owns w base p c.val) ps cs ∧ w.ownsRow base T 3 v cs.length (tchCells ps cs) ∧ ps.Pairwise (fun p q => ∀ b, p.ownBlock = some b → q.ownBlock ≠ some b)
theorem TChsAt.nil (T : TypeId) (base : Nat) (w : World) : TChsAt T base w (.slice none 0 0) [] := ⟨[], trivial, ⟨rfl, .inl ⟨rfl, rfl⟩⟩, List.Pairwise.nil⟩
theorem TChsAt.form {T : TypeId} {base : Nat} {w : World} {v : Value} {cs : List TCh} (h : TChsAt T base w v cs) : ∃ a c, v = .slice a cs.length c := by
 obtain ⟨ps, h1, h2, h3⟩ := h
 exact ownsRow_slice h2
theorem TChsAt.res {T : TypeId} {base B : Nat} {w : World} {a : Option Addr} {n c : Nat} {cs : List TCh} (h : TChsAt T base w (.slice a n c) cs) : TChsF B (fun b => base ≤ b ∧ b < w.heap.size) w a cs := fun i ch hc => by
 obtain ⟨ps, h1, h2, h3⟩ := h
 obtain ⟨p, hp, ho⟩ := h1.get' hc
 have hcl := tchCells_get i hp hc
 have hlt := h2.lt
 rcases h2.2 with ⟨e, e2⟩ | ⟨g, cap, cur, e, _⟩
 ·have := (List.getElem?_eq_some_iff.1 hc).1; omega
 ·cases e
  refine ⟨_, p, rfl, .inl ⟨(hlt g rfl).1, (hlt g rfl).2⟩, h2.cells (g := g) rfl _ _ hcl.1, h2.cells (g := g) rfl _ _ hcl.2.1, h2.cells (g := g) rfl _ _ hcl.2.2, ?_⟩
  exact (ReadsF.of_owns (B := B) ho).wider (fun b hb => ⟨(owns_lt ho b hb).2, (owns_lt ho b hb).1⟩)
theorem Own.addTChs {w wr w' : World} {rs : List (Res w.heap.size)} (h : Own w wr rs) {T : TypeId} {a : Option Addr} {n c : Nat} {cs : List TCh} (ho : TChsAt T wr.heap.size w' (.slice a n c) cs) (hk : Keeps (fun _ => False) wr w') : Own w w' (rTChs w.heap.size a cs :: rs) :=
 h.add hk (r := rTChs w.heap.size a cs) (G := fun b => wr.heap.size ≤ b ∧ b < w'.heap.size) ho.res (fun b hb => hb)
theorem TChsAt.push {T Ts : TypeId} (hinfo : (Tryz.prog.info? T).map (fun i => (i.zero, i.size, i.bytes)) = some (some (.agg #[.string ⟨#[]⟩, .bool false, .slice none 0 0]), 3, 48)) (hu : Tryz.prog.underlying Ts = some (.slice T)) (hne : T ≠ 5)
  {base : Nat} {w0 w : World} {v p : Value} {cs : List TCh} {c : TCh} (h : TChsAt T base w0 v cs) (hz : base ≤ w0.heap.size) (hk0 : Keeps (fun _ => False) w0 w) (hp : Owns w w0.heap.size p c.val) (hb : cs.length < 1099511627776) :
  ∃ a k w', (Builtin.append_ #[Ts, Ts] Ts #[v, .slice (some ⟨w.heap.size, 0, none⟩) 1 1]).run Tryz.prog (w.alloc (.cells #[.string c.key, .bool c.gone, p] T)) = .ok (.slice a (cs.length + 1) k) w' ∧ TChsAt T base w' (.slice a (cs.length + 1) k) (cs ++ [c]) ∧
   Keeps (fun b => v.ownBlock = some b) w w' ∧ ∀ b, v.ownBlock = some b → base ≤ b := by
 obtain ⟨ps, g1, g2, h3⟩ := h
 have h1 : Rel2 (fun p (c : TCh) => Owns w base p c.val) ps cs := g1.mono (fun p c hpc => hpc.keep hk0)
 have h2 : w.ownsRow base T 3 v cs.length (tchCells ps cs) := rrow_keep g2 (fun b hb => hk0.block b (g2.lt b hb).2 (fun e => e))
 have hz0 := hk0.size
 have hlt := h2.lt
 obtain ⟨i0, hi, hz0', hz1, hz2⟩ := info_parts hinfo
 have hp1 : p.oneCell' = true := by obtain ⟨a, c, rfl, _⟩ := hp.bytes.form; rfl
 obtain ⟨v', w', hrun, ho2, hg, _, hat⟩ := run_append_own_at (P := Tryz.prog) (w.alloc (.cells #[.string c.key, .bool c.gone, p] T)) base Ts Ts T i0 _ 3 48 hu hi hz0' hz1 hz2 rfl (by omega) v cs.length (tchCells ps cs) (h2.alloc _) ⟨w.heap.size, 0, none⟩ 1 1 [.string c.key, .bool c.gone, p] rfl
  (fun j u hu => by
   rw [Addr.add_lit, Nat.zero_add]
   exact cell_at (heap_alloc_new w _) (by simpa using hu))
  (by intro u hu; simp at hu; rcases hu with rfl | rfl | rfl; rfl; rfl; exact hp1) (by unfold maxLen; omega) (by omega) (by simp only [World.size_alloc]; omega)
 obtain ⟨a, k, rfl⟩ := ownsRow_slice ho2
 have hk : Keeps (fun b => v.ownBlock = some b) w w' := ((Keeps.refl _ w).alloc _).trans (Keeps.of_grown hg) (fun _ _ h => h)
 have hdis : ∀ {q : Value} {m : List UInt8} {base' : Nat}, Owns w base' q m → ∀ b, q.ownBlock = some b → ¬ v.ownBlock = some b := fun {q m base'} hq b e1 e2 => by
  obtain ⟨c1, k1⟩ := ownsRow_type hq e1
  obtain ⟨c2, k2⟩ := ownsRow_type h2 e2
  have := k1.symm.trans k2
  simp only [Option.some.injEq, Obj.cells.injEq] at this
  exact hne this.2.1.symm
 refine ⟨a, k, w', hrun, ⟨ps ++ [p], ?_, ?_, ?_⟩, hk, fun b hb => (hlt b hb).1⟩
 ·exact (h1.mono (fun q f hq => owns_keep hq hk (hdis hq))).append ⟨Owns.base (owns_keep hp hk (hdis hp)) hz, trivial⟩
 ·rw [tchCells_snoc _ _ _ _ h1.length, List.length_append]
  exact ho2
 ·rw [List.pairwise_append]
  refine ⟨h3, List.pairwise_singleton .., fun q hq r hr b hb e => ?_⟩
  simp at hr
  subst hr
  obtain ⟨m, hm⟩ := g1.mem q hq
  have e1 := owns_lt hm b hb
  have e2 := owns_lt hp b e
  omega
def rMap (B b : Nat) (fs : FS) : Res B := ⟨fun F w => F b ∧ MapFs F w b fs, fun F w w' h hk => ⟨h.1, h.2.keep (hk b (.inl h.1)) (fun g cs fz hF hb => (hk g (.inl hF)).trans hb) (fun _ h _ => h)⟩⟩
def tabObj (j b : Nat) (down : Bool) : Obj := .cells #[.pointer (some ⟨j, 0, none⟩), .map (some b), .bool down] 142 (0, 0)
theorem tab_cells {w : World} {t j b : Nat} {down : Bool} (h : w.heap[t]? = some (tabObj j b down)) : w.cell? ⟨t, 0, none⟩ = some (.pointer (some ⟨j, 0, none⟩)) ∧ w.cell? ⟨t, 1, none⟩ = some (.map (some b)) ∧ w.cell? ⟨t, 2, none⟩ = some (.bool down) ∧ ∀ i, w.frozen? ⟨t, i, none⟩ = false :=
 ⟨cell_at h rfl, cell_at h rfl, cell_at h rfl, fun i => free_at h i⟩
theorem Own.mapPut {w wr w1 : World} {b : Nat} {fs : FS} {rs : List (Res w.heap.size)} (h : Own w wr (rMap w.heap.size b fs :: rs)) (k : ByteArray) {v : Value} {l : List UInt8} (hv : Owns w1 wr.heap.size v l) (hk : Keeps (fun _ => False) wr w1) :
  ∃ es clock, (Instr.mapUpdate 131 (.map (some b)) (.string k) v).run Tryz.prog w1 = .ok () (setBlock w1 b (.map es clock)) ∧ Own w (setBlock w1 b (.map es clock)) (rMap w.heap.size b (fput fs k l) :: rs) := by
 obtain ⟨F, ⟨hb, hm⟩, hF, hfin⟩ := h.open1
 have hz := hk.size
 have h1 : MapFs (Ext F wr w1) w1 b fs := hm.keep (hk.block b hm.lt (fun e => e)) (KeepU8.of_none hk) (fun g hg _ => .inl hg)
 have h2 : Bytes (Ext F wr w1) w1 v l := hv.bytes.keep (KeepU8.refl _ _) (fun g hg hl => .inr ⟨hg, hl⟩)
 obtain ⟨es, clock, hr, h3⟩ := h1.update (P := Tryz.prog) Tryz.underlying131 Tryz.underlying9 k h2
 refine ⟨es, clock, hr, hfin _ _ ((hk.mono (fun _ _ e => e.elim)).setBlock (fun _ => hb) _) ⟨.inl hb, h3.keep rfl (KeepU8.refl _ _) (fun g hg hl => ?_)⟩⟩
 rcases hg with hg | ⟨h4, h5⟩
 ·exact .inl hg
 ·exact .inr ⟨h4, by simpa [setBlock] using h5⟩
theorem Own.mapDel {w wr w1 : World} {b : Nat} {fs : FS} {rs : List (Res w.heap.size)} (h : Own w wr (rMap w.heap.size b fs :: rs)) (k : ByteArray) (hk : Keeps (fun _ => False) wr w1) :
  ∃ es clock, (Builtin.delete_ #[131, 9] 0 #[.map (some b), .string k]).run Tryz.prog w1 = .ok (.tuple #[]) (setBlock w1 b (.map es clock)) ∧ Own w (setBlock w1 b (.map es clock)) (rMap w.heap.size b (fdel fs k) :: rs) := by
 obtain ⟨F, ⟨hb, hm⟩, hF, hfin⟩ := h.open1
 have hz := hk.size
 have h1 : MapFs (Ext F wr w1) w1 b fs := hm.keep (hk.block b hm.lt (fun e => e)) (KeepU8.of_none hk) (fun g hg _ => .inl hg)
 obtain ⟨es, clock, hr, h3⟩ := h1.delete (P := Tryz.prog) Tryz.underlying131 Tryz.underlying9 k 9 0
 refine ⟨es, clock, hr, hfin _ _ ((hk.mono (fun _ _ e => e.elim)).setBlock (fun _ => hb) _) ⟨.inl hb, h3.keep rfl (KeepU8.refl _ _) (fun g hg hl => ?_)⟩⟩
 rcases hg with hg | ⟨h4, h5⟩
 ·exact .inl hg
 ·exact .inr ⟨h4, by simpa [setBlock] using h5⟩
theorem tdos_take {l : List TCh} {k : Nat} {c : TCh} (h : l[k]? = some c) (fs : FS) : tdos fs (l.take (k + 1)) = tdo (tdos fs (l.take k)) c := by
 obtain ⟨hk, rfl⟩ := List.getElem?_eq_some_iff.1 h
 unfold tdos
 rw [List.take_succ_eq_append_getElem hk, List.foldl_append]
 rfl
set_option maxRecDepth 100000 in
set_option maxHeartbeats 1000000 in
theorem tdo_callsO {w w0 : World} {t j b : Nat} {down : Bool} {fs : FS} {rs : List (Res w.heap.size)} (h : Own w w0 (rMap w.heap.size b fs :: rObj w.heap.size t (tabObj j b down) :: rs)) {a : Option Addr} {c : Nat} {l : List TCh} (hm : ∀ (wr : World) (ls : List (Res w.heap.size)), Own w wr (ls ++ rs) → TChsIn wr a l) (hc : l.length ≤ 1099511627776) (hv : ∀ x ∈ l, x.val.length ≤ 140737488355328) :
  Calls Tryz.prog 60 #[.pointer (some ⟨t, 0, none⟩), .slice a l.length c] w0 (fun e w' => e = .returned (.tuple #[]) ∧ Own w w' (rMap w.heap.size b (tdos fs l) :: rObj w.heap.size t (tabObj j b down) :: rs)) := by
 have H := Lib.hid h
 have i0 : (l.length : Int) ≤ 1099511627776 := by omega
 have i1 : (0 : Int) ≤ (l.length : Int) := by omega
 have HV := Lib.hid hv
 clear h hc hv
 go_enter Tryz.func60, Tryz.ntmps60
 go_wp2_with fail
 go_loopw [8] (fun iv wx => ∃ k : Nat, k ≤ l.length ∧ iv = .int .i64 (k : Int) ∧ Own w wx (rMap w.heap.size b (tdos fs (l.take k)) :: rObj w.heap.size t (tabObj j b down) :: rs)) (fun iv _ => l.length - (intOf iv).toNat)
 case atStart => exact ⟨0, Nat.zero_le _, rfl, H.out⟩
 case round =>
  obtain ⟨k, hk, rfl, ho⟩ := hrel
  clear H
  have j0 : (0 : Int) ≤ k := by omega
  by_cases hlt : k < l.length
  ·obtain ⟨ch, hch⟩ : ∃ ch, l[k]? = some ch := ⟨l[k], List.getElem?_eq_getElem hlt⟩
   obtain ⟨x, p, rfl, c0, c1, c2, hp⟩ := (hm _ [_, _] ho).cells hch
   have hvl := HV.out ch (List.mem_of_getElem? hch)
   have htk := tdos_take hch fs
   obtain ⟨key, gone, val⟩ := ch
   dsimp only at c0 c1 c2 hp hvl
   obtain ⟨pa, pc, rfl, _, _⟩ := hp.form
   have j2 : (k : Int) < l.length := by omega
   have hk1 : k + 1 ≤ l.length := by omega
   have hq : Keeps (fun _ => False) wr (wr.alloc (.cells #[.string key, .bool gone, .slice pa val.length pc] 109)) := (Keeps.refl _ wr).alloc _
   have ho2 := ho.quiet hq
   have hp2 := hp.keep hq
   have hB := heap_alloc_new wr (.cells #[.string key, .bool gone, .slice pa val.length pc] 109)
   have ht := tab_cells (ho2.at (b := t) (o := tabObj j b down) (by simp)).1
   cases gone with
   | true =>
    obtain ⟨es, clock, hrun, hfin⟩ := ho2.mapDel key ((Keeps.refl _ _).drew)
    rw [show fdel (tdos fs (l.take k)) key = tdos fs (l.take (k + 1)) by rw [htk]; unfold tdo; rw [if_pos rfl]] at hfin
    have HR := Lib.hid (⟨k + 1, hk1, rfl, hfin⟩ : ∃ k' : Nat, k' ≤ l.length ∧ Value.int .i64 ((k + 1 : Nat) : Int) = .int .i64 (k' : Int) ∧ Own w _ (rMap w.heap.size b (tdos fs (l.take k')) :: rObj w.heap.size t (tabObj j b down) :: rs))
    have HRUN := Lib.hid hrun
    have q0 := cell_at (i := 0) hB rfl
    have q1 := cell_at (i := 1) hB rfl
    obtain ⟨t0, t1, t2, t3⟩ := ht
    clear hrun hfin ho ho2 hp hp2 hvl htk hch hq HV hk hlt hB t0 t2 t3
    go_wp2_with fail
    generalize wr.alloc (.cells #[.string key, .bool true, .slice pa val.length pc] 109) = W at q0 q1 t1 HRUN HR ⊢
    go_still_tail 6, (by kernel_rfl)
    change wpList _ _ _ _ _ (World.drew _)
    go_wp2_with (at_delete; refine wpList_delete_run rfl _ _ _ _ rfl rfl rfl HRUN.out ?_)
    go_roundw
    case rel => exact HR.out
    case measure => simp [intOf]; omega
   | false =>
    obtain ⟨v1, w1, hcl, hv1, hk1'⟩ := clone_owns (w := (wr.alloc (.cells #[.string key, .bool false, .slice pa val.length pc] 109)).drew) (hp2.keep ((Keeps.refl _ _).drew)) hvl
    obtain ⟨es, clock, hrun, hfin⟩ := ho2.mapPut key hv1 (((Keeps.refl _ _).drew).trans hk1' (fun _ _ e => e))
    rw [show fput (tdos fs (l.take k)) key val = tdos fs (l.take (k + 1)) by rw [htk]; unfold tdo; rw [if_neg (by simp)]] at hfin
    have HR := Lib.hid (⟨k + 1, hk1, rfl, hfin⟩ : ∃ k' : Nat, k' ≤ l.length ∧ Value.int .i64 ((k + 1 : Nat) : Int) = .int .i64 (k' : Int) ∧ Own w _ (rMap w.heap.size b (tdos fs (l.take k')) :: rObj w.heap.size t (tabObj j b down) :: rs))
    have HCL := Lib.hid hcl
    have hbne : wr.heap.size ≠ b := fun e => by
     obtain ⟨F, ⟨hb, _⟩, hF⟩ := ho.head
     have := (hF b hb).2
     omega
    have h2s : ∀ i v, w1.cell? ⟨wr.heap.size, i, none⟩ = some v → (setBlock w1 b (.map es clock)).cell? ⟨wr.heap.size, i, none⟩ = some v := fun i v hv => (World.cell?_of_block (heap_setBlock_ne w1 b _ hbne)).trans hv
    have ht3 := tab_cells (hfin.at (b := t) (o := tabObj j b down) (by simp)).1
    have q1 := cell_at (i := 1) hB rfl
    have hS : ∀ w2, Keeps (fun _ => False) (wr.alloc (.cells #[.string key, .bool false, .slice pa val.length pc] 109)).drew w2 → w2.cell? ⟨t, 1, none⟩ = some (.map (some b)) ∧ w2.cell? ⟨wr.heap.size, 0, none⟩ = some (.string key) ∧ w2.cell? ⟨wr.heap.size, 2, none⟩ = some (.slice pa val.length pc) := fun w2 hk2 =>
     ⟨cell_keep ht.2.1 (((Keeps.refl _ _).drew).trans hk2 (fun _ _ e => e)), cell_keep (cell_at (i := 0) hB rfl) (((Keeps.refl _ _).drew).trans hk2 (fun _ _ e => e)), cell_keep (cell_at (i := 2) hB rfl) (((Keeps.refl _ _).drew).trans hk2 (fun _ _ e => e))⟩
    have HS0 := Lib.hid (hS _ (Keeps.refl _ _))
    have HS1 := Lib.hid (hS _ hk1')
    have HS2 := Lib.hid (⟨ht3.2.1, h2s _ _ (hS _ hk1').2.1, h2s _ _ (hS _ hk1').2.2⟩ : (setBlock w1 b (.map es clock)).cell? ⟨t, 1, none⟩ = some (.map (some b)) ∧ (setBlock w1 b (.map es clock)).cell? ⟨wr.heap.size, 0, none⟩ = some (.string key) ∧ (setBlock w1 b (.map es clock)).cell? ⟨wr.heap.size, 2, none⟩ = some (.slice pa val.length pc))
    clear hcl hv1 hk1' hfin ho ho2 hp hp2 hvl htk hch hq HV hk hlt hB ht hS ht3 h2s hbne
    go_wp2_with fail
    generalize wr.alloc (.cells #[.string key, .bool false, .slice pa val.length pc] 109) = W at q1 HCL HS0 HS1 HS2 hrun HR ⊢
    go_region_held3 (fun w' => w'.cell? ⟨t, 1, none⟩ = some (.map (some b)) ∧ w'.cell? ⟨wr.heap.size, 0, none⟩ = some (.string key) ∧ w'.cell? ⟨wr.heap.size, 2, none⟩ = some (.slice pa val.length pc)) (first | exact HS0.out | exact HS1.out | exact HS2.out | go_keep) (first | (go_at_call 111; refine HCL.out.out.mono ?_; rintro e w' ⟨rfl, rfl⟩))
    all_goals
     go_wp2_with fail
     go_roundw
     case rel => exact HR.out
     case measure => simp [intOf]; omega
  ·obtain rfl : k = l.length := by omega
   rw [List.take_length] at ho
   have HO := Lib.hid ho
   clear ho hlt hk HV
   go_wp2_with fail
   go_end0
   exact ⟨rfl, HO.out⟩
theorem tdo_calls {w w0 : World} {t j b : Nat} {down : Bool} {fs : FS} {rs : List (Res w.heap.size)} (h : Own w w0 (rMap w.heap.size b fs :: rObj w.heap.size t (tabObj j b down) :: rs)) {a : Option Addr} {c : Nat} {l : List TCh} (hm : rTChs w.heap.size a l ∈ rs) (hc : l.length ≤ 1099511627776) (hv : ∀ x ∈ l, x.val.length ≤ 140737488355328) :
  Calls Tryz.prog 60 #[.pointer (some ⟨t, 0, none⟩), .slice a l.length c] w0 (fun e w' => e = .returned (.tuple #[]) ∧ Own w w' (rMap w.heap.size b (tdos fs l) :: rObj w.heap.size t (tabObj j b down) :: rs)) :=
 tdo_callsO h (fun wr ls h => h.tchs (by simp [hm])) hc hv
end Go.Proofs.YtlcnhpjggjgnpaaGreatDoor
namespace Go.Proofs.YtlcnhpjggjgnpaaGreatDoor
set_option linter.unusedVariables false
open Go.RowKit Go.MapKept
theorem tup_runs {w : World} {t j b : Nat} {down : Bool} (h : w.heap[t]? = some (tabObj j b down)) : Runs 106 #[.pointer (some ⟨t, 0, none⟩)] w (.int .i64 (if down then 5 else 0)) w := by
 unfold Runs
 have c2 := (tab_cells h).2.2.1
 clear h
 go_enter Tryz.func106, Tryz.ntmps106
 cases down
 all_goals go_wp2
 all_goals go_ret
 all_goals exact ⟨rfl, rfl⟩
theorem zero_bytesT (w : World) : (zeroValue 22).run Tryz.prog w = .ok (.slice none 0 0) w := by kernel_rfl
def GetPost (w : World) (fs : FS) (k : ByteArray) (e : Ending) (w' : World) : Prop := ∃ v, e = .returned (.tuple #[v, .bool (fget fs k).isSome]) ∧ Owns w' w.heap.size v ((fget fs k).getD []) ∧ Keeps (fun _ => False) w w'
theorem tget_calls {w : World} {t j b : Nat} {down : Bool} {F : Nat → Prop} {fs : FS} (h : w.heap[t]? = some (tabObj j b down)) (hm : MapFs F w b fs) (k : ByteArray) (hl : ((fget fs k).getD []).length ≤ 140737488355328) :
  Calls Tryz.prog 61 #[.pointer (some ⟨t, 0, none⟩), .string k] w (GetPost w fs k) := by
 have c1 := (tab_cells h).2.1
 obtain ⟨v, hv, _, hlook⟩ := hm.look (P := Tryz.prog) (T := 131) Tryz.underlying131 Tryz.underlying9 (zero_bytesT w) k
 obtain ⟨v', w', hcl, hv', hk'⟩ := clone_owns (hv.reads) hl
 have hl2 := hlook true
 have HCL := Lib.hid hcl
 have HV := Lib.hid hv'
 have HK := Lib.hid hk'
 clear h hm hl hv hlook hcl hv' hk'
 go_enter Tryz.func61, Tryz.ntmps61
 go_wp2_with (first | (go_at_call 111; refine HCL.out.out.mono ?_; rintro e w' ⟨rfl, rfl⟩))
 go_ret2
 exact ⟨_, rfl, HV.out, HK.out⟩
theorem tlen_runs {w : World} {t j b : Nat} {down : Bool} {F : Nat → Prop} {fs : FS} (h : w.heap[t]? = some (tabObj j b down)) (hm : MapFs F w b fs) : Runs 64 #[.pointer (some ⟨t, 0, none⟩)] w (.int .i64 (fs.length : Int)) w := by
 unfold Runs
 have c1 := (tab_cells h).2.1
 have hln := hm.len (P := Tryz.prog) (T := 131) Tryz.underlying131 3
 clear h hm
 go_enter Tryz.func64, Tryz.ntmps64
 go_wp2_with fail
 go_ret
 exact ⟨rfl, rfl⟩
theorem gtr_true {a b : ByteArray} (h : blt b a = true) : Op.bytesLess a.toList b.toList = false ∧ (a.toList == b.toList) = false := by
 refine ⟨?_, ?_⟩
 ·exact blt_asym h
 ·cases h2 : (a.toList == b.toList) with
  | false => rfl
  | true =>
   have : a = b := toList_inj (by simpa using h2)
   rw [this, blt_irrefl] at h
   cases h
theorem gtr_false {a b : ByteArray} (h : blt b a = false) (h2 : Op.bytesLess a.toList b.toList = false) : (a.toList == b.toList) = true := by
 by_cases e : b = a
 ·rw [e]; simp
 ·have h3 : blt a b = true := blt_total h e
  unfold blt at h3
  rw [h2] at h3
  cases h3
theorem StrsAt.base {base base' : Nat} {w : World} {v : Value} {l : List ByteArray} (h : StrsAt base w v l) (hb : base' ≤ base) : StrsAt base' w v l := row_base1 h hb
theorem mkeys_runs (mb : Option Nat) (W : World) : Runs 124 #[.map mb] W (.func (.func 165) #[] #[.pointer (some ⟨W.heap.size, 0, none⟩)]) (W.alloc (.cells #[.map mb] 131)) := by
 refine (callsIn_wide.1 (kmaps_Keys_M mb W)).mono ?_
 rintro e w' ⟨rfl, rfl⟩
 exact ⟨rfl, rfl⟩
theorem msorted_calls {F : Nat → Prop} {w : World} {b : Nat} {fs : FS} (h : MapFs F w b fs) (hs : FSorted fs) (hn : ∀ p ∈ fs, p.1.size ≤ maxLen) (hl : fs.length ≤ 1099511627776) :
  Calls Tryz.prog 123 #[.func (.func 165) #[] #[.pointer (some ⟨w.heap.size, 0, none⟩)]] (w.alloc (.cells #[.map (some b)] 131)) (NamesPost w fs) := by
 obtain ⟨D0, h1, h2, h3⟩ := h.owns hn (by unfold maxLen; omega)
 refine (callsIn_wide.1 (kslices_Sorted_keys_M b fs.length D0 anyV w h1 (by rw [h2]; unfold maxLen; omega) (by rw [h2]; omega))).mono ?_
 rintro e w' ⟨v, ss, rfl, hS, hrow, _, hbl⟩
 have hlen : ss.length = fs.length := by have := (hS.trans h3).length_eq; simpa using this
 rw [sorted_names hs (hS.trans h3), hlen] at hrow
 have hb2 : Keeps (fun _ => False) (w.alloc (.cells #[.map (some b)] 131)) w' := ⟨hbl.os, hbl.tape, hbl.output, hbl.size, fun k hk _ => hbl.block k hk⟩
 exact ⟨v, rfl, row_base1 hrow (by simp), ((Keeps.refl _ w).alloc _).trans hb2 (fun _ _ e => e)⟩
def keysFrom (hd af : ByteArray) (n : Int) : FS → List ByteArray → List ByteArray
 | [], out => out
 | p :: fs, out => if n ≤ (out.length : Int) then out else keysFrom hd af n fs (if beginsB p.1 hd = true ∧ blt af p.1 = true then out ++ [p.1] else out)
def keysOf (fs : FS) (hd af : ByteArray) (n : Int) : List ByteArray := keysFrom hd af n fs []
theorem keysFrom_step {hd af : ByteArray} {n : Int} {fs : FS} {k : Nat} {p : ByteArray × List UInt8} (hp : fs[k]? = some p) (out : List ByteArray) : keysFrom hd af n (fs.drop k) out = if n ≤ (out.length : Int) then out else keysFrom hd af n (fs.drop (k + 1)) (if beginsB p.1 hd = true ∧ blt af p.1 = true then out ++ [p.1] else out) := by
 obtain ⟨hk, rfl⟩ := List.getElem?_eq_some_iff.1 hp
 rw [List.drop_eq_getElem_cons hk, keysFrom]
def KeysPost (w : World) (l : List ByteArray) (e : Ending) (w' : World) : Prop := ∃ v, e = .returned v ∧ StrsAt w.heap.size w' v l ∧ Keeps (fun _ => False) w w'
set_option maxRecDepth 100000 in
set_option maxHeartbeats 1000000 in
theorem tkeys_calls {w : World} {t j b : Nat} {down : Bool} {F : Nat → Prop} {fs : FS} (h : w.heap[t]? = some (tabObj j b down)) (hm : MapFs F w b fs) (hs : FSorted fs) (hn : ∀ p ∈ fs, p.1.size ≤ maxLen) (hl : fs.length ≤ 1099511627775) (hd af : ByteArray) (n : Int) :
  Calls Tryz.prog 63 #[.pointer (some ⟨t, 0, none⟩), .string hd, .string af, .int .i64 n] w (KeysPost w (keysOf fs hd af n)) := by
 have c1 := (tab_cells h).2.1
 have hsc := msorted_calls hm hs hn (by omega)
 have HSC := Lib.hid hsc
 clear h hs hsc hm hn
 go_enter Tryz.func63, Tryz.ntmps63
 go_wp2_with fail
 refine (mkeys_runs (some b) w).out.mono ?_
 rintro e w' ⟨rfl, rfl⟩
 go_wp2_with fail
 refine HSC.out.mono ?_
 rintro e w1 ⟨v1, rfl, ho1, hk1⟩
 obtain ⟨a1, k1, rfl⟩ := ownsRow_slice ho1
 have i1 : (fs.length : Int) ≤ 1099511627775 := by omega
 have i2 : (0 : Int) ≤ (hd.size : Int) := by omega
 have HO1 := Lib.hid ho1
 have HK1 := Lib.hid hk1
 clear ho1 hk1 HSC c1 hl
 go_wp2_with fail
 go_loopw [9, 21] (fun ov i wx => ∃ (k : Nat) (out : List ByteArray), k ≤ fs.length ∧ i = .int .i64 (k : Int) ∧ out.length ≤ k ∧ keysOf fs hd af n = keysFrom hd af n (fs.drop k) out ∧ StrsAt w1.heap.size wx ov out ∧ Keeps (fun _ => False) w1 wx) (fun _ i _ => fs.length - (intOf i).toNat)
 case atStart => exact ⟨0, [], Nat.zero_le _, rfl, Nat.le_refl _, rfl, StrsAt.nil _ _, Keeps.refl _ _⟩
 case round =>
  obtain ⟨k, out, hk, rfl, hlen, hinv, ho, hq⟩ := hrel
  have j0 : (0 : Int) ≤ k := by omega
  have HKW : Keeps (fun _ => False) w wr := HK1.out.trans hq (fun _ _ e => e)
  obtain ⟨oa, oc, rfl⟩ := ho.form
  by_cases hlt : k < fs.length
  ·obtain ⟨f, hf⟩ : ∃ f, fs[k]? = some f := ⟨fs[k], List.getElem?_eq_getElem hlt⟩
   have hst : StrsAt w.heap.size w1 (.slice a1 fs.length k1) (fs.map (·.1)) := by
    have := HO1.out
    unfold StrsAt
    rw [List.map_map, List.length_map]
    exact this
   obtain ⟨g, rfl, hc, hle, _⟩ := (hst.keep hq).cell (i := k) (s := f.1) (by rw [List.getElem?_map, hf]; rfl)
   rw [keysFrom_step hf out] at hinv
   have j1 : (k : Int) < fs.length := by omega
   have hk1 : k + 1 ≤ fs.length := by omega
   clear hst hlt hk
   by_cases hN : n ≤ (out.length : Int)
   ·rw [if_pos hN] at hinv
    have hfin : KeysPost w (keysOf fs hd af n) (.returned (.slice oa out.length oc)) wr := ⟨_, rfl, by rw [hinv]; exact ho.base HK1.out.size, HKW⟩
    have HFIN := Lib.hid hfin
    clear hfin hinv ho hq HKW hf hlen
    go_wp2_with fail
    go_ret
    exact HFIN.out
   rw [if_neg hN] at hinv
   have hN2 : (out.length : Int) < n := by omega
   clear hN
   by_cases hbg : beginsB f.1 hd = true ∧ blt af f.1 = true
   ·rw [if_pos hbg] at hinv
    obtain ⟨hbg, b3⟩ := hbg
    obtain ⟨b3, b4⟩ := gtr_true b3
    obtain ⟨b1, b2⟩ : decide ((hd.size : Int) ≤ (f.1.size : Int)) = true ∧ ((f.1.extract 0 hd.size).toList == hd.toList) = true := by unfold beginsB at hbg; exact Bool.and_eq_true_iff.1 hbg
    have b1' : (hd.size : Int) ≤ (f.1.size : Int) := of_decide_eq_true b1
    obtain ⟨a2, c2, w2, hrun, ho2, hk2, hbase⟩ := ho.push hq.size f.1 (by omega)
    have hq2 := hq.trans hk2 (fun b hb e => by have := hbase b e; omega)
    have HRUN := Lib.hid hrun
    have HREL := Lib.hid (⟨k + 1, out ++ [f.1], hk1, rfl, by simp; omega, hinv, by rw [show (out ++ [f.1]).length = out.length + 1 by simp]; exact ho2, hq2⟩ : ∃ (k' : Nat) (out' : List ByteArray), k' ≤ fs.length ∧ Value.int .i64 ((k + 1 : Nat) : Int) = .int .i64 (k' : Int) ∧ out'.length ≤ k' ∧ keysOf fs hd af n = keysFrom hd af n (fs.drop k') out' ∧ StrsAt w1.heap.size w2 (.slice a2 ((out ++ [f.1]).length) c2) out' ∧ Keeps (fun _ => False) w1 w2)
    clear hinv ho hq hf hrun ho2 hk2 hq2 hbase hbg HKW hlen
    go_wp2_with (at_builtin; (first | (refine wpList_append_run (w := wr.alloc (.cells #[.string f.1] 9)) rfl _ _ _ _ rfl rfl rfl HRUN.out ?_)))
    go_roundw
    case rel => have h := HREL.out; simp only [List.length_append, List.length_cons, List.length_nil, Nat.zero_add] at h; exact h
    case measure => simp [intOf]; omega
   ·rw [if_neg hbg] at hinv
    have HREL := Lib.hid (⟨k + 1, out, hk1, rfl, by omega, hinv, ho, hq⟩ : ∃ (k' : Nat) (out' : List ByteArray), k' ≤ fs.length ∧ Value.int .i64 ((k + 1 : Nat) : Int) = .int .i64 (k' : Int) ∧ out'.length ≤ k' ∧ keysOf fs hd af n = keysFrom hd af n (fs.drop k') out' ∧ StrsAt w1.heap.size wr (.slice oa out.length oc) out' ∧ Keeps (fun _ => False) w1 wr)
    by_cases b1 : (hd.size : Int) ≤ (f.1.size : Int)
    ·cases b2 : ((f.1.extract 0 hd.size).toList == hd.toList) with
     | false =>
      clear hinv ho hq hf hbg HKW hlen
      go_wp2_with fail
      go_roundw
      case rel => exact HREL.out
      case measure => simp [intOf]; omega
     | true =>
      have b3 : blt af f.1 = false := by
       cases hb3 : blt af f.1 with
       | false => rfl
       | true => exact absurd ⟨by unfold beginsB; rw [decide_eq_true b1, b2]; rfl, hb3⟩ hbg
      clear hinv ho hq hf hbg HKW hlen
      cases b4 : Op.bytesLess f.1.toList af.toList with
      | true =>
       clear b3
       go_wp2_with fail
       go_roundw
       case rel => exact HREL.out
       case measure => simp [intOf]; omega
      | false =>
       have b5 := gtr_false b3 b4
       clear b3
       go_wp2_with fail
       go_roundw
       case rel => exact HREL.out
       case measure => simp [intOf]; omega
    ·have b1' : decide ((hd.size : Int) ≤ (f.1.size : Int)) = false := decide_eq_false b1
     clear hinv ho hq hf hbg HKW hlen
     go_wp2_with fail
     go_roundw
     case rel => exact HREL.out
     case measure => simp [intOf]; omega
  ·obtain rfl : k = fs.length := by omega
   rw [List.drop_length] at hinv
   have hfin : KeysPost w (keysOf fs hd af n) (.returned (.slice oa out.length oc)) wr := ⟨_, rfl, by rw [hinv]; exact ho.base HK1.out.size, HKW⟩
   have HFIN := Lib.hid hfin
   clear hfin hinv ho hq HKW hlen hlt hk
   go_wp2_with fail
   go_ret
   exact HFIN.out
theorem info_tchange : (Tryz.prog.info? 109).map (fun i => (i.zero, i.size, i.bytes)) = some (some (.agg #[.string ⟨#[]⟩, .bool false, .slice none 0 0]), 3, 48) := by kernel_rfl
theorem tail_run {w : World} {a : Option Addr} {n c : Nat} {l : List UInt8} (h : Reads w (.slice a n c) l) (i : Nat) (hi : i ≤ l.length) :
  ∃ a' c', (∀ W, (Instr.sliceAt 22 (.slice a n c) (some (.int .i64 (i : Int))) none none).run Tryz.prog W = .ok (.slice a' (l.length - i) c') W) ∧ Reads w (.slice a' (l.length - i) c') (l.drop i) := by
 obtain ⟨b, d, e, h1, h2⟩ := h.form
 cases e
 have h3 := h.cutP i (l.length - i) (by omega)
 have ht : (l.drop i).take (l.length - i) = l.drop i := List.take_of_length_le (by rw [List.length_drop]; omega)
 rw [ht] at h3
 refine ⟨_, _, fun W => ?_, h3⟩
 rw [run_sliceAt_slice _ _ _ _ _ _ elem_bytes, run_slice_l W 22 a l.length c elem_bytes .i64 (i : Int) (by omega) (by omega), size_u8]
 simp only [Result.andThen, sliced, Int.toNat_natCast, Nat.mul_one]
theorem readtext_key {w : World} {v : Value} {b : List UInt8} (h : Reads w v b) (hb : b.length ≤ 1099511627776) : Calls Tryz.prog 122 #[v, .int .i64 320] w (RTPost w (readTextOf b 320)) := readtext_calls h hb 320 (by omega)
theorem readtext_val {w : World} {v : Value} {b : List UInt8} (h : Reads w v b) (hb : b.length ≤ 1099511627776) : Calls Tryz.prog 122 #[v, .int .i64 262144] w (RTPost w (readTextOf b 262144)) := readtext_calls h hb 262144 (by omega)
def DecPost (w : World) (r : Option (List TCh)) (e : Ending) (w' : World) : Prop := ∃ v, e = .returned (.tuple #[v, .bool r.isSome]) ∧ Keeps (fun _ => False) w w' ∧ ∀ l, r = some l → TChsAt 109 w.heap.size w' v l
theorem DecPost.no {w wx : World} {r : Option (List TCh)} (hr : r = none) (hk : Keeps (fun _ => False) w wx) : DecPost w r (.returned (.tuple #[.slice none 0 0, .bool false])) wx := by
 subst hr
 exact ⟨_, rfl, hk, fun l hl => by cases hl⟩
theorem decFrom_succ {n k : Nat} (h : k < n) (b : List UInt8) (out : List TCh) : decFrom (n - k) b out = match decCh b with | none => none | some (c, b') => decFrom (n - (k + 1)) b' (out ++ [c]) := by
 rw [show n - k = (n - (k + 1)) + 1 by omega, decFrom]
 cases decCh b <;> rfl
theorem decCh_cons (z : UInt8) (b1 : List UInt8) : decCh (z :: b1) = if 1 < z.toNat then none
  else if (readTextOf b1 320).2.2 = 0 ∧ (readTextOf b1 320).1 ≠ [] then
   (if z.toNat = 0 then some (⟨⟨(readTextOf b1 320).1.toArray⟩, true, []⟩, b1.drop (readTextOf b1 320).2.1)
    else if (readTextOf (b1.drop (readTextOf b1 320).2.1) 262144).2.2 = 0 then some (⟨⟨(readTextOf b1 320).1.toArray⟩, false, (readTextOf (b1.drop (readTextOf b1 320).2.1) 262144).1⟩, (b1.drop (readTextOf b1 320).2.1).drop (readTextOf (b1.drop (readTextOf b1 320).2.1) 262144).2.1)
    else none)
  else none := rfl
set_option maxRecDepth 100000 in
set_option maxHeartbeats 1000000 in
theorem tdecode_calls {w : World} {v : Value} {b : List UInt8} (h : Reads w v b) (hb : b.length ≤ 1099511627776) : Calls Tryz.prog 59 #[v] w (DecPost w (decOf b)) := by
 have HC := Lib.hid (readcount_calls h)
 have hle := readCount_le b
 have hlt := readCount_lt b
 obtain ⟨n, u, e, hr⟩ : ∃ n u e, readCountOf b = (n, u, e) := ⟨_, _, _, rfl⟩
 have hd : decOf b = if e = 0 ∧ n ≤ 256 then decFrom n (b.drop u) [] else none := by unfold decOf; rw [hr]
 rw [hr] at HC hle hlt
 simp only at hle hlt
 obtain ⟨a, c, rfl, hc1, hc2⟩ := h.form
 have H := Lib.hid h
 have HD := Lib.hid hd
 have HBL := Lib.hid hb
 unfold maxLen at hc2
 have i2 : (u : Int) ≤ b.length := by omega
 have i5 : (0 : Int) ≤ u := by omega
 have i4 : (0 : Int) ≤ n := by omega
 have HLE := Lib.hid hle
 clear h hd hlt hb hc1 hc2 hle hr
 go_enter Tryz.func59, Tryz.ntmps59
 go_wp2_with fail
 refine HC.out.mono ?_
 rintro e1 w1 ⟨rfl, hk1⟩
 have HK1 := Lib.hid hk1
 have H1 := Lib.hid H.out
 clear hk1 HC
 unfold rcVal
 by_cases he : e = 0
 ·subst he
  by_cases hn : 256 < n
  ·have hd := HD.out
   rw [if_neg (by omega)] at hd
   have j1 : (256 : Int) < n := by omega
   have HF := Lib.hid (DecPost.no hd HK1.out)
   clear hd hn
   go_wp2_with fail
   go_ret2
   exact HF.out
  have hd := HD.out
  rw [if_pos ⟨rfl, by omega⟩] at hd
  obtain ⟨ta, tc, hsl, hrd⟩ := tail_run H1.out u HLE.out
  have hlen : b.length - u = (b.drop u).length := by rw [List.length_drop]
  rw [hlen] at hsl hrd
  have HD2 := Lib.hid hd
  have HRD := Lib.hid hrd
  have j1 : ¬ (256 : Int) < n := by omega
  have HBL2 := Lib.hid (show (b.drop u).length ≤ 1099511627776 by rw [List.length_drop]; have := HBL.out; omega)
  generalize b.drop u = b0 at hsl HD2 HRD HBL2
  clear hd hrd hlen hn HLE
  go_wp2_with fail
  go_loopw [0, 7, 28] (fun bv ov iv wx => ∃ (k : Nat) (rest : List UInt8) (out : List TCh), k ≤ n ∧ iv = .int .u64 (k : Int) ∧ out.length = k ∧ rest.length ≤ b0.length ∧ Reads w bv rest ∧ decOf b = decFrom (n - k) rest out ∧ TChsAt 109 w.heap.size wx ov out ∧ Keeps (fun _ => False) w wx) (fun _ _ iv _ => n - (intOf iv).toNat)
  case atStart => exact ⟨0, b0, [], Nat.zero_le _, rfl, rfl, Nat.le_refl _, HRD.out, HD2.out, TChsAt.nil _ _ _, HK1.out⟩
  case round =>
   obtain ⟨k, rest, out, hk, rfl, hol, hrl, hrd, hinv, ho, hq⟩ := hrel
   clear HD HD2 HRD HK1 H1 H hsl i2 i5
   have k0 : (0 : Int) ≤ k := by omega
   have n1 : (n : Int) ≤ 256 := by omega
   have hrl2 : rest.length ≤ 1099511627776 := by have := HBL2.out; omega
   obtain ⟨ra, rc, rfl, _, hrc⟩ := hrd.form
   obtain ⟨oa, oc, rfl⟩ := ho.form
   by_cases hlt : k < n
   ·have j2 : (k : Int) < n := by omega
    rw [decFrom_succ hlt] at hinv
    have hk1 : k + 1 ≤ n := by omega
    cases rest with
    | nil =>
     have HF := Lib.hid (DecPost.no hinv hq)
     clear hinv ho hq hrd hlt hk hol hrl hrl2 hrc HBL HBL2
     go_wp2_with fail
     go_ret2
     exact HF.out
    | cons z b1 =>
     obtain ⟨x, rfl, hx⟩ := (hrd.keep hq).cell (k := 0) rfl (by simp)
     rw [Addr.add_zero'] at hx
     simp only [List.getElem_cons_zero] at hx
     have hzl := z.toNat_lt
     have hzn : (z :: b1).length = b1.length + 1 := rfl
     have l0 : (0 : Int) ≤ b1.length := by omega
     by_cases hz1 : 1 < z.toNat
     ·rw [decCh_cons, if_pos hz1] at hinv
      have HF := Lib.hid (DecPost.no hinv hq)
      have j3 : (1 : Int) < z.toNat := by omega
      clear hinv ho hq hrd hlt hk hol hrl hrl2 hrc hz1 hzl HBL HBL2
      go_wp2_with fail
      go_ret2
      exact HF.out
     ·obtain ⟨gone, hgo⟩ : ∃ gone : Bool, ((z.toNat : Int) == 0) = gone := ⟨_, rfl⟩
      have hgn : (z.toNat = 0) ↔ gone = true := by rw [← hgo]; simp
      have j3 : ¬ (1 : Int) < z.toNat := by omega
      rw [decCh_cons, if_neg hz1] at hinv
      obtain ⟨kb, u1, ec, hrt⟩ : ∃ kb u1 ec, readTextOf b1 320 = (kb, u1, ec) := ⟨_, _, _, rfl⟩
      have hul := readText_le b1 320
      rw [hrt] at hinv hul
      simp only at hinv hul
      have hB := heap_alloc_new wr (.cells #[.string ⟨#[]⟩, .bool gone, .slice none 0 0] 109)
      obtain ⟨a1, d1, hs1, hr1⟩ := tail_run hrd 1 (by simp)
      rw [List.drop_succ_cons, List.drop_zero, show (z :: b1).length - 1 = b1.length from rfl] at hr1
      have hs1' : ∀ W, (Instr.sliceAt 22 (.slice (some x) (b1.length + 1) rc) (some (.int .i64 1)) none none).run Tryz.prog W = .ok (.slice a1 b1.length d1) W := hs1
      have HRT := Lib.hid (readtext_key (w := wr.alloc (.cells #[.string ⟨#[]⟩, .bool gone, .slice none 0 0] 109)) (hr1.keep (hq.trans ((Keeps.refl _ wr).alloc _) (fun _ _ e => e))) (by simp at hrl2; omega))
      rw [hrt] at HRT
      obtain ⟨a2, d2, hs2, hr2⟩ := tail_run hrd (1 + u1) (by rw [List.length_cons]; omega)
      have e2 : ((1 + u1 : Nat) : Int) = 1 + (u1 : Int) := by omega
      rw [show (z :: b1).drop (1 + u1) = b1.drop u1 by rw [Nat.add_comm, List.drop_succ_cons], show (z :: b1).length - (1 + u1) = (b1.drop u1).length by rw [List.length_cons, List.length_drop]; omega] at hr2
      rw [e2, show (z :: b1).length - (1 + u1) = (b1.drop u1).length by rw [List.length_cons, List.length_drop]; omega] at hs2
      rw [List.length_cons] at hs2
      have uu0 : (0 : Int) ≤ u1 := by omega
      have uu2 : (u1 : Int) ≤ b1.length := by omega
      have uu3 : (u1 : Int) ≤ 1099511627776 := by simp at hrl2; omega
      have hww : IntKind.i64.wrap (1 + (u1 : Int)) = 1 + (u1 : Int) := by simp [IntKind.wrap, IntKind.bits, IntKind.signed]; omega
      have HUL := Lib.hid hul
      have HINV := Lib.hid hinv
      have HO := Lib.hid ho
      have HQ := Lib.hid hq
      have HR2 := Lib.hid hr2
      have HB := Lib.hid hB
      have HRL := Lib.hid hrl2
      have HOL := Lib.hid hol
      have HGN := Lib.hid hgn
      have HRLE := Lib.hid hrl
      clear hrt hul hinv ho hq hrd hB hrl2 hrc hz1 hzl hol hgn HBL hr2 e2 hrl hs1 hr1
      generalize (z.toNat : Int) = zi at hx hgo j3
      go_wp2_with fail
      refine HRT.out.mono ?_
      rintro e w2 ⟨kv, rfl, hok, hkk⟩
      obtain ⟨ka, kc, rfl, _, _⟩ := hok.bytes.form
      have HOK := Lib.hid hok
      have HKK := Lib.hid hkk
      have HKW := Lib.hid ((HQ.out.alloc _).trans hkk (fun _ _ e => e))
      clear hok hkk HRT
      by_cases hok : ec = 0 ∧ kb ≠ []
      ·obtain ⟨rfl, hkb⟩ := hok
       have hinv := HINV.out
       rw [if_pos ⟨rfl, hkb⟩] at hinv
       have hkl : ((kb.length : Int) == 0) = false := by have := List.length_pos_iff.2 hkb; simp; intro e; rw [e] at this; simp at this
       have hkl0 : (0 : Int) ≤ kb.length := by omega
       have hcv := Reads.str (w := w2.drew) (HOK.out.bytes.reads.keep ((Keeps.refl _ w2).drew))
       have hB2 := HKK.out.at HB.out (fun e => e)
       have hk2 : Keeps (fun _ => False) wr w2.drew := (((Keeps.refl _ wr).alloc _).trans HKK.out (fun _ _ e => e)).drew
       have q0 : w2.drew.cell? ⟨wr.heap.size, 0, none⟩ = some (.string ⟨#[]⟩) := cell_at (i := 0) hB2 rfl
       have f0 : w2.drew.frozen? ⟨wr.heap.size, 0, none⟩ = false := free_at hB2 0
       have hfin : ∀ wx, wx = w2.drew.setCell ⟨wr.heap.size, 0, none⟩ (.string ⟨kb.toArray⟩) → Reads w (.slice a2 (b1.length - u1) d2) (b1.drop u1) ∧ Keeps (fun _ => False) wr wx ∧ wx.heap[wr.heap.size]? = some (.cells #[.string ⟨kb.toArray⟩, .bool gone, .slice none 0 0] 109 (0, 0)) := fun wx e => by
        subst e
        have hkx : Keeps (fun _ => False) wr (w2.drew.setCell ⟨wr.heap.size, 0, none⟩ (.string ⟨kb.toArray⟩)) := hk2.setCell (fun h => absurd h (Nat.lt_irrefl _)) _
        exact ⟨by have := HR2.out; rw [List.length_drop] at this; exact this, hkx, heap_setCell_eq (w := w2.drew) hB2 0 _⟩
       have HFIN := Lib.hid hfin
       have HINV2 := Lib.hid hinv
       clear hinv hkb hB2 hk2 hfin HINV HOK HKK HB
       go_upto_region 14 with fail
       go_cut [0] from 58 to 64 (fun bv wx => Reads w bv (b1.drop u1) ∧ Keeps (fun _ => False) wr wx ∧ wx.heap[wr.heap.size]? = some (.cells #[.string ⟨kb.toArray⟩, .bool gone, .slice none 0 0] 109 (0, 0)))
       case first =>
        go_region_law (fail)
        all_goals
         go_wp2_with fail
         go_meet
         exact HFIN.out _ rfl
       case rest =>
        obtain ⟨hr3, hk3, hB3⟩ := hcut
        have q1 := cell_at (i := 1) hB3 rfl
        have hl3 : (b1.drop u1).length ≤ b0.length ∧ (b1.drop u1).length ≤ 1099511627776 := by
         have h1 := HRLE.out; have h2 := HRL.out
         rw [List.length_cons] at h1 h2
         rw [List.length_drop]; omega
        have hinv2 := HINV2.out
        clear HINV2 HRL HRLE HR2 HUL uu0 uu2 uu3
        generalize b1.drop u1 = r3 at hr3 hl3 hinv2
        obtain ⟨ra3, rc3, rfl, _, _⟩ := hr3.form
        have HL3 := Lib.hid hl3
        have HINV2 := Lib.hid hinv2
        clear hl3 hinv2
        have HR3 := Lib.hid hr3
        have HK3 := Lib.hid hk3
        have HB3 := Lib.hid hB3
        clear hr3 hk3 hB3 HFIN hcv q0 f0 hww hs2 hs1' hx
        go_upto_if 67 with fail
        go_cut [0] from 69 to 79 (fun bv wx => ∃ (p : Value) (rest' val : List UInt8), decOf b = decFrom (n - (k + 1)) rest' (out ++ [⟨⟨kb.toArray⟩, gone, val⟩]) ∧ rest'.length ≤ b0.length ∧ Reads w bv rest' ∧ Keeps (fun _ => False) wr wx ∧ wx.heap[wr.heap.size]? = some (.cells #[.string ⟨kb.toArray⟩, .bool gone, p] 109 (0, 0)) ∧ Owns wx wr.heap.size p val)
        case first =>
         cases gone with
         | true =>
          have hfin : ∃ (p : Value) (rest' val : List UInt8), decOf b = decFrom (n - (k + 1)) rest' (out ++ [⟨⟨kb.toArray⟩, true, val⟩]) ∧ rest'.length ≤ b0.length ∧ Reads w (.slice ra3 r3.length rc3) rest' ∧ Keeps (fun _ => False) wr wc ∧ wc.heap[wr.heap.size]? = some (.cells #[.string ⟨kb.toArray⟩, .bool true, p] 109 (0, 0)) ∧ Owns wc wr.heap.size p val := by
           have hinv := HINV2.out
           rw [if_pos (HGN.out.2 rfl)] at hinv
           exact ⟨_, r3, [], hinv, HL3.out.1, HR3.out, HK3.out, HB3.out, Owns.nil _ _⟩
          have HF := Lib.hid hfin
          clear hfin
          go_wp2_with fail
          go_meet
          exact HF.out
         | false =>
          have hz : ¬ z.toNat = 0 := fun h => absurd (HGN.out.1 h) (by simp)
          have hinv := HINV2.out
          rw [if_neg hz] at hinv
          have HRV := Lib.hid (readtext_val (HR3.out.keep (HQ.out.trans HK3.out (fun _ _ e => e))) HL3.out.2)
          have hul := readText_le r3 262144
          obtain ⟨vb, u5, ev, hrv⟩ : ∃ vb u5 ev, readTextOf r3 262144 = (vb, u5, ev) := ⟨_, _, _, rfl⟩
          rw [hrv] at HRV hinv hul
          simp only at hinv hul
          obtain ⟨a5, d5, hs5, hr5⟩ := tail_run HR3.out u5 hul.1
          have hl5 : (r3.drop u5).length ≤ b0.length := by have := HL3.out.1; rw [List.length_drop]; omega
          have hln : r3.length - u5 = (r3.drop u5).length := by rw [List.length_drop]
          rw [hln] at hs5 hr5
          generalize r3.drop u5 = r5 at hs5 hr5 hl5 hinv
          have HINV5 := Lib.hid hinv
          have HR5 := Lib.hid hr5
          have HL5 := Lib.hid hl5
          clear hrv hinv hul hr5 hl5 hln hz HINV2
          go_wp2_with fail
          refine HRV.out.mono ?_
          rintro e w4 ⟨vv, rfl, hov, hkv⟩
          obtain ⟨va, vc, rfl, _, _⟩ := hov.bytes.form
          have hB4 := hkv.at HB3.out (fun e => e)
          have hk4 : Keeps (fun _ => False) wr w4 := HK3.out.trans hkv (fun _ _ e => e)
          have q2 : w4.cell? ⟨wr.heap.size, 2, none⟩ = some (.slice none 0 0) := cell_at (i := 2) hB4 rfl
          have f2 : w4.frozen? ⟨wr.heap.size, 2, none⟩ = false := free_at hB4 2
          have hk5 : Keeps (fun _ => False) wr (w4.setCell ⟨wr.heap.size, 2, none⟩ (.slice va vb.length vc)) := hk4.setCell (fun h => absurd h (Nat.lt_irrefl _)) _
          have hk45 : Keeps (fun b => b = wr.heap.size) w4 (w4.setCell ⟨wr.heap.size, 2, none⟩ (.slice va vb.length vc)) := Keeps.setCell (p := ⟨wr.heap.size, 2, none⟩) (Keeps.refl (fun b => b = wr.heap.size) w4) (fun _ => rfl) _
          have hkw : Keeps (fun _ => False) w (w4.setCell ⟨wr.heap.size, 2, none⟩ (.slice va vb.length vc)) := HQ.out.trans hk5 (fun _ _ e => e)
          have hB5 := heap_setCell_eq hB4 2 (.slice va vb.length vc)
          have ho5 : Owns (w4.setCell ⟨wr.heap.size, 2, none⟩ (.slice va vb.length vc)) wr.heap.size (.slice va vb.length vc) vb := by
           refine Owns.base (owns_keep hov hk45 (fun b hb e => ?_)) HK3.out.size
           subst e
           obtain ⟨cur, e2⟩ := ownsRow_type hov hb
           rw [hB4] at e2
           simp only [Option.some.injEq, Obj.cells.injEq] at e2
           exact absurd e2.2.1 (by decide)
          by_cases hev : ev = 0
          ·subst hev
           have hinv := HINV5.out
           rw [if_pos rfl] at hinv
           have HF := Lib.hid (⟨_, r5, vb, hinv, HL5.out, HR5.out, hk5, hB5, ho5⟩ : ∃ (p : Value) (rest' val : List UInt8), decOf b = decFrom (n - (k + 1)) rest' (out ++ [⟨⟨kb.toArray⟩, false, val⟩]) ∧ rest'.length ≤ b0.length ∧ Reads w (.slice a5 r5.length d5) rest' ∧ Keeps (fun _ => False) wr (w4.setCell ⟨wr.heap.size, 2, none⟩ (.slice va vb.length vc)) ∧ (w4.setCell ⟨wr.heap.size, 2, none⟩ (.slice va vb.length vc)).heap[wr.heap.size]? = some (.cells #[.string ⟨kb.toArray⟩, .bool false, p] 109 (0, 0)) ∧ Owns (w4.setCell ⟨wr.heap.size, 2, none⟩ (.slice va vb.length vc)) wr.heap.size p val)
           clear hinv hk5 hB5 ho5 hkw hk45 hk4 hB4 hov hkv HRV HR5 HINV5
           go_wp2_with fail
           go_meet
           exact HF.out
          ·have hinv := HINV5.out
           rw [if_neg hev] at hinv
           have HF := Lib.hid (DecPost.no hinv hkw)
           have he2 : (ev != 0) = true := by simpa using hev
           clear hinv hev hk5 hB5 ho5 hkw hk45 hk4 hB4 hov hkv HRV HR5 HINV5
           go_wp2_with fail
           go_ret2
           exact HF.out
        case rest =>
         obtain ⟨p, rest', val, hinv, hl', hr', hk', hB', ho'⟩ := hcut
         have q0 := cell_at (i := 0) hB' rfl
         have q2 := cell_at (i := 1) hB' rfl
         have q3 := cell_at (i := 2) hB' rfl
         obtain ⟨a7, k7, w7, hrun7, ho7, hk7, hb7⟩ := TChsAt.push (T := 109) (Ts := 124) info_tchange Tryz.underlying124 (by decide) (c := ⟨⟨kb.toArray⟩, gone, val⟩) HO.out HQ.out.size hk' ho' (by have := HOL.out; omega)
         have hkw : Keeps (fun _ => False) w w7 := (HQ.out.trans hk' (fun _ _ e => e)).trans hk7 (fun b hb e => by have := hb7 b e; omega)
         obtain ⟨ua, uc, rfl, _, _⟩ := hr'.form
         have HREL := Lib.hid (⟨k + 1, rest', out ++ [⟨⟨kb.toArray⟩, gone, val⟩], hk1, rfl, by simp; exact HOL.out, hl', hr', hinv, ho7, hkw⟩ : ∃ (k' : Nat) (rest'' : List UInt8) (out' : List TCh), k' ≤ n ∧ Value.int .u64 ((k + 1 : Nat) : Int) = .int .u64 (k' : Int) ∧ out'.length = k' ∧ rest''.length ≤ b0.length ∧ Reads w (.slice ua rest'.length uc) rest'' ∧ decOf b = decFrom (n - k') rest'' out' ∧ TChsAt 109 w.heap.size w7 (.slice a7 (out.length + 1) k7) out' ∧ Keeps (fun _ => False) w w7)
         have HRUN := Lib.hid hrun7
         obtain ⟨pa, pc, rfl, _, _⟩ := ho'.bytes.form
         clear hinv hl' hr' hk' hB' ho' hrun7 ho7 hk7 hb7 hkw HINV2 HR3 HK3 HB3 HL3
         go_wp2_with (first | (at_builtin; refine wpList_append_run (w := wc.alloc (.cells #[.string ⟨kb.toArray⟩, .bool gone, .slice pa val.length pc] 109)) rfl _ _ _ _ rfl rfl rfl HRUN.out ?_))
         go_roundw
         case rel => exact HREL.out
         case measure => simp [intOf]; omega
      ·have hinv := HINV.out
       rw [if_neg hok] at hinv
       have HF := Lib.hid (DecPost.no hinv HKW.out)
       clear hinv
       by_cases h0 : ec = 0
       ·subst h0
        have hkb : kb = [] := by
         cases kb with
         | nil => rfl
         | cons y ys => exact absurd ⟨rfl, by simp⟩ hok
        subst hkb
        clear hok
        go_wp2_with fail
        go_ret2
        exact HF.out
       ·have he2 : (ec != 0) = true := by simpa using h0
        clear hok h0
        go_wp2_with fail
        go_ret2
        exact HF.out
   ·obtain rfl : k = n := by omega
    rw [Nat.sub_self, decFrom] at hinv
    obtain ⟨bb, hbb⟩ : ∃ bb : Bool, ((rest.length : Int) == 0) = bb := ⟨_, rfl⟩
    have hbr : rest = [] ↔ bb = true := by rw [← hbb]; simp
    have hfin : DecPost w (decOf b) (.returned (.tuple #[.slice oa out.length oc, .bool bb])) wr := by
     by_cases hr0 : rest = []
     ·rw [if_pos hr0] at hinv
      rw [hinv, hbr.1 hr0]
      exact ⟨_, rfl, hq, fun l hl => by cases hl; exact ho⟩
     ·rw [if_neg hr0] at hinv
      rw [hinv]
      have : bb = false := by cases bb with | false => rfl | true => exact absurd (hbr.2 rfl) hr0
      rw [this]
      exact ⟨_, rfl, hq, fun l hl => by cases hl⟩
    have HF := Lib.hid hfin
    have rl0 : (0 : Int) ≤ rest.length := by omega
    clear hfin hinv ho hq hrd hlt hk hol hrl hrl2 hrc HBL HBL2 hbr
    go_wp2_with fail
    go_ret2
    exact HF.out
 ·have hd := HD.out
  rw [if_neg (fun h => he h.1)] at hd
  have he2 : (e != 0) = true := by simpa using he
  have HF := Lib.hid (DecPost.no hd HK1.out)
  clear he hd
  go_wp2_with fail
  go_ret2
  exact HF.out
def tabOf : List (List UInt8) → FS → Option FS
 | [], fs => some fs
 | r :: rs, fs => match decOf r with | none => none | some l => tabOf rs (tdos fs l)
theorem tabOf_step {recs : List (List UInt8)} {k : Nat} {r : List UInt8} (h : recs[k]? = some r) (fs : FS) : tabOf (recs.drop k) fs = match decOf r with | none => none | some l => tabOf (recs.drop (k + 1)) (tdos fs l) := by
 obtain ⟨hk, rfl⟩ := List.getElem?_eq_some_iff.1 h
 rw [List.drop_eq_getElem_cons hk, tabOf]
theorem decCh_small {b b' : List UInt8} {c : TCh} (h : decCh b = some (c, b')) : c.val.length ≤ 262144 ∧ 0 < c.key.size ∧ c.key.size ≤ 320 := by
 cases b with
 | nil => cases h
 | cons z b1 =>
  rw [decCh_cons] at h
  split at h
  ·cases h
  ·split at h
   ·rename_i hkey
    have hsz : (⟨(readTextOf b1 320).1.toArray⟩ : ByteArray).size = (readTextOf b1 320).1.length := by
     show (readTextOf b1 320).1.toArray.size = _
     simp
    have h1 := readText_le b1 320
    have h2 := List.length_pos_iff.2 hkey.2
    split at h
    ·cases h
     exact ⟨by simp, by rw [hsz]; omega, by rw [hsz]; omega⟩
    ·split at h
     ·cases h
      have h3 := readText_le (b1.drop (readTextOf b1 320).2.1) 262144
      exact ⟨h3.2.2, by rw [hsz]; omega, by rw [hsz]; omega⟩
     ·cases h
   ·cases h
theorem decFrom_small : ∀ (n : Nat) (b : List UInt8) (out l : List TCh), decFrom n b out = some l → (∀ x ∈ out, x.val.length ≤ 262144 ∧ 0 < x.key.size ∧ x.key.size ≤ 320) → (∀ x ∈ l, x.val.length ≤ 262144 ∧ 0 < x.key.size ∧ x.key.size ≤ 320) ∧ l.length = out.length + n
 | 0, b, out, l, h, ho => by
  rw [decFrom] at h
  split at h
  ·cases h; exact ⟨ho, rfl⟩
  ·cases h
 | n + 1, b, out, l, h, ho => by
  rw [decFrom] at h
  cases hd : decCh b with
  | none => rw [hd] at h; cases h
  | some p =>
   obtain ⟨c, b'⟩ := p
   rw [hd] at h
   obtain ⟨h1, h2⟩ := decFrom_small n b' (out ++ [c]) l h (fun x hx => by
    rcases List.mem_append.1 hx with hx | hx
    ·exact ho x hx
    ·rw [List.mem_singleton] at hx
     subst hx
     exact decCh_small hd)
   exact ⟨h1, by rw [h2]; simp; omega⟩
theorem decOf_small {b : List UInt8} {l : List TCh} (h : decOf b = some l) : (∀ x ∈ l, x.val.length ≤ 262144 ∧ 0 < x.key.size ∧ x.key.size ≤ 320) ∧ l.length ≤ 256 := by
 unfold decOf at h
 split at h
 ·rename_i hn
  obtain ⟨h1, h2⟩ := decFrom_small _ _ _ _ h (fun x hx => by simp at hx)
  exact ⟨h1, by rw [h2]; simp; exact hn.2⟩
 ·cases h
theorem open_res (m : DM) (nm : ByteArray) : ((openOf m nm).res = none → (openOf m nm).code ≠ 0) ∧ ∀ recs used, (openOf m nm).res = some (recs, used) → (openOf m nm).code = 0 ∧ ∀ p ∈ recs, p.length ≤ 1048576 := by
 unfold openOf
 split
 ·split
  ·split
   ·rename_i h0
    exact ⟨(fun e => by cases e), fun recs used e => by cases e; exact ⟨rfl, fun p hp => by simp at hp⟩⟩
   ·rename_i h0
    exact ⟨fun _ => h0, fun recs used e => by cases e⟩
  ·split
   ·split
    ·unfold openLay
     split
     ·exact ⟨(fun e => by cases e), fun recs used e => ⟨rfl, fun p hp => by
       have e' : scanOf ((fget m.now nm).getD []) = (recs, used) := Option.some.inj e
       have : recs = (scanOf ((fget m.now nm).getD [])).1 := by rw [e']
       rw [this] at hp
       exact scanFrom_small _ _ p hp⟩⟩
     ·rename_i h0
      exact ⟨fun _ => h0, fun recs used e => by cases e⟩
    ·exact ⟨(fun e => by cases e), fun recs used e => ⟨rfl, fun p hp => by
      have e' : scanOf ((fget m.now nm).getD []) = (recs, used) := Option.some.inj e
      have : recs = (scanOf ((fget m.now nm).getD [])).1 := by rw [e']
      rw [this] at hp
      exact scanFrom_small _ _ p hp⟩⟩
   ·rename_i h0
    exact ⟨fun _ => h0, fun recs used e => by cases e⟩
 ·exact ⟨fun _ => by simp, fun recs used e => by cases e⟩
structure TabR where
 code : Int
 m : DM
 tab : Option (Nat × FS)
def tOpenOf (m : DM) (nm : ByteArray) : TabR :=
 match (openOf m nm).res with
 | none => ⟨(openOf m nm).code, (openOf m nm).m, none⟩
 | some s => match tabOf s.1 [] with | none => ⟨200, (openOf m nm).m, none⟩ | some fs => ⟨0, (openOf m nm).m, some (s.2, fs)⟩
def TOpenPost (w : World) (d : Nat) (nm : ByteArray) (rs : List (Res w.heap.size)) (r : TabR) (e : Ending) (w' : World) : Prop :=
 (r.tab = none ∧ e = .returned (.tuple #[.pointer none, .int .i64 r.code]) ∧ Own w w' (rDisk w.heap.size d r.m :: rs)) ∨
 ∃ (size : Nat) (fs : FS) (j t b : Nat), r.tab = some (size, fs) ∧ e = .returned (.tuple #[.pointer (some ⟨t, 0, none⟩), .int .i64 r.code]) ∧ Own w w' (rDisk w.heap.size d r.m :: rObj w.heap.size j (jrnObj d nm size) :: rObj w.heap.size t (tabObj j b false) :: rMap w.heap.size b fs :: rs)
theorem Own.pull {w wr : World} {r : Res w.heap.size} {l₁ l₂ : List (Res w.heap.size)} (h : Own w wr (l₁ ++ r :: l₂)) : Own w wr (r :: (l₁ ++ l₂)) := h.perm List.perm_middle
theorem Own.tabOrder {w wr : World} {m t d j r : Res w.heap.size} {rs : List (Res w.heap.size)} (h : Own w wr (m :: t :: d :: j :: r :: rs)) : Own w wr (d :: j :: t :: m :: rs) := by
 have h1 := (Own.pull (l₁ := [m, t, d, j]) h).drop
 have h2 := Own.pull (l₁ := [m]) h1
 have h3 := Own.pull (l₁ := [t, m, d]) h2
 exact Own.pull (l₁ := [j, t, m]) h3
theorem Own.newMap {w wr : World} {rs : List (Res w.heap.size)} (h : Own w wr rs) : Own w (wr.alloc (.map #[] 0)) (rMap w.heap.size wr.heap.size [] :: rs) :=
 h.add ((Keeps.refl _ wr).alloc _) (r := rMap w.heap.size wr.heap.size []) (G := fun b => b = wr.heap.size) ⟨rfl, #[], 0, [], heap_alloc_new wr _, stamped_empty 0, trivial, List.Perm.refl _⟩ (fun b hb => by rw [World.size_alloc]; omega)
set_option maxRecDepth 100000 in
set_option maxHeartbeats 1000000 in
theorem topen_calls {w w0 : World} {d : Nat} {m : DM} {rs : List (Res w.heap.size)} (h : Own w w0 (rDisk w.heap.size d m :: rs)) {n : Nat} (hg : Good m n) (hn : n < 549755813888) (nm : ByteArray) :
  Calls Tryz.prog 19 #[.pointer (some ⟨d, 0, none⟩), .string nm] w0 (TOpenPost w d nm rs (tOpenOf m nm)) := by
 have hop := open_calls h hg hn nm
 have hres := open_res m nm
 have HOP := Lib.hid hop
 have HRES := Lib.hid hres
 have hmm := @run_makeMap Tryz.prog
 clear h hg hn hop hres
 obtain ⟨T, hT⟩ : ∃ T, tOpenOf m nm = T := ⟨_, rfl⟩
 have HT := Lib.hid hT
 rw [hT]
 clear hT
 go_enter Tryz.func19, Tryz.ntmps19
 go_wp2_with fail
 refine HOP.out.mono ?_
 rintro e w1 (⟨hr, rfl, h1⟩ | ⟨recs, used, j, v, hr, rfl, h1⟩)
 ·have hc : ((openOf m nm).code != 0) = true := by simpa using HRES.out.1 hr
  have HF := Lib.hid (show TOpenPost w d nm rs T (.returned (.tuple #[.pointer none, .int .i64 (openOf m nm).code])) w1 by
   rw [← HT.out]; unfold tOpenOf; rw [hr]; exact .inl ⟨rfl, rfl, h1⟩)
  generalize (openOf m nm).code = rc at hc HF ⊢
  clear HOP HRES hr h1 hmm HT
  go_wp2_with fail
  go_ret2
  exact HF.out
 ·obtain ⟨hc, hrl⟩ := HRES.out.2 recs used hr
  have HT2 := Lib.hid (show T = match tabOf recs [] with | none => ⟨200, (openOf m nm).m, none⟩ | some fs => ⟨0, (openOf m nm).m, some (used, fs)⟩ by rw [← HT.out]; unfold tOpenOf; rw [hr])
  rw [hc]
  have hh := ((h1.newMap).alloc (tabObj j w1.heap.size false)).swap
  rw [World.size_alloc] at hh
  obtain ⟨-, va, vc, rfl⟩ := h1.rows (v := v) (ll := recs) (by simp)
  have hrn : (recs.length : Int) ≤ 9223372036854775807 := by
   obtain ⟨F, ⟨ps, G, hrow, _⟩, _⟩ := h1.mem (r := rRows w.heap.size (.slice va recs.length vc) recs) (by simp)
   rcases hrow.2 with ⟨e1, e2⟩ | ⟨g, cap, cur, _, _, _, h3, h4, _⟩
   ·rw [e2]; simp
   ·unfold maxLen at h4; omega
  have HL := Lib.hid hrl
  have HH := Lib.hid hh
  have i0 : (0 : Int) ≤ recs.length := by omega
  generalize (openOf m nm).m = m1 at HH HT2
  clear HOP HRES hr h1 hc hrl hh HT
  go_wp2_with fail
  go_loopw [30] (fun iv wx => ∃ (k : Nat) (fs : FS), k ≤ recs.length ∧ iv = .int .i64 (k : Int) ∧ tabOf recs [] = tabOf (recs.drop k) fs ∧ Own w wx (rMap w.heap.size w1.heap.size fs :: rObj w.heap.size (w1.heap.size + 1) (tabObj j w1.heap.size false) :: rDisk w.heap.size d m1 :: rObj w.heap.size j (jrnObj d nm used) :: rRows w.heap.size (.slice va recs.length vc) recs :: rs)) (fun iv _ => recs.length - (intOf iv).toNat)
  case atStart => exact ⟨0, [], Nat.zero_le _, rfl, rfl, HH.out⟩
  case round =>
   obtain ⟨k, fs, hk, rfl, hinv, ho⟩ := hrel
   clear HH
   have k0 : (0 : Int) ≤ k := by omega
   by_cases hlt : k < recs.length
   ·obtain ⟨rec, hrec⟩ : ∃ rec, recs[k]? = some rec := ⟨recs[k], List.getElem?_eq_getElem hlt⟩
    obtain ⟨⟨_, _, e, hrows⟩, _⟩ := ho.rows (v := .slice va recs.length vc) (ll := recs) (by simp)
    cases e
    obtain ⟨x, p, rfl, hx, hp⟩ := hrows k rec hrec
    have hpl := HL.out rec (List.mem_of_getElem? hrec)
    rw [tabOf_step hrec] at hinv
    have HDC := Lib.hid (tdecode_calls hp (by omega))
    obtain ⟨pa, pc, rfl, _, _⟩ := hp.form
    have k1 : (k : Int) < recs.length := by omega
    have hk1 : k + 1 ≤ recs.length := by omega
    have HINV := Lib.hid hinv
    have HO := Lib.hid ho
    clear hrows hp hpl hinv ho hrec hlt hk HL
    go_wp2_with fail
    refine HDC.out.mono ?_
    rintro e w2 ⟨lv, rfl, hk2, hl2⟩
    cases hd : decOf rec with
    | none =>
     have hinv := HINV.out
     rw [hd] at hinv
     have hfin : TOpenPost w d nm rs T (.returned (.tuple #[.pointer none, .int .i64 200])) w2 := by
      rw [HT2.out, hinv]
      exact .inl ⟨rfl, rfl, ((HO.out.quiet hk2).drop.drop.drop3.swap.drop)⟩
     have HF := Lib.hid hfin
     clear hfin hinv hd hk2 hl2 HINV HO HDC
     simp only [Option.isSome_none]
     go_wp2_with fail
     go_ret2
     exact HF.out
    | some l =>
     have hinv := HINV.out
     rw [hd] at hinv
     have hat := hl2 l hd
     obtain ⟨la, lc, rfl⟩ := hat.form
     obtain ⟨hs1, hs2⟩ := decOf_small hd
     have ho2 := (HO.out.addTChs hat hk2).tuck2
     have hdo := tdo_calls ho2 (a := la) (c := lc) (l := l) (by simp) (by omega) (fun x hx => by have := (hs1 x hx).1; omega)
     have HDO := Lib.hid hdo
     have HINV2 := Lib.hid hinv
     clear hinv hd hat hk2 hl2 HINV HO HDC hs1 hs2 ho2 hdo
     simp only [Option.isSome_some]
     go_wp2_with fail
     refine HDO.out.mono ?_
     rintro e w3 ⟨rfl, h3⟩
     have HREL := Lib.hid (⟨k + 1, tdos fs l, hk1, rfl, HINV2.out, h3.drop3⟩ : ∃ (k' : Nat) (fs' : FS), k' ≤ recs.length ∧ Value.int .i64 ((k + 1 : Nat) : Int) = .int .i64 (k' : Int) ∧ tabOf recs [] = tabOf (recs.drop k') fs' ∧ Own w w3 (rMap w.heap.size w1.heap.size fs' :: rObj w.heap.size (w1.heap.size + 1) (tabObj j w1.heap.size false) :: rDisk w.heap.size d m1 :: rObj w.heap.size j (jrnObj d nm used) :: rRows w.heap.size (.slice (some x) recs.length vc) recs :: rs))
     clear h3 HDO HINV2
     go_wp2_with fail
     go_roundw
     case rel => exact HREL.out
     case measure => simp [intOf]; omega
   ·obtain rfl : k = recs.length := by omega
    rw [List.drop_length, tabOf] at hinv
    have hfin : TOpenPost w d nm rs T (.returned (.tuple #[.pointer (some ⟨w1.heap.size + 1, 0, none⟩), .int .i64 0])) wr := by
     rw [HT2.out, hinv]
     exact .inr ⟨used, fs, j, _, _, rfl, rfl, ho.tabOrder⟩
    have HF := Lib.hid hfin
    clear hfin hinv ho hlt hk HL
    go_wp2_with fail
    go_ret2
    exact HF.out
structure TabOk (fs : FS) : Prop where
 sorted : FSorted fs
 each : ∀ p ∈ fs, 0 < p.1.size ∧ p.1.size ≤ 320 ∧ p.2.length ≤ 262144
theorem TabOk.nil : TabOk [] := ⟨FSorted.nil, fun p hp => by simp at hp⟩
theorem TabOk.tdo {fs : FS} (h : TabOk fs) {c : TCh} (hc : badCh c = false) : TabOk (tdo fs c) := by
 refine ⟨FSorted.tdo h.sorted c, fun p hp => ?_⟩
 obtain ⟨g0, g1, g2⟩ := badCh_false hc
 unfold Go.Proofs.YtlcnhpjggjgnpaaGreatDoor.tdo at hp
 split at hp
 ·exact h.each p (List.mem_filter.1 hp).1
 ·unfold fput at hp
  rcases List.mem_cons.1 ((fins_perm _ _).mem_iff.1 hp) with rfl | hp
  ·exact ⟨g0, g1, g2⟩
  ·exact h.each p (List.mem_filter.1 hp).1
theorem TabOk.tdos : ∀ (l : List TCh) {fs : FS}, TabOk fs → (∀ c ∈ l, badCh c = false) → TabOk (tdos fs l)
 | [], fs, h, _ => h
 | c :: l, fs, h, hc => TabOk.tdos l (h.tdo (hc c (List.mem_cons_self ..))) (fun x hx => hc x (List.mem_cons_of_mem _ hx))
theorem TabOk.names {fs : FS} (h : TabOk fs) : ∀ p ∈ fs, p.1.size ≤ maxLen := fun p hp => by have := (h.each p hp).2.1; unfold maxLen; omega
theorem blt_empty {s : ByteArray} (h : 0 < s.size) : blt ⟨#[]⟩ s = true := by
 unfold blt
 have hl := key_len s
 have he : (⟨#[]⟩ : ByteArray).toList = [] := by decide +kernel
 rw [he]
 cases hs : s.toList with
 | nil => rw [hs] at hl; simp at hl; omega
 | cons x l => rfl
end Go.Proofs.YtlcnhpjggjgnpaaGreatDoor
