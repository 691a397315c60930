/- A part of the proof. -/
import Derived.Test.YtlcnhpjggjgnpaaGreatDoorWb0
import Derived.Test.YtlcnhpjggjgnpaaGreatDoorWb2
import Derived.Test.YtlcnhpjggjgnpaaGreatDoorWc0
import Derived.Test.YtlcnhpjggjgnpaaGreatDoorWc1
import Derived.Test.YtlcnhpjggjgnpaaGreatDoorWc3
import Derived.Laws.Cover1
namespace Go.Proofs.YtlcnhpjggjgnpaaGreatDoor
set_option linter.unusedVariables false
open Go.RowKit Go.MapKept
open Go.ChangeMaps (setBlock)
def tchCells : List Value → List TCh → List Value
  | p :: ps, c :: cs => .string c.key :: .bool c.gone :: p :: tchCells ps cs
  | _, _ => []
theorem tchCells_snoc : ∀ (ps : List Value) (cs : List TCh) (p : Value) (c : TCh), ps.length = cs.length → tchCells (ps ++ [p]) (cs ++ [c]) = tchCells ps cs ++ [.string c.key, .bool c.gone, p]
  | [], [], _, _, _ => rfl
  | q :: ps, g :: cs, p, c, h => by simp [tchCells, tchCells_snoc ps cs p c (by simpa using h)]
  | [], _ :: _, _, _, h => by simp at h
  | _ :: _, [], _, _, h => by simp at h
theorem tchCells_get : ∀ {ps : List Value} {cs : List TCh} (i : Nat) {p : Value} {c : TCh}, ps[i]? = some p → cs[i]? = some c → (tchCells ps cs)[i * 3]? = some (.string c.key) ∧ (tchCells ps cs)[i * 3 + 1]? = some (.bool c.gone) ∧ (tchCells ps cs)[i * 3 + 2]? = some p
  | q :: ps, g :: cs, 0, p, c, hp, hc => by
    simp at hp hc; subst hp; subst hc
    exact ⟨rfl, rfl, rfl⟩
  | q :: ps, g :: cs, i + 1, p, c, hp, hc => by
    have := tchCells_get (ps := ps) (cs := cs) i (by simpa using hp) (by simpa using hc)
    rw [show (i + 1) * 3 = i * 3 + 1 + 1 + 1 by omega]
    simpa [tchCells] using this
  | [], _, i, _, _, hp, _ => by simp at hp
  | _ :: _, [], i, _, _, _, hc => by simp at hc
def TChsIn (w : World) (a : Option Addr) (cs : List TCh) : Prop :=
  ∀ (i : Nat) (c : TCh), cs[i]? = some c → ∃ x p, a = some x ∧ w.cell? (x.add (i * 3)) = some (.string c.key) ∧ w.cell? (x.add (i * 3 + 1)) = some (.bool c.gone) ∧ w.cell? (x.add (i * 3 + 2)) = some p ∧ Reads w p c.val
theorem cell_keep {w w' : World} {x : Addr} {v : Value} (h : w.cell? x = some v) (hk : Keeps (fun _ => False) w w') : w'.cell? x = some v := by
  have := hk.block _ (World.block_lt_of_cell? w _ h) (fun e => e)
  rw [World.cell?_of_block this]; exact h
theorem TChsIn.cells {w : World} {a : Option Addr} {cs : List TCh} (h : TChsIn w a cs) {i : Nat} {c : TCh} (hc : cs[i]? = some c) : ∃ x p, a = some x ∧ w.cell? (x.add (i * 3)) = some (.string c.key) ∧ w.cell? { block := (x.add (i * 3)).block, off := (x.add (i * 3)).off + 1 } = some (.bool c.gone) ∧ w.cell? { block := (x.add (i * 3)).block, off := (x.add (i * 3)).off + 2 } = some p ∧ Reads w p c.val := by
  obtain ⟨x, p, e, c0, c1, c2, hp⟩ := h i c hc
  rw [← Addr.add_add, Addr.add_succ'] at c1 c2
  exact ⟨x, p, e, c0, c1, c2, hp⟩
def TChsF (B : Nat) (F : Nat → Prop) (w : World) (a : Option Addr) (cs : List TCh) : Prop :=
  ∀ (i : Nat) (c : TCh), cs[i]? = some c → ∃ x p, a = some x ∧ (F x.block ∨ x.block < B) ∧ w.cell? (x.add (i * 3)) = some (.string c.key) ∧ w.cell? (x.add (i * 3 + 1)) = some (.bool c.gone) ∧ w.cell? (x.add (i * 3 + 2)) = some p ∧ ReadsF B F w p c.val
theorem TChsF.keep {B : Nat} {F : Nat → Prop} {w w' : World} {a : Option Addr} {cs : List TCh} (h : TChsF B F w a cs) (hk : ∀ b, F b ∨ b < B → w'.heap[b]? = w.heap[b]?) : TChsF B F w' a cs := fun i c hc => by
  obtain ⟨x, p, e, hb, c0, c1, c2, hp⟩ := h i c hc
  have hh : ∀ j, w'.cell? (x.add j) = w.cell? (x.add j) := fun j => World.cell?_of_block (by rw [add_block]; exact hk _ hb)
  exact ⟨x, p, e, hb, (hh _).trans c0, (hh _).trans c1, (hh _).trans c2, hp.keep hk⟩
theorem TChsF.ins {B : Nat} {F : Nat → Prop} {w : World} {a : Option Addr} {cs : List TCh} (h : TChsF B F w a cs) : TChsIn w a cs := fun i c hc => by
  obtain ⟨x, p, e, _, c0, c1, c2, hp⟩ := h i c hc
  exact ⟨x, p, e, c0, c1, c2, hp.reads⟩
def rTChs (B : Nat) (a : Option Addr) (cs : List TCh) : Res B := ⟨fun F w => TChsF B F w a cs, fun _ _ _ h hk => h.keep hk⟩
theorem Own.tchs {w wr : World} {rs : List (Res w.heap.size)} {a : Option Addr} {cs : List TCh} (h : Own w wr rs) (hm : rTChs w.heap.size a cs ∈ rs) : TChsIn wr a cs := by
  obtain ⟨F, hF, _⟩ := h.mem hm
  exact TChsF.ins hF
def TChsAt (T : TypeId) (base : Nat) (w : World) (v : Value) (cs : List TCh) : Prop :=
  ∃ ps : List Value, Rel2 (fun p (c : TCh) => Owns w base p c.val) ps cs ∧ w.ownsRow base T 3 v cs.length (tchCells ps cs) ∧ ps.Pairwise (fun p q => ∀ b, p.ownBlock = some b → q.ownBlock ≠ some b)
theorem TChsAt.nil (T : TypeId) (base : Nat) (w : World) : TChsAt T base w (.slice none 0 0) [] := ⟨[], trivial, ⟨rfl, .inl ⟨rfl, rfl⟩⟩, List.Pairwise.nil⟩
theorem TChsAt.form {T : TypeId} {base : Nat} {w : World} {v : Value} {cs : List TCh} (h : TChsAt T base w v cs) : ∃ a c, v = .slice a cs.length c := by
  obtain ⟨ps, h1, h2, h3⟩ := h
  exact ownsRow_slice h2
theorem TChsAt.res {T : TypeId} {base B : Nat} {w : World} {a : Option Addr} {n c : Nat} {cs : List TCh} (h : TChsAt T base w (.slice a n c) cs) : TChsF B (fun b => base ≤ b ∧ b < w.heap.size) w a cs := fun i ch hc => by
  obtain ⟨ps, h1, h2, h3⟩ := h
  obtain ⟨p, hp, ho⟩ := h1.get' hc
  have hcl := tchCells_get i hp hc
  have hlt := h2.lt
  rcases h2.2 with ⟨e, e2⟩ | ⟨g, cap, cur, e, _⟩
  · have := (List.getElem?_eq_some_iff.1 hc).1; omega
  · cases e
    refine ⟨_, p, rfl, .inl ⟨(hlt g rfl).1, (hlt g rfl).2⟩, h2.cells (g := g) rfl _ _ hcl.1, h2.cells (g := g) rfl _ _ hcl.2.1, h2.cells (g := g) rfl _ _ hcl.2.2, ?_⟩
    exact (ReadsF.of_owns (B := B) ho).wider (fun b hb => ⟨(owns_lt ho b hb).2, (owns_lt ho b hb).1⟩)
theorem Own.addTChs {w wr w' : World} {rs : List (Res w.heap.size)} (h : Own w wr rs) {T : TypeId} {a : Option Addr} {n c : Nat} {cs : List TCh} (ho : TChsAt T wr.heap.size w' (.slice a n c) cs) (hk : Keeps (fun _ => False) wr w') : Own w w' (rTChs w.heap.size a cs :: rs) :=
  h.add hk (r := rTChs w.heap.size a cs) (G := fun b => wr.heap.size ≤ b ∧ b < w'.heap.size) ho.res (fun b hb => hb)
theorem TChsAt.push {T Ts : TypeId} (hinfo : (Tryz.prog.info? T).map (fun i => (i.zero, i.size, i.bytes)) = some (some (.agg #[.string ⟨#[]⟩, .bool false, .slice none 0 0]), 3, 48)) (hu : Tryz.prog.underlying Ts = some (.slice T)) (hne : T ≠ 5)
    {base : Nat} {w0 w : World} {v p : Value} {cs : List TCh} {c : TCh} (h : TChsAt T base w0 v cs) (hz : base ≤ w0.heap.size) (hk0 : Keeps (fun _ => False) w0 w) (hp : Owns w w0.heap.size p c.val) (hb : cs.length < 1099511627776) :
    ∃ a k w', (Builtin.append_ #[Ts, Ts] Ts #[v, .slice (some ⟨w.heap.size, 0, none⟩) 1 1]).run Tryz.prog (w.alloc (.cells #[.string c.key, .bool c.gone, p] T)) = .ok (.slice a (cs.length + 1) k) w' ∧ TChsAt T base w' (.slice a (cs.length + 1) k) (cs ++ [c]) ∧
      Keeps (fun b => v.ownBlock = some b) w w' ∧ ∀ b, v.ownBlock = some b → base ≤ b := by
  obtain ⟨ps, g1, g2, h3⟩ := h
  have h1 : Rel2 (fun p (c : TCh) => Owns w base p c.val) ps cs := g1.mono (fun p c hpc => hpc.keep hk0)
  have h2 : w.ownsRow base T 3 v cs.length (tchCells ps cs) := rrow_keep g2 (fun b hb => hk0.block b (g2.lt b hb).2 (fun e => e))
  have hz0 := hk0.size
  have hlt := h2.lt
  obtain ⟨i0, hi, hz0', hz1, hz2⟩ := info_parts hinfo
  have hp1 : p.oneCell' = true := by obtain ⟨a, c, rfl, _⟩ := hp.bytes.form; rfl
  obtain ⟨v', w', hrun, ho2, hg, _, hat⟩ := run_append_own_at (P := Tryz.prog) (w.alloc (.cells #[.string c.key, .bool c.gone, p] T)) base Ts Ts T i0 _ 3 48 hu hi hz0' hz1 hz2 rfl (by omega) v cs.length (tchCells ps cs) (h2.alloc _) ⟨w.heap.size, 0, none⟩ 1 1 [.string c.key, .bool c.gone, p] rfl
    (fun j u hu => by
      rw [Addr.add_lit, Nat.zero_add]
      exact cell_at (heap_alloc_new w _) (by simpa using hu))
    (by intro u hu; simp at hu; rcases hu with rfl | rfl | rfl; rfl; rfl; exact hp1) (by unfold maxLen; omega) (by omega) (by simp only [World.size_alloc]; omega)
  obtain ⟨a, k, rfl⟩ := ownsRow_slice ho2
  have hk : Keeps (fun b => v.ownBlock = some b) w w' := ((Keeps.refl _ w).alloc _).trans (Keeps.of_grown hg) (fun _ _ h => h)
  have hdis : ∀ {q : Value} {m : List UInt8} {base' : Nat}, Owns w base' q m → ∀ b, q.ownBlock = some b → ¬ v.ownBlock = some b := fun {q m base'} hq b e1 e2 => by
    obtain ⟨c1, k1⟩ := ownsRow_type hq e1
    obtain ⟨c2, k2⟩ := ownsRow_type h2 e2
    have := k1.symm.trans k2
    simp only [Option.some.injEq, Obj.cells.injEq] at this
    exact hne this.2.1.symm
  refine ⟨a, k, w', hrun, ⟨ps ++ [p], ?_, ?_, ?_⟩, hk, fun b hb => (hlt b hb).1⟩
  · exact (h1.mono (fun q f hq => owns_keep hq hk (hdis hq))).append ⟨Owns.base (owns_keep hp hk (hdis hp)) hz, trivial⟩
  · rw [tchCells_snoc _ _ _ _ h1.length, List.length_append]
    exact ho2
  · rw [List.pairwise_append]
    refine ⟨h3, List.pairwise_singleton .., fun q hq r hr b hb e => ?_⟩
    simp at hr
    subst hr
    obtain ⟨m, hm⟩ := g1.mem q hq
    have e1 := owns_lt hm b hb
    have e2 := owns_lt hp b e
    omega
end Go.Proofs.YtlcnhpjggjgnpaaGreatDoor
namespace Go.Proofs.YtlcnhpjggjgnpaaGreatDoor
set_option linter.unusedVariables false
open Go.RowKit Go.MapKept
open Go.ChangeMaps (setBlock)
def rMap (B b : Nat) (fs : FS) : Res B := ⟨fun F w => F b ∧ MapFs F w b fs, fun F w w' h hk => ⟨h.1, h.2.keep (hk b (.inl h.1)) (fun g cs fz hF hb => (hk g (.inl hF)).trans hb) (fun _ h _ => h)⟩⟩
def tabObj (j b : Nat) (down : Bool) : Obj := .cells #[.pointer (some ⟨j, 0, none⟩), .map (some b), .bool down] 142 (0, 0)
theorem tab_cells {w : World} {t j b : Nat} {down : Bool} (h : w.heap[t]? = some (tabObj j b down)) : w.cell? ⟨t, 0, none⟩ = some (.pointer (some ⟨j, 0, none⟩)) ∧ w.cell? ⟨t, 1, none⟩ = some (.map (some b)) ∧ w.cell? ⟨t, 2, none⟩ = some (.bool down) ∧ ∀ i, w.frozen? ⟨t, i, none⟩ = false :=
  ⟨cell_at h rfl, cell_at h rfl, cell_at h rfl, fun i => free_at h i⟩
theorem Own.mapPut {w wr w1 : World} {b : Nat} {fs : FS} {rs : List (Res w.heap.size)} (h : Own w wr (rMap w.heap.size b fs :: rs)) (k : ByteArray) {v : Value} {l : List UInt8} (hv : Owns w1 wr.heap.size v l) (hk : Keeps (fun _ => False) wr w1) :
    ∃ es clock, (Instr.mapUpdate 131 (.map (some b)) (.string k) v).run Tryz.prog w1 = .ok () (setBlock w1 b (.map es clock)) ∧ Own w (setBlock w1 b (.map es clock)) (rMap w.heap.size b (fput fs k l) :: rs) := by
  obtain ⟨F, ⟨hb, hm⟩, hF, hfin⟩ := h.open1
  have hz := hk.size
  have h1 : MapFs (Ext F wr w1) w1 b fs := hm.keep (hk.block b hm.lt (fun e => e)) (KeepU8.of_none hk) (fun g hg _ => .inl hg)
  have h2 : Bytes (Ext F wr w1) w1 v l := hv.bytes.keep (KeepU8.refl _ _) (fun g hg hl => .inr ⟨hg, hl⟩)
  obtain ⟨es, clock, hr, h3⟩ := h1.update (P := Tryz.prog) Tryz.underlying131 Tryz.underlying9 k h2
  refine ⟨es, clock, hr, hfin _ _ ((hk.mono (fun _ _ e => e.elim)).setBlock (fun _ => hb) _) ⟨.inl hb, h3.keep rfl (KeepU8.refl _ _) (fun g hg hl => ?_)⟩⟩
  rcases hg with hg | ⟨h4, h5⟩
  · exact .inl hg
  · exact .inr ⟨h4, by simpa [setBlock] using h5⟩
theorem Own.mapDel {w wr w1 : World} {b : Nat} {fs : FS} {rs : List (Res w.heap.size)} (h : Own w wr (rMap w.heap.size b fs :: rs)) (k : ByteArray) (hk : Keeps (fun _ => False) wr w1) :
    ∃ es clock, (Builtin.delete_ #[131, 9] 0 #[.map (some b), .string k]).run Tryz.prog w1 = .ok (.tuple #[]) (setBlock w1 b (.map es clock)) ∧ Own w (setBlock w1 b (.map es clock)) (rMap w.heap.size b (fdel fs k) :: rs) := by
  obtain ⟨F, ⟨hb, hm⟩, hF, hfin⟩ := h.open1
  have hz := hk.size
  have h1 : MapFs (Ext F wr w1) w1 b fs := hm.keep (hk.block b hm.lt (fun e => e)) (KeepU8.of_none hk) (fun g hg _ => .inl hg)
  obtain ⟨es, clock, hr, h3⟩ := h1.delete (P := Tryz.prog) Tryz.underlying131 Tryz.underlying9 k 9 0
  refine ⟨es, clock, hr, hfin _ _ ((hk.mono (fun _ _ e => e.elim)).setBlock (fun _ => hb) _) ⟨.inl hb, h3.keep rfl (KeepU8.refl _ _) (fun g hg hl => ?_)⟩⟩
  rcases hg with hg | ⟨h4, h5⟩
  · exact .inl hg
  · exact .inr ⟨h4, by simpa [setBlock] using h5⟩
theorem tdos_take {l : List TCh} {k : Nat} {c : TCh} (h : l[k]? = some c) (fs : FS) : tdos fs (l.take (k + 1)) = tdo (tdos fs (l.take k)) c := by
  obtain ⟨hk, rfl⟩ := List.getElem?_eq_some_iff.1 h
  unfold tdos
  rw [List.take_succ_eq_append_getElem hk, List.foldl_append]
  rfl
set_option maxRecDepth 100000 in
set_option maxHeartbeats 1000000 in
theorem tdo_callsO {w w0 : World} {t j b : Nat} {down : Bool} {fs : FS} {rs : List (Res w.heap.size)} (h : Own w w0 (rMap w.heap.size b fs :: rObj w.heap.size t (tabObj j b down) :: rs)) {a : Option Addr} {c : Nat} {l : List TCh} (hm : ∀ (wr : World) (ls : List (Res w.heap.size)), Own w wr (ls ++ rs) → TChsIn wr a l) (hc : l.length ≤ 1099511627776) (hv : ∀ x ∈ l, x.val.length ≤ 140737488355328) :
    Calls Tryz.prog 60 #[.pointer (some ⟨t, 0, none⟩), .slice a l.length c] w0 (fun e w' => e = .returned (.tuple #[]) ∧ Own w w' (rMap w.heap.size b (tdos fs l) :: rObj w.heap.size t (tabObj j b down) :: rs)) := by
  have H := Lib.hid h
  have i0 : (l.length : Int) ≤ 1099511627776 := by omega
  have i1 : (0 : Int) ≤ (l.length : Int) := by omega
  have HV := Lib.hid hv
  clear h hc hv
  go_enter Tryz.func60, Tryz.ntmps60
  go_wp2_with fail
  go_loopw [8] (fun iv wx => ∃ k : Nat, k ≤ l.length ∧ iv = .int .i64 (k : Int) ∧ Own w wx (rMap w.heap.size b (tdos fs (l.take k)) :: rObj w.heap.size t (tabObj j b down) :: rs)) (fun iv _ => l.length - (intOf iv).toNat)
  case atStart => exact ⟨0, Nat.zero_le _, rfl, H.out⟩
  case round =>
    obtain ⟨k, hk, rfl, ho⟩ := hrel
    clear H
    have j0 : (0 : Int) ≤ k := by omega
    by_cases hlt : k < l.length
    · obtain ⟨ch, hch⟩ : ∃ ch, l[k]? = some ch := ⟨l[k], List.getElem?_eq_getElem hlt⟩
      obtain ⟨x, p, rfl, c0, c1, c2, hp⟩ := (hm _ [_, _] ho).cells hch
      have hvl := HV.out ch (List.mem_of_getElem? hch)
      have htk := tdos_take hch fs
      obtain ⟨key, gone, val⟩ := ch
      dsimp only at c0 c1 c2 hp hvl
      obtain ⟨pa, pc, rfl, _, _⟩ := hp.form
      have j2 : (k : Int) < l.length := by omega
      have hk1 : k + 1 ≤ l.length := by omega
      have hq : Keeps (fun _ => False) wr (wr.alloc (.cells #[.string key, .bool gone, .slice pa val.length pc] 109)) := (Keeps.refl _ wr).alloc _
      have ho2 := ho.quiet hq
      have hp2 := hp.keep hq
      have hB := heap_alloc_new wr (.cells #[.string key, .bool gone, .slice pa val.length pc] 109)
      have ht := tab_cells (ho2.at (b := t) (o := tabObj j b down) (by simp)).1
      cases gone with
      | true =>
        obtain ⟨es, clock, hrun, hfin⟩ := ho2.mapDel key ((Keeps.refl _ _).drew)
        rw [show fdel (tdos fs (l.take k)) key = tdos fs (l.take (k + 1)) by rw [htk]; unfold tdo; rw [if_pos rfl]] at hfin
        have HR := Lib.hid (⟨k + 1, hk1, rfl, hfin⟩ : ∃ k' : Nat, k' ≤ l.length ∧ Value.int .i64 ((k + 1 : Nat) : Int) = .int .i64 (k' : Int) ∧ Own w _ (rMap w.heap.size b (tdos fs (l.take k')) :: rObj w.heap.size t (tabObj j b down) :: rs))
        have HRUN := Lib.hid hrun
        have q0 := cell_at (i := 0) hB rfl
        have q1 := cell_at (i := 1) hB rfl
        obtain ⟨t0, t1, t2, t3⟩ := ht
        clear hrun hfin ho ho2 hp hp2 hvl htk hch hq HV hk hlt hB t0 t2 t3
        go_wp2_with fail
        generalize wr.alloc (.cells #[.string key, .bool true, .slice pa val.length pc] 109) = W at q0 q1 t1 HRUN HR ⊢
        go_still_tail 6, (by kernel_rfl)
        change wpList _ _ _ _ _ (World.drew _)
        go_wp2_with (at_delete; refine wpList_delete_run rfl _ _ _ _ rfl rfl rfl HRUN.out ?_)
        go_roundw
        case rel => exact HR.out
        case measure => simp [intOf]; omega
      | false =>
        obtain ⟨v1, w1, hcl, hv1, hk1'⟩ := clone_owns (w := (wr.alloc (.cells #[.string key, .bool false, .slice pa val.length pc] 109)).drew) (hp2.keep ((Keeps.refl _ _).drew)) hvl
        obtain ⟨es, clock, hrun, hfin⟩ := ho2.mapPut key hv1 (((Keeps.refl _ _).drew).trans hk1' (fun _ _ e => e))
        rw [show fput (tdos fs (l.take k)) key val = tdos fs (l.take (k + 1)) by rw [htk]; unfold tdo; rw [if_neg (by simp)]] at hfin
        have HR := Lib.hid (⟨k + 1, hk1, rfl, hfin⟩ : ∃ k' : Nat, k' ≤ l.length ∧ Value.int .i64 ((k + 1 : Nat) : Int) = .int .i64 (k' : Int) ∧ Own w _ (rMap w.heap.size b (tdos fs (l.take k')) :: rObj w.heap.size t (tabObj j b down) :: rs))
        have HCL := Lib.hid hcl
        have hbne : wr.heap.size ≠ b := fun e => by
          obtain ⟨F, ⟨hb, _⟩, hF⟩ := ho.head
          have := (hF b hb).2
          omega
        have h2s : ∀ i v, w1.cell? ⟨wr.heap.size, i, none⟩ = some v → (setBlock w1 b (.map es clock)).cell? ⟨wr.heap.size, i, none⟩ = some v := fun i v hv => (World.cell?_of_block (heap_setBlock_ne w1 b _ hbne)).trans hv
        have ht3 := tab_cells (hfin.at (b := t) (o := tabObj j b down) (by simp)).1
        have q1 := cell_at (i := 1) hB rfl
        have hS : ∀ w2, Keeps (fun _ => False) (wr.alloc (.cells #[.string key, .bool false, .slice pa val.length pc] 109)).drew w2 → w2.cell? ⟨t, 1, none⟩ = some (.map (some b)) ∧ w2.cell? ⟨wr.heap.size, 0, none⟩ = some (.string key) ∧ w2.cell? ⟨wr.heap.size, 2, none⟩ = some (.slice pa val.length pc) := fun w2 hk2 =>
          ⟨cell_keep ht.2.1 (((Keeps.refl _ _).drew).trans hk2 (fun _ _ e => e)), cell_keep (cell_at (i := 0) hB rfl) (((Keeps.refl _ _).drew).trans hk2 (fun _ _ e => e)), cell_keep (cell_at (i := 2) hB rfl) (((Keeps.refl _ _).drew).trans hk2 (fun _ _ e => e))⟩
        have HS0 := Lib.hid (hS _ (Keeps.refl _ _))
        have HS1 := Lib.hid (hS _ hk1')
        have HS2 := Lib.hid (⟨ht3.2.1, h2s _ _ (hS _ hk1').2.1, h2s _ _ (hS _ hk1').2.2⟩ : (setBlock w1 b (.map es clock)).cell? ⟨t, 1, none⟩ = some (.map (some b)) ∧ (setBlock w1 b (.map es clock)).cell? ⟨wr.heap.size, 0, none⟩ = some (.string key) ∧ (setBlock w1 b (.map es clock)).cell? ⟨wr.heap.size, 2, none⟩ = some (.slice pa val.length pc))
        clear hcl hv1 hk1' hfin ho ho2 hp hp2 hvl htk hch hq HV hk hlt hB ht hS ht3 h2s hbne
        go_wp2_with fail
        generalize wr.alloc (.cells #[.string key, .bool false, .slice pa val.length pc] 109) = W at q1 HCL HS0 HS1 HS2 hrun HR ⊢
        go_region_held3 (fun w' => w'.cell? ⟨t, 1, none⟩ = some (.map (some b)) ∧ w'.cell? ⟨wr.heap.size, 0, none⟩ = some (.string key) ∧ w'.cell? ⟨wr.heap.size, 2, none⟩ = some (.slice pa val.length pc)) (first | exact HS0.out | exact HS1.out | exact HS2.out | go_keep) (first | (go_at_call 111; refine HCL.out.out.mono ?_; rintro e w' ⟨rfl, rfl⟩))
        all_goals
          go_wp2_with fail
          go_roundw
          case rel => exact HR.out
          case measure => simp [intOf]; omega
    · obtain rfl : k = l.length := by omega
      rw [List.take_length] at ho
      have HO := Lib.hid ho
      clear ho hlt hk HV
      go_wp2_with fail
      go_end0
      exact ⟨rfl, HO.out⟩
theorem tdo_calls {w w0 : World} {t j b : Nat} {down : Bool} {fs : FS} {rs : List (Res w.heap.size)} (h : Own w w0 (rMap w.heap.size b fs :: rObj w.heap.size t (tabObj j b down) :: rs)) {a : Option Addr} {c : Nat} {l : List TCh} (hm : rTChs w.heap.size a l ∈ rs) (hc : l.length ≤ 1099511627776) (hv : ∀ x ∈ l, x.val.length ≤ 140737488355328) :
    Calls Tryz.prog 60 #[.pointer (some ⟨t, 0, none⟩), .slice a l.length c] w0 (fun e w' => e = .returned (.tuple #[]) ∧ Own w w' (rMap w.heap.size b (tdos fs l) :: rObj w.heap.size t (tabObj j b down) :: rs)) :=
  tdo_callsO h (fun wr ls h => h.tchs (by simp [hm])) hc hv
end Go.Proofs.YtlcnhpjggjgnpaaGreatDoor
namespace Go.Proofs.YtlcnhpjggjgnpaaGreatDoor
set_option linter.unusedVariables false
open Go.RowKit Go.MapKept
theorem tup_runs {w : World} {t j b : Nat} {down : Bool} (h : w.heap[t]? = some (tabObj j b down)) : Runs 106 #[.pointer (some ⟨t, 0, none⟩)] w (.int .i64 (if down then 5 else 0)) w := by
  unfold Runs
  have c2 := (tab_cells h).2.2.1
  clear h
  go_enter Tryz.func106, Tryz.ntmps106
  cases down
  all_goals go_wp2
  all_goals go_ret
  all_goals exact ⟨rfl, rfl⟩
theorem zero_bytesT (w : World) : (zeroValue 22).run Tryz.prog w = .ok (.slice none 0 0) w := by kernel_rfl
def GetPost (w : World) (fs : FS) (k : ByteArray) (e : Ending) (w' : World) : Prop := ∃ v, e = .returned (.tuple #[v, .bool (fget fs k).isSome]) ∧ Owns w' w.heap.size v ((fget fs k).getD []) ∧ Keeps (fun _ => False) w w'
theorem tget_calls {w : World} {t j b : Nat} {down : Bool} {F : Nat → Prop} {fs : FS} (h : w.heap[t]? = some (tabObj j b down)) (hm : MapFs F w b fs) (k : ByteArray) (hl : ((fget fs k).getD []).length ≤ 140737488355328) :
    Calls Tryz.prog 61 #[.pointer (some ⟨t, 0, none⟩), .string k] w (GetPost w fs k) := by
  have c1 := (tab_cells h).2.1
  obtain ⟨v, hv, _, hlook⟩ := hm.look (P := Tryz.prog) (T := 131) Tryz.underlying131 Tryz.underlying9 (zero_bytesT w) k
  obtain ⟨v', w', hcl, hv', hk'⟩ := clone_owns (hv.reads) hl
  have hl2 := hlook true
  have HCL := Lib.hid hcl
  have HV := Lib.hid hv'
  have HK := Lib.hid hk'
  clear h hm hl hv hlook hcl hv' hk'
  go_enter Tryz.func61, Tryz.ntmps61
  go_wp2_with (first | (go_at_call 111; refine HCL.out.out.mono ?_; rintro e w' ⟨rfl, rfl⟩))
  go_ret2
  exact ⟨_, rfl, HV.out, HK.out⟩
theorem tlen_runs {w : World} {t j b : Nat} {down : Bool} {F : Nat → Prop} {fs : FS} (h : w.heap[t]? = some (tabObj j b down)) (hm : MapFs F w b fs) : Runs 64 #[.pointer (some ⟨t, 0, none⟩)] w (.int .i64 (fs.length : Int)) w := by
  unfold Runs
  have c1 := (tab_cells h).2.1
  have hln := hm.len (P := Tryz.prog) (T := 131) Tryz.underlying131 3
  clear h hm
  go_enter Tryz.func64, Tryz.ntmps64
  go_wp2_with fail
  go_ret
  exact ⟨rfl, rfl⟩
theorem gtr_true {a b : ByteArray} (h : blt b a = true) : Op.bytesLess a.toList b.toList = false ∧ (a.toList == b.toList) = false := by
  refine ⟨?_, ?_⟩
  · exact blt_asym h
  · cases h2 : (a.toList == b.toList) with
    | false => rfl
    | true =>
      have : a = b := toList_inj (by simpa using h2)
      rw [this, blt_irrefl] at h
      cases h
theorem gtr_false {a b : ByteArray} (h : blt b a = false) (h2 : Op.bytesLess a.toList b.toList = false) : (a.toList == b.toList) = true := by
  by_cases e : b = a
  · rw [e]; simp
  · have h3 : blt a b = true := blt_total h e
    unfold blt at h3
    rw [h2] at h3
    cases h3
theorem StrsAt.base {base base' : Nat} {w : World} {v : Value} {l : List ByteArray} (h : StrsAt base w v l) (hb : base' ≤ base) : StrsAt base' w v l := row_base1 h hb
theorem mkeys_runs (mb : Option Nat) (W : World) : Runs 124 #[.map mb] W (.func (.func 165) #[] #[.pointer (some ⟨W.heap.size, 0, none⟩)]) (W.alloc (.cells #[.map mb] 131)) := by
  refine (callsIn_wide.1 (kmaps_Keys_M mb W)).mono ?_
  rintro e w' ⟨rfl, rfl⟩
  exact ⟨rfl, rfl⟩
theorem msorted_calls {F : Nat → Prop} {w : World} {b : Nat} {fs : FS} (h : MapFs F w b fs) (hs : FSorted fs) (hn : ∀ p ∈ fs, p.1.size ≤ maxLen) (hl : fs.length ≤ 1099511627776) :
    Calls Tryz.prog 123 #[.func (.func 165) #[] #[.pointer (some ⟨w.heap.size, 0, none⟩)]] (w.alloc (.cells #[.map (some b)] 131)) (NamesPost w fs) := by
  obtain ⟨D0, h1, h2, h3⟩ := h.owns hn (by unfold maxLen; omega)
  refine (callsIn_wide.1 (kslices_Sorted_keys_M b fs.length D0 anyV w h1 (by rw [h2]; unfold maxLen; omega) (by rw [h2]; omega))).mono ?_
  rintro e w' ⟨v, ss, rfl, hS, hrow, _, hbl⟩
  have hlen : ss.length = fs.length := by have := (hS.trans h3).length_eq; simpa using this
  rw [sorted_names hs (hS.trans h3), hlen] at hrow
  have hb2 : Keeps (fun _ => False) (w.alloc (.cells #[.map (some b)] 131)) w' := ⟨hbl.os, hbl.tape, hbl.output, hbl.size, fun k hk _ => hbl.block k hk⟩
  exact ⟨v, rfl, row_base1 hrow (by simp), ((Keeps.refl _ w).alloc _).trans hb2 (fun _ _ e => e)⟩
def keysFrom (hd af : ByteArray) (n : Int) : FS → List ByteArray → List ByteArray
  | [], out => out
  | p :: fs, out => if n ≤ (out.length : Int) then out else keysFrom hd af n fs (if beginsB p.1 hd = true ∧ blt af p.1 = true then out ++ [p.1] else out)
def keysOf (fs : FS) (hd af : ByteArray) (n : Int) : List ByteArray := keysFrom hd af n fs []
theorem keysFrom_step {hd af : ByteArray} {n : Int} {fs : FS} {k : Nat} {p : ByteArray × List UInt8} (hp : fs[k]? = some p) (out : List ByteArray) : keysFrom hd af n (fs.drop k) out = if n ≤ (out.length : Int) then out else keysFrom hd af n (fs.drop (k + 1)) (if beginsB p.1 hd = true ∧ blt af p.1 = true then out ++ [p.1] else out) := by
  obtain ⟨hk, rfl⟩ := List.getElem?_eq_some_iff.1 hp
  rw [List.drop_eq_getElem_cons hk, keysFrom]
def KeysPost (w : World) (l : List ByteArray) (e : Ending) (w' : World) : Prop := ∃ v, e = .returned v ∧ StrsAt w.heap.size w' v l ∧ Keeps (fun _ => False) w w'
set_option maxRecDepth 100000 in
set_option maxHeartbeats 1000000 in
theorem tkeys_calls {w : World} {t j b : Nat} {down : Bool} {F : Nat → Prop} {fs : FS} (h : w.heap[t]? = some (tabObj j b down)) (hm : MapFs F w b fs) (hs : FSorted fs) (hn : ∀ p ∈ fs, p.1.size ≤ maxLen) (hl : fs.length ≤ 1099511627775) (hd af : ByteArray) (n : Int) :
    Calls Tryz.prog 63 #[.pointer (some ⟨t, 0, none⟩), .string hd, .string af, .int .i64 n] w (KeysPost w (keysOf fs hd af n)) := by
  have c1 := (tab_cells h).2.1
  have hsc := msorted_calls hm hs hn (by omega)
  have HSC := Lib.hid hsc
  clear h hs hsc hm hn
  go_enter Tryz.func63, Tryz.ntmps63
  go_wp2_with fail
  refine (mkeys_runs (some b) w).out.mono ?_
  rintro e w' ⟨rfl, rfl⟩
  go_wp2_with fail
  refine HSC.out.mono ?_
  rintro e w1 ⟨v1, rfl, ho1, hk1⟩
  obtain ⟨a1, k1, rfl⟩ := ownsRow_slice ho1
  have i1 : (fs.length : Int) ≤ 1099511627775 := by omega
  have i2 : (0 : Int) ≤ (hd.size : Int) := by omega
  have HO1 := Lib.hid ho1
  have HK1 := Lib.hid hk1
  clear ho1 hk1 HSC c1 hl
  go_wp2_with fail
  go_loopw [9, 21] (fun ov i wx => ∃ (k : Nat) (out : List ByteArray), k ≤ fs.length ∧ i = .int .i64 (k : Int) ∧ out.length ≤ k ∧ keysOf fs hd af n = keysFrom hd af n (fs.drop k) out ∧ StrsAt w1.heap.size wx ov out ∧ Keeps (fun _ => False) w1 wx) (fun _ i _ => fs.length - (intOf i).toNat)
  case atStart => exact ⟨0, [], Nat.zero_le _, rfl, Nat.le_refl _, rfl, StrsAt.nil _ _, Keeps.refl _ _⟩
  case round =>
    obtain ⟨k, out, hk, rfl, hlen, hinv, ho, hq⟩ := hrel
    have j0 : (0 : Int) ≤ k := by omega
    have HKW : Keeps (fun _ => False) w wr := HK1.out.trans hq (fun _ _ e => e)
    obtain ⟨oa, oc, rfl⟩ := ho.form
    by_cases hlt : k < fs.length
    · obtain ⟨f, hf⟩ : ∃ f, fs[k]? = some f := ⟨fs[k], List.getElem?_eq_getElem hlt⟩
      have hst : StrsAt w.heap.size w1 (.slice a1 fs.length k1) (fs.map (·.1)) := by
        have := HO1.out
        unfold StrsAt
        rw [List.map_map, List.length_map]
        exact this
      obtain ⟨g, rfl, hc, hle, _⟩ := (hst.keep hq).cell (i := k) (s := f.1) (by rw [List.getElem?_map, hf]; rfl)
      rw [keysFrom_step hf out] at hinv
      have j1 : (k : Int) < fs.length := by omega
      have hk1 : k + 1 ≤ fs.length := by omega
      clear hst hlt hk
      by_cases hN : n ≤ (out.length : Int)
      · rw [if_pos hN] at hinv
        have hfin : KeysPost w (keysOf fs hd af n) (.returned (.slice oa out.length oc)) wr := ⟨_, rfl, by rw [hinv]; exact ho.base HK1.out.size, HKW⟩
        have HFIN := Lib.hid hfin
        clear hfin hinv ho hq HKW hf hlen
        go_wp2_with fail
        go_ret
        exact HFIN.out
      rw [if_neg hN] at hinv
      have hN2 : (out.length : Int) < n := by omega
      clear hN
      by_cases hbg : beginsB f.1 hd = true ∧ blt af f.1 = true
      · rw [if_pos hbg] at hinv
        obtain ⟨hbg, b3⟩ := hbg
        obtain ⟨b3, b4⟩ := gtr_true b3
        obtain ⟨b1, b2⟩ : decide ((hd.size : Int) ≤ (f.1.size : Int)) = true ∧ ((f.1.extract 0 hd.size).toList == hd.toList) = true := by unfold beginsB at hbg; exact Bool.and_eq_true_iff.1 hbg
        have b1' : (hd.size : Int) ≤ (f.1.size : Int) := of_decide_eq_true b1
        obtain ⟨a2, c2, w2, hrun, ho2, hk2, hbase⟩ := ho.push hq.size f.1 (by omega)
        have hq2 := hq.trans hk2 (fun b hb e => by have := hbase b e; omega)
        have HRUN := Lib.hid hrun
        have HREL := Lib.hid (⟨k + 1, out ++ [f.1], hk1, rfl, by simp; omega, hinv, by rw [show (out ++ [f.1]).length = out.length + 1 by simp]; exact ho2, hq2⟩ : ∃ (k' : Nat) (out' : List ByteArray), k' ≤ fs.length ∧ Value.int .i64 ((k + 1 : Nat) : Int) = .int .i64 (k' : Int) ∧ out'.length ≤ k' ∧ keysOf fs hd af n = keysFrom hd af n (fs.drop k') out' ∧ StrsAt w1.heap.size w2 (.slice a2 ((out ++ [f.1]).length) c2) out' ∧ Keeps (fun _ => False) w1 w2)
        clear hinv ho hq hf hrun ho2 hk2 hq2 hbase hbg HKW hlen
        go_wp2_with (at_builtin; (first | (refine wpList_append_run (w := wr.alloc (.cells #[.string f.1] 9)) rfl _ _ _ _ rfl rfl rfl HRUN.out ?_)))
        go_roundw
        case rel => have h := HREL.out; simp only [List.length_append, List.length_cons, List.length_nil, Nat.zero_add] at h; exact h
        case measure => simp [intOf]; omega
      · rw [if_neg hbg] at hinv
        have HREL := Lib.hid (⟨k + 1, out, hk1, rfl, by omega, hinv, ho, hq⟩ : ∃ (k' : Nat) (out' : List ByteArray), k' ≤ fs.length ∧ Value.int .i64 ((k + 1 : Nat) : Int) = .int .i64 (k' : Int) ∧ out'.length ≤ k' ∧ keysOf fs hd af n = keysFrom hd af n (fs.drop k') out' ∧ StrsAt w1.heap.size wr (.slice oa out.length oc) out' ∧ Keeps (fun _ => False) w1 wr)
        by_cases b1 : (hd.size : Int) ≤ (f.1.size : Int)
        · cases b2 : ((f.1.extract 0 hd.size).toList == hd.toList) with
          | false =>
            clear hinv ho hq hf hbg HKW hlen
            go_wp2_with fail
            go_roundw
            case rel => exact HREL.out
            case measure => simp [intOf]; omega
          | true =>
            have b3 : blt af f.1 = false := by
              cases hb3 : blt af f.1 with
              | false => rfl
              | true => exact absurd ⟨by unfold beginsB; rw [decide_eq_true b1, b2]; rfl, hb3⟩ hbg
            clear hinv ho hq hf hbg HKW hlen
            cases b4 : Op.bytesLess f.1.toList af.toList with
            | true =>
              clear b3
              go_wp2_with fail
              go_roundw
              case rel => exact HREL.out
              case measure => simp [intOf]; omega
            | false =>
              have b5 := gtr_false b3 b4
              clear b3
              go_wp2_with fail
              go_roundw
              case rel => exact HREL.out
              case measure => simp [intOf]; omega
        · have b1' : decide ((hd.size : Int) ≤ (f.1.size : Int)) = false := decide_eq_false b1
          clear hinv ho hq hf hbg HKW hlen
          go_wp2_with fail
          go_roundw
          case rel => exact HREL.out
          case measure => simp [intOf]; omega
    · obtain rfl : k = fs.length := by omega
      rw [List.drop_length] at hinv
      have hfin : KeysPost w (keysOf fs hd af n) (.returned (.slice oa out.length oc)) wr := ⟨_, rfl, by rw [hinv]; exact ho.base HK1.out.size, HKW⟩
      have HFIN := Lib.hid hfin
      clear hfin hinv ho hq HKW hlen hlt hk
      go_wp2_with fail
      go_ret
      exact HFIN.out
end Go.Proofs.YtlcnhpjggjgnpaaGreatDoor
namespace Go.Proofs.YtlcnhpjggjgnpaaGreatDoor
set_option linter.unusedVariables false
open Go.RowKit Go.MapKept
end Go.Proofs.YtlcnhpjggjgnpaaGreatDoor
