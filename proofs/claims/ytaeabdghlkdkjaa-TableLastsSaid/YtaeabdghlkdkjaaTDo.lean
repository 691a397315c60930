/- A table's do. -/
import Derived.Test.YtaeabdghlkdkjaaTMem
import Derived.Test.YtaeabdghlkdkjaaPkM
namespace Go.Proofs.Ytaeabdghlkdkjaa
set_option linter.unusedVariables false
open Go.RowKit Go.MapKept
open Go.ChangeMaps (setBlock)

/-- A table's map. -/
def rMap (B b : Nat) (fs : FS) : Res B := ⟨fun F w => F b ∧ MapFs F w b fs, fun F w w' h hk => ⟨h.1, h.2.keep (hk b (.inl h.1)) (fun g cs fz hF hb => (hk g (.inl hF)).trans hb) (fun _ h _ => h)⟩⟩
def tabObj (j b : Nat) (down : Bool) : Obj := .cells #[.pointer (some ⟨j, 0, none⟩), .map (some b), .bool down] 101 (0, 0)
theorem tab_cells {w : World} {t j b : Nat} {down : Bool} (h : w.heap[t]? = some (tabObj j b down)) : w.cell? ⟨t, 0, none⟩ = some (.pointer (some ⟨j, 0, none⟩)) ∧ w.cell? ⟨t, 1, none⟩ = some (.map (some b)) ∧ w.cell? ⟨t, 2, none⟩ = some (.bool down) ∧ ∀ i, w.frozen? ⟨t, i, none⟩ = false :=
  ⟨cell_at h rfl, cell_at h rfl, cell_at h rfl, fun i => free_at h i⟩
/-- A key gets a value, in new memory. -/
theorem Own.mapPut {w wr w1 : World} {b : Nat} {fs : FS} {rs : List (Res w.heap.size)} (h : Own w wr (rMap w.heap.size b fs :: rs)) (k : ByteArray) {v : Value} {l : List UInt8} (hv : Owns w1 wr.heap.size v l) (hk : Keeps (fun _ => False) wr w1) :
    ∃ es clock, (Instr.mapUpdate 95 (.map (some b)) (.string k) v).run Try.prog w1 = .ok () (setBlock w1 b (.map es clock)) ∧ Own w (setBlock w1 b (.map es clock)) (rMap w.heap.size b (fput fs k l) :: rs) := by
  obtain ⟨F, ⟨hb, hm⟩, hF, hfin⟩ := h.open1
  have hz := hk.size
  have h1 : MapFs (Ext F wr w1) w1 b fs := hm.keep (hk.block b hm.lt (fun e => e)) (KeepU8.of_none hk) (fun g hg _ => .inl hg)
  have h2 : Bytes (Ext F wr w1) w1 v l := hv.bytes.keep (KeepU8.refl _ _) (fun g hg hl => .inr ⟨hg, hl⟩)
  obtain ⟨es, clock, hr, h3⟩ := h1.update (P := Try.prog) Try.underlying95 Try.underlying9 k h2
  refine ⟨es, clock, hr, hfin _ _ ((hk.mono (fun _ _ e => e.elim)).setBlock (fun _ => hb) _) ⟨.inl hb, h3.keep rfl (KeepU8.refl _ _) (fun g hg hl => ?_)⟩⟩
  rcases hg with hg | ⟨h4, h5⟩
  · exact .inl hg
  · exact .inr ⟨h4, by simpa [setBlock] using h5⟩
theorem Own.mapDel {w wr w1 : World} {b : Nat} {fs : FS} {rs : List (Res w.heap.size)} (h : Own w wr (rMap w.heap.size b fs :: rs)) (k : ByteArray) (hk : Keeps (fun _ => False) wr w1) :
    ∃ es clock, (Builtin.delete_ #[95, 9] 0 #[.map (some b), .string k]).run Try.prog w1 = .ok (.tuple #[]) (setBlock w1 b (.map es clock)) ∧ Own w (setBlock w1 b (.map es clock)) (rMap w.heap.size b (fdel fs k) :: rs) := by
  obtain ⟨F, ⟨hb, hm⟩, hF, hfin⟩ := h.open1
  have hz := hk.size
  have h1 : MapFs (Ext F wr w1) w1 b fs := hm.keep (hk.block b hm.lt (fun e => e)) (KeepU8.of_none hk) (fun g hg _ => .inl hg)
  obtain ⟨es, clock, hr, h3⟩ := h1.delete (P := Try.prog) Try.underlying95 Try.underlying9 k 9 0
  refine ⟨es, clock, hr, hfin _ _ ((hk.mono (fun _ _ e => e.elim)).setBlock (fun _ => hb) _) ⟨.inl hb, h3.keep rfl (KeepU8.refl _ _) (fun g hg hl => ?_)⟩⟩
  rcases hg with hg | ⟨h4, h5⟩
  · exact .inl hg
  · exact .inr ⟨h4, by simpa [setBlock] using h5⟩
theorem tdos_take {l : List TCh} {k : Nat} {c : TCh} (h : l[k]? = some c) (fs : FS) : tdos fs (l.take (k + 1)) = tdo (tdos fs (l.take k)) c := by
  obtain ⟨hk, rfl⟩ := List.getElem?_eq_some_iff.1 h
  unfold tdos
  rw [List.take_succ_eq_append_getElem hk, List.foldl_append]
  rfl

set_option maxRecDepth 100000 in
set_option maxHeartbeats 1000000 in
theorem tdo_callsO {w w0 : World} {t j b : Nat} {down : Bool} {fs : FS} {rs : List (Res w.heap.size)} (h : Own w w0 (rMap w.heap.size b fs :: rObj w.heap.size t (tabObj j b down) :: rs)) {a : Option Addr} {c : Nat} {l : List TCh} (hm : ∀ (wr : World) (ls : List (Res w.heap.size)), Own w wr (ls ++ rs) → TChsIn wr a l) (hc : l.length ≤ 1099511627776) (hv : ∀ x ∈ l, x.val.length ≤ 140737488355328) :
    Calls Try.prog 47 #[.pointer (some ⟨t, 0, none⟩), .slice a l.length c] w0 (fun e w' => e = .returned (.tuple #[]) ∧ Own w w' (rMap w.heap.size b (tdos fs l) :: rObj w.heap.size t (tabObj j b down) :: rs)) := by
  have H := Lib.hid h
  have i0 : (l.length : Int) ≤ 1099511627776 := by omega
  have i1 : (0 : Int) ≤ (l.length : Int) := by omega
  have HV := Lib.hid hv
  clear h hc hv
  go_enter Try.func47, Try.ntmps47
  go_wp2_with fail
  go_loopw [8] (fun iv wx => ∃ k : Nat, k ≤ l.length ∧ iv = .int .i64 (k : Int) ∧ Own w wx (rMap w.heap.size b (tdos fs (l.take k)) :: rObj w.heap.size t (tabObj j b down) :: rs)) (fun iv _ => l.length - (intOf iv).toNat)
  case atStart => exact ⟨0, Nat.zero_le _, rfl, H.out⟩
  case round =>
    obtain ⟨k, hk, rfl, ho⟩ := hrel
    clear H
    have j0 : (0 : Int) ≤ k := by omega
    by_cases hlt : k < l.length
    · obtain ⟨ch, hch⟩ : ∃ ch, l[k]? = some ch := ⟨l[k], List.getElem?_eq_getElem hlt⟩
      obtain ⟨x, p, rfl, c0, c1, c2, hp⟩ := (hm _ [_, _] ho).cells hch
      have hvl := HV.out ch (List.mem_of_getElem? hch)
      have htk := tdos_take hch fs
      obtain ⟨key, gone, val⟩ := ch
      dsimp only at c0 c1 c2 hp hvl
      obtain ⟨pa, pc, rfl, _, _⟩ := hp.form
      have j2 : (k : Int) < l.length := by omega
      have hk1 : k + 1 ≤ l.length := by omega
      have hq : Keeps (fun _ => False) wr (wr.alloc (.cells #[.string key, .bool gone, .slice pa val.length pc] 51)) := (Keeps.refl _ wr).alloc _
      have ho2 := ho.quiet hq
      have hp2 := hp.keep hq
      have hB := heap_alloc_new wr (.cells #[.string key, .bool gone, .slice pa val.length pc] 51)
      have ht := tab_cells (ho2.at (b := t) (o := tabObj j b down) (by simp)).1
      cases gone with
      | true =>
        obtain ⟨es, clock, hrun, hfin⟩ := ho2.mapDel key ((Keeps.refl _ _).drew)
        rw [show fdel (tdos fs (l.take k)) key = tdos fs (l.take (k + 1)) by rw [htk]; unfold tdo; rw [if_pos rfl]] at hfin
        have HR := Lib.hid (⟨k + 1, hk1, rfl, hfin⟩ : ∃ k' : Nat, k' ≤ l.length ∧ Value.int .i64 ((k + 1 : Nat) : Int) = .int .i64 (k' : Int) ∧ Own w _ (rMap w.heap.size b (tdos fs (l.take k')) :: rObj w.heap.size t (tabObj j b down) :: rs))
        have HRUN := Lib.hid hrun
        have q0 := cell_at (i := 0) hB rfl
        have q1 := cell_at (i := 1) hB rfl
        obtain ⟨t0, t1, t2, t3⟩ := ht
        clear hrun hfin ho ho2 hp hp2 hvl htk hch hq HV hk hlt hB t0 t2 t3
        go_wp2_with fail
        generalize wr.alloc (.cells #[.string key, .bool true, .slice pa val.length pc] 51) = W at q0 q1 t1 HRUN HR ⊢
        go_still_tail 6, (by kernel_rfl)
        change wpList _ _ _ _ _ (World.drew _)
        go_wp2_with (at_delete; refine wpList_delete_run rfl _ _ _ _ rfl rfl rfl HRUN.out ?_)
        go_roundw
        case rel => exact HR.out
        case measure => simp [intOf]; omega
      | false =>
        obtain ⟨v1, w1, hcl, hv1, hk1'⟩ := clone_owns (w := (wr.alloc (.cells #[.string key, .bool false, .slice pa val.length pc] 51)).drew) (hp2.keep ((Keeps.refl _ _).drew)) hvl
        obtain ⟨es, clock, hrun, hfin⟩ := ho2.mapPut key hv1 (((Keeps.refl _ _).drew).trans hk1' (fun _ _ e => e))
        rw [show fput (tdos fs (l.take k)) key val = tdos fs (l.take (k + 1)) by rw [htk]; unfold tdo; rw [if_neg (by simp)]] at hfin
        have HR := Lib.hid (⟨k + 1, hk1, rfl, hfin⟩ : ∃ k' : Nat, k' ≤ l.length ∧ Value.int .i64 ((k + 1 : Nat) : Int) = .int .i64 (k' : Int) ∧ Own w _ (rMap w.heap.size b (tdos fs (l.take k')) :: rObj w.heap.size t (tabObj j b down) :: rs))
        have HCL := Lib.hid hcl
        have hbne : wr.heap.size ≠ b := fun e => by
          obtain ⟨F, ⟨hb, _⟩, hF⟩ := ho.head
          have := (hF b hb).2
          omega
        have h2s : ∀ i v, w1.cell? ⟨wr.heap.size, i, none⟩ = some v → (setBlock w1 b (.map es clock)).cell? ⟨wr.heap.size, i, none⟩ = some v := fun i v hv => (World.cell?_of_block (heap_setBlock_ne w1 b _ hbne)).trans hv
        have ht3 := tab_cells (hfin.at (b := t) (o := tabObj j b down) (by simp)).1
        have q1 := cell_at (i := 1) hB rfl
        have hS : ∀ w2, Keeps (fun _ => False) (wr.alloc (.cells #[.string key, .bool false, .slice pa val.length pc] 51)).drew w2 → w2.cell? ⟨t, 1, none⟩ = some (.map (some b)) ∧ w2.cell? ⟨wr.heap.size, 0, none⟩ = some (.string key) ∧ w2.cell? ⟨wr.heap.size, 2, none⟩ = some (.slice pa val.length pc) := fun w2 hk2 =>
          ⟨cell_keep ht.2.1 (((Keeps.refl _ _).drew).trans hk2 (fun _ _ e => e)), cell_keep (cell_at (i := 0) hB rfl) (((Keeps.refl _ _).drew).trans hk2 (fun _ _ e => e)), cell_keep (cell_at (i := 2) hB rfl) (((Keeps.refl _ _).drew).trans hk2 (fun _ _ e => e))⟩
        have HS0 := Lib.hid (hS _ (Keeps.refl _ _))
        have HS1 := Lib.hid (hS _ hk1')
        have HS2 := Lib.hid (⟨ht3.2.1, h2s _ _ (hS _ hk1').2.1, h2s _ _ (hS _ hk1').2.2⟩ : (setBlock w1 b (.map es clock)).cell? ⟨t, 1, none⟩ = some (.map (some b)) ∧ (setBlock w1 b (.map es clock)).cell? ⟨wr.heap.size, 0, none⟩ = some (.string key) ∧ (setBlock w1 b (.map es clock)).cell? ⟨wr.heap.size, 2, none⟩ = some (.slice pa val.length pc))
        clear hcl hv1 hk1' hfin ho ho2 hp hp2 hvl htk hch hq HV hk hlt hB ht hS ht3 h2s hbne
        go_wp2_with fail
        generalize wr.alloc (.cells #[.string key, .bool false, .slice pa val.length pc] 51) = W at q1 HCL HS0 HS1 HS2 hrun HR ⊢
        go_region_held3 (fun w' => w'.cell? ⟨t, 1, none⟩ = some (.map (some b)) ∧ w'.cell? ⟨wr.heap.size, 0, none⟩ = some (.string key) ∧ w'.cell? ⟨wr.heap.size, 2, none⟩ = some (.slice pa val.length pc)) (first | exact HS0.out | exact HS1.out | exact HS2.out | go_keep) (first | (go_at_call 53; refine HCL.out.out.mono ?_; rintro e w' ⟨rfl, rfl⟩))
        all_goals
          go_wp2_with fail
          go_roundw
          case rel => exact HR.out
          case measure => simp [intOf]; omega
    · obtain rfl : k = l.length := by omega
      rw [List.take_length] at ho
      have HO := Lib.hid ho
      clear ho hlt hk HV
      go_wp2_with fail
      go_end0
      exact ⟨rfl, HO.out⟩
theorem tdo_calls {w w0 : World} {t j b : Nat} {down : Bool} {fs : FS} {rs : List (Res w.heap.size)} (h : Own w w0 (rMap w.heap.size b fs :: rObj w.heap.size t (tabObj j b down) :: rs)) {a : Option Addr} {c : Nat} {l : List TCh} (hm : rTChs w.heap.size a l ∈ rs) (hc : l.length ≤ 1099511627776) (hv : ∀ x ∈ l, x.val.length ≤ 140737488355328) :
    Calls Try.prog 47 #[.pointer (some ⟨t, 0, none⟩), .slice a l.length c] w0 (fun e w' => e = .returned (.tuple #[]) ∧ Own w w' (rMap w.heap.size b (tdos fs l) :: rObj w.heap.size t (tabObj j b down) :: rs)) :=
  tdo_callsO h (fun wr ls h => h.tchs (by simp [hm])) hc hv
end Go.Proofs.Ytaeabdghlkdkjaa
