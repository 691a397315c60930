/- A part of the proof. -/
import Derived.Test.YtlcnhpjggjgnpaaGreatDoorUlac0
import Derived.Test.YtlcnhpjggjgnpaaGreatDoorUlac2
import Derived.Test.YtlcnhpjggjgnpaaGreatDoorUlac3
import Derived.Test.YtlcnhpjggjgnpaaGreatDoorUlac6
import Derived.Lib.AppendStr
namespace Go.Proofs.YtlcnhpjggjgnpaaGreatDoor
set_option linter.unusedVariables false
set_option linter.unusedSimpArgs false
open Go.RowKit Go.MapKept
open Go.ChangeMaps (setBlock)
structure Ses where
 id : Int
 repo : ByteArray
 til : Int
 b : List UInt8
def sesObj (x : Ses) (q : Nat) : Obj := .cells #[.string x.repo, .int .i64 x.til, .int .i64 (x.b.length : Int), .pointer (some ⟨q, 0, none⟩)] 116
def uObj (d st t : Nat) (next : Int) (mp : Nat) : Obj := .cells #[.pointer (some ⟨d, 0, none⟩), .pointer (some ⟨st, 0, none⟩), .pointer (some ⟨t, 0, none⟩), .int .i64 next, .map (some mp)] 104
def rSt (B q : Nat) (L : List UInt8) : Res B := ⟨fun F w => F q ∧ StAt w q L, fun F w w' h hk => ⟨h.1, by
 obtain ⟨tail, hh, ht, hp⟩ := h.2
 exact ⟨tail, (hk q (.inl h.1)).trans hh, ht, hp⟩⟩⟩
def rPMap (B b : Nat) (ps : PS) : Res B := ⟨fun F w => F b ∧ MapPs w b ps, fun F w w' h hk => ⟨h.1, h.2.keep (hk b (.inl h.1))⟩⟩
abbrev UL := List (Ses × Nat × Nat)
def liveRes (B : Nat) : UL → List (Res B)
 | [] => []
 | x :: L => rObj B x.2.1 (sesObj x.1 x.2.2) :: rSt B x.2.2 x.1.b :: liveRes B L
def ptrs (L : UL) : PS := L.map (fun x => (x.1.id, x.2.1))
def uRes (B d u st t mp : Nat) (next : Int) (L : UL) : List (Res B) := rObj B u (uObj d st t next mp) :: rObj B st (stObj1 d) :: rPMap B mp (ptrs L) :: liveRes B L
theorem liveRes_append (B : Nat) : ∀ (L M : UL), liveRes B (L ++ M) = liveRes B L ++ liveRes B M
 | [], M => rfl
 | x :: L, M => by simp [liveRes, liveRes_append B L M]
def uget (L : UL) (id : Int) : Option (Ses × Nat × Nat) := L.find? (fun x => x.1.id = id)
theorem pget_ptrs (id : Int) : ∀ L : UL, pget (ptrs L) id = (uget L id).map (fun x => x.2.1)
 | [] => rfl
 | x :: L => by
  by_cases h : x.1.id = id
  ·simp [ptrs, pget, uget, h]
  ·have := pget_ptrs id L
   simp only [ptrs, pget, uget, List.map_cons, List.find?_cons, h, decide_false] at this ⊢
   exact this
section
variable {w wr : World} {d u st t mp : Nat} {next : Int} {L : UL} {rs : List (Res w.heap.size)}
theorem Own.pmap {ps : PS} (h : Own w wr rs) (hm : rPMap w.heap.size mp ps ∈ rs) : MapPs wr mp ps := by
 obtain ⟨F, hr, -⟩ := h.mem hm
 exact hr.2
theorem Own.stat {q : Nat} {l : List UInt8} (h : Own w wr rs) (hm : rSt w.heap.size q l ∈ rs) : StAt wr q l ∧ w.heap.size ≤ q := by
 obtain ⟨F, hr, hb⟩ := h.mem hm
 exact ⟨hr.2, (hb q hr.1).1⟩
theorem Own.newPMap (h : Own w wr rs) : Own w (wr.alloc (.map #[] 0)) (rPMap w.heap.size wr.heap.size [] :: rs) :=
 h.add ((Keeps.refl (fun _ => False) wr).alloc _) (r := rPMap _ wr.heap.size []) (G := fun b => b = wr.heap.size) ⟨rfl, #[], 0, [], heap_alloc_new wr _, stamped_empty 0, trivial, List.Perm.refl _⟩ (fun b hb => by subst hb; simp)
theorem u_cells {w : World} {u d st t : Nat} {next : Int} {mp : Nat} (h : w.heap[u]? = some (uObj d st t next mp)) :
  w.cell? ⟨u, 0, none⟩ = some (.pointer (some ⟨d, 0, none⟩)) ∧ w.cell? ⟨u, 1, none⟩ = some (.pointer (some ⟨st, 0, none⟩)) ∧ w.cell? ⟨u, 2, none⟩ = some (.pointer (some ⟨t, 0, none⟩)) ∧ w.cell? ⟨u, 3, none⟩ = some (.int .i64 next) ∧ w.cell? ⟨u, 4, none⟩ = some (.map (some mp)) :=
 ⟨cell_at h rfl, cell_at h rfl, cell_at h rfl, cell_at h rfl, cell_at h rfl⟩
theorem ses_cells {w : World} {q s : Nat} {x : Ses} (h : w.heap[s]? = some (sesObj x q)) :
  w.cell? ⟨s, 0, none⟩ = some (.string x.repo) ∧ w.cell? ⟨s, 1, none⟩ = some (.int .i64 x.til) ∧ w.cell? ⟨s, 2, none⟩ = some (.int .i64 (x.b.length : Int)) ∧ w.cell? ⟨s, 3, none⟩ = some (.pointer (some ⟨q, 0, none⟩)) :=
 ⟨cell_at h rfl, cell_at h rfl, cell_at h rfl, cell_at h rfl⟩
theorem zero_psession (w : World) : (zeroValue 112).run Tryz.prog w = .ok (.pointer none) w := by kernel_rfl
def ufindOf (L : UL) (id : Int) : Value := match uget L id with
 | some x => .tuple #[.pointer (some ⟨x.2.1, 0, none⟩), .int .i64 0]
 | none => .tuple #[.pointer none, .int .i64 6]
set_option maxRecDepth 100000 in
theorem ufind_runs (h : Own w wr rs) (hu : rObj w.heap.size u (uObj d st t next mp) ∈ rs) (hm : rPMap w.heap.size mp (ptrs L) ∈ rs) (id : Int) :
  Runs 47 #[.pointer (some ⟨u, 0, none⟩), .int .i64 id] wr (ufindOf L id) wr := by
 unfold Runs ufindOf
 obtain ⟨-, -, -, -, c4⟩ := u_cells (h.at hu).1
 have hl := (h.pmap hm).look (P := Tryz.prog) (T := 102) Tryz.underlying102 Tryz.underlying3 (zero_psession wr) id true
 rw [pget_ptrs] at hl
 cases hg : uget L id with
 | none =>
  rw [hg] at hl
  simp only [Option.map_none, Option.isSome_none, if_true] at hl
  clear h hu hm hg
  go_enter Tryz.func47, Tryz.ntmps47
  go_wp2_with fail
  go_ret2
  exact ⟨rfl, rfl⟩
 | some x =>
  rw [hg] at hl
  simp only [Option.map_some, Option.isSome_some, if_true] at hl
  clear h hu hm hg
  go_enter Tryz.func47, Tryz.ntmps47
  go_wp2_with fail
  go_ret2
  exact ⟨rfl, rfl⟩
end
end Go.Proofs.YtlcnhpjggjgnpaaGreatDoor
namespace Go.Proofs.YtlcnhpjggjgnpaaGreatDoor
set_option linter.unusedVariables false
set_option linter.unusedSimpArgs false
open Go.RowKit Go.MapKept
theorem Owns.growText {wr : World} {base : Nat} {v : Value} {l : List UInt8} (hz : base ≤ wr.heap.size) (ho : Owns wr base v l) (s : ByteArray) (hb : l.length + s.size ≤ 140737488355328) :
  ∃ v' w', (Builtin.append_ #[22, 9] 22 #[v, .string s]).run Tryz.prog wr = .ok v' w' ∧ Owns w' base v' (l ++ s.toList) ∧ Keeps (fun b => v.ownBlock = some b) wr w' := by
 obtain ⟨i0, hi, hz0, hz1, hz2⟩ := info_parts info_u8
 obtain ⟨v', w', hrun, ho2, hg, _⟩ := Lib.run_append_own_string (P := Tryz.prog) wr base 22 9 22 5 i0 Tryz.underlying22 Tryz.underlying9 hi hz0 hz1 hz2 v l.length (l.map u8v) ho s (by unfold maxLen; omega) (by omega) hz
 refine ⟨v', w', hrun, ?_, Keeps.of_grown hg⟩
 have e1 : Lib.strCells s = s.toList.map u8v := by unfold Lib.strCells; rw [ByteArray.toList_eq]; rfl
 have e2 : l.length + s.size = (l ++ s.toList).length := by rw [List.length_append, ByteArray.toList_eq, Array.length_toList]; rfl
 rw [e1, ← List.map_append, e2] at ho2
 exact ho2
def laidOf (repo : ByteArray) (x : Nat) (e : List UInt8) : List UInt8 := [UInt8.ofNat e.length] ++ e ++ putOf x 8 ++ repo.toList
theorem laidOf_length (repo : ByteArray) (x : Nat) (e : List UInt8) : (laidOf repo x e).length = 9 + e.length + repo.size := by
 have : repo.toList.length = repo.size := by rw [ByteArray.toList_eq, Array.length_toList]; rfl
 unfold laidOf
 simp only [List.length_append, List.length_cons, List.length_nil, putOf_length, this]; omega
set_option maxRecDepth 100000 in
set_option maxHeartbeats 1000000 in
theorem laid_calls {w : World} (repo : ByteArray) (til sz : Int) (x : Nat) (hx : IntKind.u64.wrap til = (x : Int)) (hx2 : x < 18446744073709551616) {ev : Value} {e : List UInt8} (he : Reads w ev e) (hel : e.length ≤ 32) (hr : repo.size ≤ 1048576) :
  Calls Tryz.prog 43 #[.agg #[.string repo, .int .i64 til, .int .i64 sz], ev] w (OPost w (laidOf repo x e)) := by
 obtain ⟨bx, hbx⟩ : ∃ o, o = Obj.cells #[.string repo, .int .i64 til, .int .i64 sz] 43 := ⟨_, rfl⟩
 have hkA : Keeps (fun _ => False) w (w.alloc bx) := (Keeps.refl _ w).alloc _
 have hrA := heap_alloc_new w bx
 have ho0 : Owns ((w.alloc bx).alloc (.cells #[u8v (UInt8.ofNat e.length)] 5)) (w.heap.size + 1) (.slice (some ⟨w.heap.size + 1, 0, none⟩) 1 1) [UInt8.ofNat e.length] := by
  have := owns_lit1 (w.alloc bx) (UInt8.ofNat e.length)
  rw [World.size_alloc] at this
  exact this
 have hkB : Keeps (fun _ => False) (w.alloc bx) ((w.alloc bx).alloc (.cells #[u8v (UInt8.ofNat e.length)] 5)) := (Keeps.refl _ _).alloc _
 have hc8 : IntKind.u8.wrap (e.length : Int) = ((UInt8.ofNat e.length).toNat : Int) := by
  have h : (UInt8.ofNat e.length).toNat = e.length := by simp; omega
  rw [h]
  simp [IntKind.wrap, IntKind.bits, IntKind.signed]; omega
 obtain ⟨v3, w3, hrun3, ho3, hk3⟩ := Owns.grow (by simp only [World.size_alloc]; omega) ho0 ((he.keep hkA).keep hkB) (by simp only [List.length_cons, List.length_nil]; omega)
 have hk03 : Keeps (fun _ => False) (w.alloc bx) w3 := hkB.trans hk3 (fun b hb e => by have := owns_lt ho0 b e; rw [World.size_alloc] at hb; omega)
 have hb3 := hk03.at hrA (fun e => e)
 have hz3 : w.heap.size + 1 ≤ w3.heap.size := by have := hk03.size; rw [World.size_alloc] at this; exact this
 have hp := put_calls w3 x 8 hx2 (by omega)
 obtain ⟨a, c, rfl, -, -⟩ := he.form
 obtain ⟨a3, c3, rfl, -, -⟩ := ho3.bytes.form
 have HB3 := Lib.hid hb3
 have HK3 := Lib.hid (hkA.trans hk03 (fun _ _ e => e))
 have HO3 := Lib.hid ho3
 have HZ3 := Lib.hid hz3
 have HP := Lib.hid hp
 have HRUN3 := Lib.hid hrun3
 have HEL := Lib.hid hel
 have HRE := Lib.hid hr
 have cb1 := cell_at (i := 1) (hbx ▸ hb3) rfl
 simp only [List.getElem_toArray, List.getElem_cons_succ, List.getElem_cons_zero] at cb1
 have HL := Lib.hid (show laidOf repo x e = [UInt8.ofNat e.length] ++ e ++ putOf x 8 ++ repo.toList from rfl)
 have cb0 := cell_at (i := 0) (hbx ▸ hb3) rfl
 simp only [List.getElem_toArray, List.getElem_cons_succ, List.getElem_cons_zero] at cb0
 have HN3 := Lib.hid (show ∀ c : UInt8, ([c] ++ e).length ≤ 33 from fun c => by simp only [List.length_append, List.length_cons, List.length_nil]; omega)
 generalize ([UInt8.ofNat e.length] ++ e).length = n3 at HRUN3 HO3
 generalize UInt8.ofNat e.length = c0 at *
 generalize e.length = el at *
 clear he hkA hrA ho0 hkB hk3 hk03 hrun3 ho3 hp hz3 hb3 hx2 hel hr
 subst hbx
 go_enter Tryz.func43, Tryz.ntmps43
 go_wp2_with (at_builtin; refine wpList_append_run rfl _ _ _ _ rfl rfl rfl HRUN3.out ?_)
 refine HP.out.mono ?_
 rintro e' w4 ⟨v4, rfl, ho4, hk4⟩
 have hb4 := hk4.at HB3.out (fun e => e)
 obtain ⟨v5, w5, hrun5, ho5, hk5⟩ := Owns.grow (Nat.le_trans HZ3.out hk4.size) (HO3.out.keep hk4) ho4.bytes.reads (by have := HN3.out c0; have := HEL.out; rw [putOf_length]; omega)
 have hkb : ∀ b, b < w.heap.size + 1 → (Value.slice a3 n3 c3).ownBlock = some b → False := fun b hb e => by have := owns_lt HO3.out b e; omega
 have hb5 : w5.heap[w.heap.size]? = _ := hk5.at hb4 (fun e => hkb _ (Nat.lt_succ_self _) e)
 have hz5 : w.heap.size + 1 ≤ w5.heap.size := Nat.le_trans (Nat.le_trans HZ3.out hk4.size) hk5.size
 obtain ⟨a4, c4, rfl, -, -⟩ := ho4.bytes.form
 obtain ⟨v6, w6, hrun6, ho6, hk6⟩ := Owns.growText hz5 ho5 repo (by have := HN3.out c0; have := HEL.out; have := HRE.out; rw [List.length_append, putOf_length]; omega)
 have hk46 : Keeps (fun _ => False) w w6 := ((HK3.out.trans hk4 (fun _ _ e => e)).trans hk5 (fun b hb e => hkb b (Nat.lt_succ_of_lt hb) e)).trans hk6 (fun b hb e => by have := owns_lt ho5 b e; omega)
 obtain ⟨a5, c5, rfl, -, -⟩ := ho5.bytes.form
 have cc0 := cell_at (i := 0) hb5 rfl
 simp only [List.getElem_toArray, List.getElem_cons_succ, List.getElem_cons_zero] at cc0
 have HRUN5 := Lib.hid hrun5
 have HRUN6 := Lib.hid hrun6
 have HO6 := Lib.hid (ho6.base (Nat.le_succ _))
 have HK6 := Lib.hid hk46
 rw [← HL.out] at HO6
 generalize (putOf x 8).length = n8 at HRUN5 ⊢
 generalize ([c0] ++ e ++ putOf x 8).length = n9 at HRUN5 HRUN6
 clear ho4 hk4 hb4 hrun5 ho5 hk5 hkb hb5 hz5 hrun6 ho6 hk6 hk46 HP HB3 HO3 HRUN3 cb1 cb0
 go_wp2_with (at_builtin; first | (refine wpList_append_run rfl _ _ _ _ rfl rfl rfl HRUN5.out ?_) | (refine wpList_append_run rfl _ _ _ _ rfl rfl rfl HRUN6.out ?_))
 go_ret
 exact ⟨v6, rfl, HO6.out, HK6.out⟩
end Go.Proofs.YtlcnhpjggjgnpaaGreatDoor
