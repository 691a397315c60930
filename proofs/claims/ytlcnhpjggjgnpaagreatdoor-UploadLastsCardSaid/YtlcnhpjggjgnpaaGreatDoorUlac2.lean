/- A part of the proof. -/
import Derived.Test.YtlcnhpjggjgnpaaGreatDoorUlaa0
namespace Go.Proofs.YtlcnhpjggjgnpaaGreatDoor
set_option linter.unusedVariables false
open Go.RowKit Go.MapKept
open Go.ChangeMaps (setBlock)
abbrev PS := List (Int × Nat)
def pget (ps : PS) (k : Int) : Option Nat := (ps.find? (fun p => p.1 = k)).map (·.2)
def pdel (ps : PS) (k : Int) : PS := ps.filter (fun p => p.1 ≠ k)
def PNodup (ps : PS) : Prop := (ps.map (·.1)).Nodup
theorem pget_mem : ∀ {ps : PS} (_ : PNodup ps) {n : Int} {x : Nat} (_ : (n, x) ∈ ps), pget ps n = some x
 | p :: ps, h, n, x, hm => by
  have h' : p.1 ∉ ps.map (·.1) ∧ (ps.map (·.1)).Nodup := List.nodup_cons.1 h
  rcases List.mem_cons.1 hm with e | hm
  ·subst e; simp [pget]
  ·have hne : p.1 ≠ n := fun e => h'.1 (List.mem_map.2 ⟨(n, x), hm, e.symm⟩)
   have := pget_mem (ps := ps) h'.2 hm
   simpa [pget, List.find?_cons, hne] using this
theorem pget_none {ps : PS} {n : Int} (h : n ∉ ps.map (·.1)) : pget ps n = none := by
 unfold pget
 rw [List.find?_eq_none.2]
 ·rfl
 ·intro p hp; simp; exact fun e => h (List.mem_map.2 ⟨p, hp, e⟩)
theorem pdel_absent {ps : PS} {n : Int} (h : n ∉ ps.map (·.1)) : pdel ps n = ps := by
 unfold pdel
 rw [List.filter_eq_self]
 intro q hq
 simp
 exact fun e => h (List.mem_map.2 ⟨q, hq, e⟩)
theorem pperm_erase {l ps : PS} (hp : l.Perm ps) (hn : PNodup ps) {j : Nat} {p : Int × Nat} (hj : l[j]? = some p) : (l.eraseIdx j).Perm (pdel ps p.1) := by
 have hnl : PNodup l := (hp.map (fun q : Int × Nat => q.1)).nodup_iff.2 hn
 have e : l.eraseIdx j = l.filter (fun q => q.1 ≠ p.1) := by
  clear hp hn
  induction l generalizing j with
  | nil => simp at hj
  | cons a l ih =>
   have h' : a.1 ∉ l.map (·.1) ∧ (l.map (·.1)).Nodup := List.nodup_cons.1 hnl
   cases j with
   | zero =>
    simp at hj; subst hj
    simp
    symm
    rw [List.filter_eq_self]
    intro q hq
    simp
    exact fun e => h'.1 (List.mem_map.2 ⟨q, hq, e⟩)
   | succ j =>
    have hj' : l[j]? = some p := by simpa using hj
    have hne : a.1 ≠ p.1 := fun e => h'.1 (List.mem_map.2 ⟨p, List.mem_iff_getElem?.2 ⟨j, hj'⟩, e.symm⟩)
    simp [hne, ih hj' h'.2]
 rw [e]
 exact hp.filter _
def PEntry (e : MapEntry) (p : Int × Nat) : Prop := e.key = .int .i64 p.1 ∧ e.val = .pointer (some ⟨p.2, 0, none⟩)
def MapPs (w : World) (b : Nat) (ps : PS) : Prop :=
 ∃ (es : Array MapEntry) (clock : Nat) (l : PS), w.heap[b]? = some (.map es clock) ∧ Stamped es clock ∧ Rel2 PEntry es.toList l ∧ l.Perm ps
theorem MapPs.lt {w : World} {b : Nat} {ps : PS} (h : MapPs w b ps) : b < w.heap.size := by
 obtain ⟨es, clock, l, hb, _⟩ := h
 exact lt_of_heap hb
theorem MapPs.keep {w w' : World} {b : Nat} {ps : PS} (h : MapPs w b ps) (hb' : w'.heap[b]? = w.heap[b]?) : MapPs w' b ps := by
 obtain ⟨es, clock, l, hb, hs, hr, hp⟩ := h
 exact ⟨es, clock, l, hb'.trans hb, hs, hr, hp⟩
theorem prel_keys : ∀ {es : List MapEntry} {l : PS}, Rel2 PEntry es l → es.map (·.key) = l.map (fun p => Value.int .i64 p.1)
 | [], [], _ => rfl
 | e :: es, p :: l, h => by simp [h.1.1, prel_keys h.2]
 | [], _ :: _, h => h.elim
 | _ :: _, [], h => h.elim
theorem MapPs.nodup {w : World} {b : Nat} {ps : PS} (h : MapPs w b ps) : PNodup ps := by
 obtain ⟨es, clock, l, hb, hs, hr, hp⟩ := h
 have h1 : (l.map (fun p => Value.int .i64 p.1)).Nodup := by rw [← prel_keys hr]; exact hs.2.2
 have h2 : (l.map (·.1)).Nodup := nodup_of_map (Value.int .i64) (by rw [List.map_map]; exact h1)
 exact (hp.map (·.1)).nodup_iff.1 h2
theorem pisKeys {es : List MapEntry} {l : PS} (hr : Rel2 PEntry es l) : ∀ x ∈ es, IsKey (.int .i64) x.key := by
 intro x hx
 obtain ⟨i, hi⟩ := List.mem_iff_getElem?.1 hx
 obtain ⟨p, _, hp⟩ := hr.get hi
 rw [hp.1]; rfl
section
variable {P : Program} {T K E : TypeId} {w : World} {b : Nat} {ps : PS}
theorem MapPs.look (h : MapPs w b ps) (hT : P.underlying T = some (.map K E)) (hK : P.underlying K = some (.int .i64)) (hz : (zeroValue E).run P w = .ok (.pointer none) w) (k : Int) (c : Bool) :
  (Instr.lookup T (.map (some b)) (.int .i64 k) c).run P w = .ok (if c then .tuple #[.pointer ((pget ps k).map (fun q => ⟨q, 0, none⟩)), .bool (pget ps k).isSome] else .pointer ((pget ps k).map (fun q => ⟨q, 0, none⟩))) w := by
 have hnd := h.nodup
 obtain ⟨es, clock, l, hb, hs, hr, hp⟩ := h
 rcases findNow_spec (d := .int .i64) (k := .int .i64 k) rfl es.toList 0 (pisKeys hr) with ⟨h1, h2⟩ | ⟨j, e, h1, h2, h3⟩
 ·have hn : pget ps k = none := by
   apply pget_none
   intro hm
   obtain ⟨p, hp1, hp2⟩ := List.mem_map.1 hm
   obtain ⟨i, hi⟩ := List.mem_iff_getElem?.1 (hp.mem_iff.2 hp1)
   obtain ⟨e, he, hep⟩ := hr.get' hi
   exact h2 e (List.mem_iff_getElem?.2 ⟨i, he⟩) (by rw [hep.1, hp2])
  simp only [Instr.lookup, Sem.run_bind, run_underlying hT, Result.andThen, MapKept.run_getObj_map hb]
  simp only [Sem.run_pure, run_checkKey hK (k := .int .i64 k) rfl, run_findKey hK h1, Sem.run_bind, hz, Result.andThen, hn]
  cases c <;> simp
 ·obtain ⟨p, hpj, hpe⟩ := hr.get h2
  have hps : p.1 = k := by have := hpe.1.symm.trans h3; simpa using this
  have hg : pget ps k = some p.2 := pget_mem hnd (by rw [← hps]; exact hp.mem_iff.1 (List.mem_iff_getElem?.2 ⟨j, hpj⟩))
  simp only [Instr.lookup, Sem.run_bind, run_underlying hT, Result.andThen, MapKept.run_getObj_map hb]
  simp only [Sem.run_pure, run_checkKey hK (k := .int .i64 k) rfl, run_findKey hK h1, Sem.run_bind, Result.andThen, hg, hpe.2]
  cases c <;> simp
theorem MapPs.insert (h : MapPs w b ps) (hT : P.underlying T = some (.map K E)) (hK : P.underlying K = some (.int .i64)) {k : Int} (hk : pget ps k = none) (q : Nat) :
  ∃ es clock, (Instr.mapUpdate T (.map (some b)) (.int .i64 k) (.pointer (some ⟨q, 0, none⟩))).run P w = .ok () (setBlock w b (.map es clock)) ∧ MapPs (setBlock w b (.map es clock)) b ((k, q) :: ps) := by
 have hnd := h.nodup
 obtain ⟨es, clock, l, hb, hs, hr, hp⟩ := h
 rcases findNow_spec (d := .int .i64) (k := .int .i64 k) rfl es.toList 0 (pisKeys hr) with ⟨h1, h2⟩ | ⟨j, e, h1, h2, h3⟩
 ·refine ⟨es.push { key := .int .i64 k, val := .pointer (some ⟨q, 0, none⟩), born := clock }, clock + 1, ?_, _, _, l ++ [(k, q)], heap_setBlock_eq hb _, stamped_push hs h2, ?_, ?_⟩
  ·simp only [Instr.mapUpdate, Sem.run_bind, run_underlying hT, Result.andThen, MapKept.run_getObj_map hb, run_checkKey hK (k := .int .i64 k) rfl, run_findKey hK h1, run_setObj_map _ hb]
   rfl
  ·rw [Array.toList_push]
   exact hr.append ⟨⟨rfl, rfl⟩, trivial⟩
  ·exact List.perm_append_comm.trans (List.Perm.cons _ hp)
 ·obtain ⟨p, hpj, hpe⟩ := hr.get h2
  have hps : p.1 = k := by have := hpe.1.symm.trans h3; simpa using this
  rw [pget_mem hnd (show (k, p.2) ∈ ps by rw [← hps]; exact hp.mem_iff.1 (List.mem_iff_getElem?.2 ⟨j, hpj⟩))] at hk
  cases hk
theorem MapPs.delete (h : MapPs w b ps) (hT : P.underlying T = some (.map K E)) (hK : P.underlying K = some (.int .i64)) (k : Int) (K' : TypeId) (ty : TypeId) :
  ∃ es clock, (Builtin.delete_ #[T, K'] ty #[.map (some b), .int .i64 k]).run P w = .ok (.tuple #[]) (setBlock w b (.map es clock)) ∧ MapPs (setBlock w b (.map es clock)) b (pdel ps k) := by
 have hnd := h.nodup
 obtain ⟨es, clock, l, hb, hs, hr, hp⟩ := h
 rcases findNow_spec (d := .int .i64) (k := .int .i64 k) rfl es.toList 0 (pisKeys hr) with ⟨h1, h2⟩ | ⟨j, e, h1, h2, h3⟩
 ·have hn : k ∉ ps.map (·.1) := by
   intro hm
   obtain ⟨p, hp1, hp2⟩ := List.mem_map.1 hm
   obtain ⟨i, hi⟩ := List.mem_iff_getElem?.1 (hp.mem_iff.2 hp1)
   obtain ⟨e, he, hep⟩ := hr.get' hi
   exact h2 e (List.mem_iff_getElem?.2 ⟨i, he⟩) (by rw [hep.1, hp2])
  refine ⟨es, clock, ?_, _, _, l, heap_setBlock_eq hb _, hs, hr, by rw [pdel_absent hn]; exact hp⟩
  simp [Builtin.delete_, Sem.run_bind, run_underlying hT, Result.andThen, MapKept.run_getObj_map hb, run_checkKey hK (k := .int .i64 k) rfl, run_findKey hK h1, run_setObj_map _ hb, ChangeMaps.setBlock]
 ·obtain ⟨p, hpj, hpe⟩ := hr.get h2
  have hps : p.1 = k := by have := hpe.1.symm.trans h3; simpa using this
  refine ⟨es.eraseIdxIfInBounds j, clock, ?_, _, _, l.eraseIdx j, heap_setBlock_eq hb _, stamped_erase hs j, ?_, ?_⟩
  ·simp [Builtin.delete_, Sem.run_bind, run_underlying hT, Result.andThen, MapKept.run_getObj_map hb, run_checkKey hK (k := .int .i64 k) rfl, run_findKey hK h1, run_setObj_map _ hb, ChangeMaps.setBlock]
  ·rw [show (es.eraseIdxIfInBounds j).toList = es.toList.eraseIdx j by simp]
   exact hr.eraseIdx j
  ·rw [← hps]; exact pperm_erase hp hnd hpj
end
end Go.Proofs.YtlcnhpjggjgnpaaGreatDoor
