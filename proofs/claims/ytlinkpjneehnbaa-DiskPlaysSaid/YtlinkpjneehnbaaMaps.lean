/- Maps of texts to bytes: what a block holds, and the runs of the map operations on it. -/
import Derived.Test.YtlinkpjneehnbaaBase
namespace Go.Proofs.Ytlinkpjneehnbaa
open Go.RowKit Go.MapKept
open Go.ChangeMaps (setBlock)

def EntryOk (F : Nat → Prop) (w : World) (e : MapEntry) (p : ByteArray × List UInt8) : Prop := e.key = .string p.1 ∧ Bytes F w e.val p.2

/-- Block b is a map that holds just these files, their bytes in blocks of F. -/
def MapFs (F : Nat → Prop) (w : World) (b : Nat) (fs : FS) : Prop :=
  ∃ (es : Array MapEntry) (clock : Nat) (l : FS), w.heap[b]? = some (.map es clock) ∧ Stamped es clock ∧ Rel2 (EntryOk F w) es.toList l ∧ l.Perm fs

theorem MapFs.lt {F : Nat → Prop} {w : World} {b : Nat} {fs : FS} (h : MapFs F w b fs) : b < w.heap.size := by
  obtain ⟨es, clock, l, hb, _⟩ := h
  exact lt_of_heap hb
theorem MapFs.notU8 {F : Nat → Prop} {w : World} {b : Nat} {fs : FS} (h : MapFs F w b fs) (cs : Array Value) (t : TypeId) (fz : Nat × Nat) : w.heap[b]? ≠ some (.cells cs t fz) := by
  obtain ⟨es, clock, l, hb, _⟩ := h
  rw [hb]; simp
theorem MapFs.keep {F G : Nat → Prop} {w w' : World} {b : Nat} {fs : FS} (h : MapFs F w b fs) (hb' : w'.heap[b]? = w.heap[b]?) (hk : KeepU8 F w w') (hFG : ∀ b, F b → b < w.heap.size → G b) : MapFs G w' b fs := by
  obtain ⟨es, clock, l, hb, hs, hr, hp⟩ := h
  exact ⟨es, clock, l, hb'.trans hb, hs, hr.mono (fun e p hep => ⟨hep.1, hep.2.keep hk hFG⟩), hp⟩

theorem rel_keys {F : Nat → Prop} {w : World} : ∀ {es : List MapEntry} {l : FS}, Rel2 (EntryOk F w) es l → es.map (·.key) = l.map (fun p => Value.string p.1)
  | [], [], _ => rfl
  | e :: es, p :: l, h => by simp [h.1.1, rel_keys h.2]
  | [], _ :: _, h => h.elim
  | _ :: _, [], h => h.elim

theorem nodup_of_map {α β : Type} (f : α → β) : ∀ {l : List α}, (l.map f).Nodup → l.Nodup
  | [], _ => List.nodup_nil
  | a :: l, h => by
    rw [List.map_cons, List.nodup_cons] at h
    exact List.nodup_cons.2 ⟨fun hm => h.1 (List.mem_map_of_mem hm), nodup_of_map f h.2⟩

theorem MapFs.nodup {F : Nat → Prop} {w : World} {b : Nat} {fs : FS} (h : MapFs F w b fs) : FNodup fs := by
  obtain ⟨es, clock, l, hb, hs, hr, hp⟩ := h
  have h1 : (l.map (fun p => Value.string p.1)).Nodup := by rw [← rel_keys hr]; exact hs.2.2
  have h2 : (l.map (·.1)).Nodup := nodup_of_map Value.string (by rw [List.map_map]; exact h1)
  exact (hp.map (·.1)).nodup_iff.1 h2

theorem fget_mem : ∀ {fs : FS} (_ : FNodup fs) {n : ByteArray} {x : List UInt8} (_ : (n, x) ∈ fs), fget fs n = some x
  | p :: fs, h, n, x, hm => by
    have h' : p.1 ∉ fs.map (·.1) ∧ (fs.map (·.1)).Nodup := List.nodup_cons.1 h
    rcases List.mem_cons.1 hm with e | hm
    · subst e; simp [fget]
    · have hne : p.1 ≠ n := fun e => h'.1 (List.mem_map.2 ⟨(n, x), hm, e.symm⟩)
      have := fget_mem (fs := fs) h'.2 hm
      simpa [fget, List.find?_cons, hne] using this
theorem fget_none {fs : FS} {n : ByteArray} (h : n ∉ fs.map (·.1)) : fget fs n = none := by
  unfold fget
  rw [List.find?_eq_none.2]
  · rfl
  · intro p hp; simp; exact fun e => h (List.mem_map.2 ⟨p, hp, e⟩)
theorem mem_of_fget {fs : FS} {n : ByteArray} {x : List UInt8} (h : fget fs n = some x) : (n, x) ∈ fs := by
  unfold fget at h
  obtain ⟨p, hp, rfl⟩ := Option.map_eq_some_iff.1 h
  have h1 := List.find?_some hp
  have h2 := List.mem_of_find?_eq_some hp
  simp at h1
  subst h1; exact h2

theorem isKeys {F : Nat → Prop} {w : World} {es : List MapEntry} {l : FS} (hr : Rel2 (EntryOk F w) es l) : ∀ x ∈ es, IsKey .string x.key := by
  intro x hx
  obtain ⟨i, hi⟩ := List.mem_iff_getElem?.1 hx
  obtain ⟨p, _, hp⟩ := hr.get hi
  rw [hp.1]; trivial

section
variable {P : Program} {T K E : TypeId} {F : Nat → Prop} {w : World} {b : Nat} {fs : FS}

/-- 'm[s]', with ok or without. -/
theorem MapFs.look (h : MapFs F w b fs) (hT : P.underlying T = some (.map K E)) (hK : P.underlying K = some .string) (hz : (zeroValue E).run P w = .ok (.slice none 0 0) w) (s : ByteArray) :
    ∃ v, Bytes F w v ((fget fs s).getD []) ∧ (fget fs s = none → v = .slice none 0 0) ∧
      ∀ c, (Instr.lookup T (.map (some b)) (.string s) c).run P w = .ok (if c then .tuple #[v, .bool (fget fs s).isSome] else v) w := by
  have hnd := h.nodup
  obtain ⟨es, clock, l, hb, hs, hr, hp⟩ := h
  rcases findNow_spec (d := .string) (k := .string s) trivial es.toList 0 (isKeys hr) with ⟨h1, h2⟩ | ⟨j, e, h1, h2, h3⟩
  · have hn : fget fs s = none := by
      apply fget_none
      intro hm
      obtain ⟨p, hp1, hp2⟩ := List.mem_map.1 hm
      obtain ⟨i, hi⟩ := List.mem_iff_getElem?.1 (hp.mem_iff.2 hp1)
      obtain ⟨e, he, hep⟩ := hr.get' hi
      exact h2 e (List.mem_iff_getElem?.2 ⟨i, he⟩) (by rw [hep.1, hp2])
    refine ⟨.slice none 0 0, by rw [hn]; exact Bytes.nil _ _, fun _ => rfl, fun c => ?_⟩
    simp only [Instr.lookup, Sem.run_bind, run_underlying hT, Result.andThen, MapKept.run_getObj_map hb]
    simp only [Sem.run_pure, run_checkKey hK (k := .string s) trivial, run_findKey hK h1, Sem.run_bind, hz, Result.andThen, hn]
    cases c <;> simp
  · obtain ⟨p, hpj, hpe⟩ := hr.get h2
    have hps : p.1 = s := by have := hpe.1.symm.trans h3; simpa using this
    have hg : fget fs s = some p.2 := fget_mem hnd (by rw [← hps]; exact hp.mem_iff.1 (List.mem_iff_getElem?.2 ⟨j, hpj⟩))
    refine ⟨e.val, by rw [hg]; exact hpe.2, (fun he => by rw [hg] at he; cases he), fun c => ?_⟩
    simp only [Instr.lookup, Sem.run_bind, run_underlying hT, Result.andThen, MapKept.run_getObj_map hb]
    simp only [Sem.run_pure, run_checkKey hK (k := .string s) trivial, run_findKey hK h1, Sem.run_bind, Result.andThen, hg]
    cases c <;> simp

theorem perm_erase {l fs : FS} (hp : l.Perm fs) (hn : FNodup fs) {j : Nat} {p : ByteArray × List UInt8} (hj : l[j]? = some p) : (l.eraseIdx j).Perm (fdel fs p.1) := by
  have hnl : FNodup l := (hp.map (fun q : ByteArray × List UInt8 => q.1)).nodup_iff.2 hn
  have e : l.eraseIdx j = l.filter (fun q => q.1 ≠ p.1) := by
    clear hp hn
    induction l generalizing j with
    | nil => simp at hj
    | cons a l ih =>
      have h' : a.1 ∉ l.map (·.1) ∧ (l.map (·.1)).Nodup := List.nodup_cons.1 hnl
      cases j with
      | zero =>
        simp at hj; subst hj
        simp
        symm
        rw [List.filter_eq_self]
        intro q hq
        simp
        exact fun e => h'.1 (List.mem_map.2 ⟨q, hq, e⟩)
      | succ j =>
        have hj' : l[j]? = some p := by simpa using hj
        have hne : a.1 ≠ p.1 := fun e => h'.1 (List.mem_map.2 ⟨p, List.mem_iff_getElem?.2 ⟨j, hj'⟩, e.symm⟩)
        simp [hne, ih hj' h'.2]
  rw [e]
  exact hp.filter _

theorem fdel_absent {fs : FS} {n : ByteArray} (h : n ∉ fs.map (·.1)) : fdel fs n = fs := by
  unfold fdel
  rw [List.filter_eq_self]
  intro q hq
  simp
  exact fun e => h (List.mem_map.2 ⟨q, hq, e⟩)

theorem list_modify_perm {α : Type} (f : α → α) : ∀ {l : List α} {j : Nat} {p : α}, l[j]? = some p → (l.modify j f).Perm (f p :: l.eraseIdx j)
  | a :: l, 0, p, h => by simp at h; subst h; simp
  | a :: l, j + 1, p, h => by
    have := list_modify_perm f (l := l) (j := j) (p := p) (by simpa using h)
    simp only [List.modify_succ_cons, List.eraseIdx_cons_succ]
    exact (this.cons a).trans (List.Perm.swap _ _ _)

/-- 'm[s] = v'. -/
theorem MapFs.update (h : MapFs F w b fs) (hT : P.underlying T = some (.map K E)) (hK : P.underlying K = some .string) (s : ByteArray) {v : Value} {x : List UInt8} (hv : Bytes F w v x) :
    ∃ es clock, (Instr.mapUpdate T (.map (some b)) (.string s) v).run P w = .ok () (setBlock w b (.map es clock)) ∧ MapFs F (setBlock w b (.map es clock)) b (fput fs s x) := by
  have hnd := h.nodup
  have hnu := h.notU8
  obtain ⟨es, clock, l, hb, hs, hr, hp⟩ := h
  have hku : ∀ o, KeepU8 F w (setBlock w b o) := fun o => (KeepU8.refl F w).setBlock (fun cs fz => hnu cs 5 fz) o
  rcases findNow_spec (d := .string) (k := .string s) trivial es.toList 0 (isKeys hr) with ⟨h1, h2⟩ | ⟨j, e, h1, h2, h3⟩
  · have hn : s ∉ fs.map (·.1) := by
      intro hm
      obtain ⟨p, hp1, hp2⟩ := List.mem_map.1 hm
      obtain ⟨i, hi⟩ := List.mem_iff_getElem?.1 (hp.mem_iff.2 hp1)
      obtain ⟨e, he, hep⟩ := hr.get' hi
      exact h2 e (List.mem_iff_getElem?.2 ⟨i, he⟩) (by rw [hep.1, hp2])
    refine ⟨es.push { key := .string s, val := v, born := clock }, clock + 1, ?_, _, _, l ++ [(s, x)], heap_setBlock_eq hb _, stamped_push hs h2, ?_, ?_⟩
    · simp only [Instr.mapUpdate, Sem.run_bind, run_underlying hT, Result.andThen, MapKept.run_getObj_map hb, run_checkKey hK (k := .string s) trivial, run_findKey hK h1, run_setObj_map _ hb]
      rfl
    · rw [Array.toList_push]
      exact (hr.mono (fun e p hep => ⟨hep.1, hep.2.keep (hku _) (fun _ h _ => h)⟩)).append ⟨⟨rfl, hv.keep (hku _) (fun _ h _ => h)⟩, trivial⟩
    · unfold fput
      rw [fdel_absent hn]
      exact (List.perm_append_comm.trans (List.Perm.cons _ hp)).trans (fins_perm _ _).symm
  · obtain ⟨p, hpj, hpe⟩ := hr.get h2
    have hps : p.1 = s := by have := hpe.1.symm.trans h3; simpa using this
    have he : es[j]? = some e := by simpa using h2
    refine ⟨es.modify j (fun e => { e with key := .string s, val := v }), clock, ?_, _, _, l.modify j (fun _ => (s, x)), heap_setBlock_eq hb _, stamped_modify hs j _ (fun _ _ => rfl) (fun e' _ he' => ?_), ?_, ?_⟩
    · simp only [Instr.mapUpdate, Sem.run_bind, run_underlying hT, Result.andThen, MapKept.run_getObj_map hb, run_checkKey hK (k := .string s) trivial, run_findKey hK h1, Nat.zero_add, he, Option.map_some, Option.getD_some, h3,
        run_keyThatStays (d := .string) (k := .string s) trivial, run_setObj_map _ hb]
      rfl
    · rw [he] at he'; cases he'; exact h3.symm
    · rw [Array.toList_modify]
      exact (hr.mono (fun e p hep => ⟨hep.1, hep.2.keep (hku _) (fun _ h _ => h)⟩)).modify j (fun a b' _ _ _ => ⟨rfl, hv.keep (hku _) (fun _ h _ => h)⟩)
    · refine (list_modify_perm _ hpj).trans ?_
      refine (List.Perm.cons _ (perm_erase hp hnd hpj)).trans ?_
      rw [hps]
      exact (fins_perm _ _).symm

/-- 'delete(m, s)'. -/
theorem MapFs.delete (h : MapFs F w b fs) (hT : P.underlying T = some (.map K E)) (hK : P.underlying K = some .string) (s : ByteArray) (K' : TypeId) (ty : TypeId) :
    ∃ es clock, (Builtin.delete_ #[T, K'] ty #[.map (some b), .string s]).run P w = .ok (.tuple #[]) (setBlock w b (.map es clock)) ∧ MapFs F (setBlock w b (.map es clock)) b (fdel fs s) := by
  have hnd := h.nodup
  have hnu := h.notU8
  obtain ⟨es, clock, l, hb, hs, hr, hp⟩ := h
  have hku : ∀ o, KeepU8 F w (setBlock w b o) := fun o => (KeepU8.refl F w).setBlock (fun cs fz => hnu cs 5 fz) o
  rcases findNow_spec (d := .string) (k := .string s) trivial es.toList 0 (isKeys hr) with ⟨h1, h2⟩ | ⟨j, e, h1, h2, h3⟩
  · have hn : s ∉ fs.map (·.1) := by
      intro hm
      obtain ⟨p, hp1, hp2⟩ := List.mem_map.1 hm
      obtain ⟨i, hi⟩ := List.mem_iff_getElem?.1 (hp.mem_iff.2 hp1)
      obtain ⟨e, he, hep⟩ := hr.get' hi
      exact h2 e (List.mem_iff_getElem?.2 ⟨i, he⟩) (by rw [hep.1, hp2])
    refine ⟨es, clock, ?_, _, _, l, heap_setBlock_eq hb _, hs, hr.mono (fun e p hep => ⟨hep.1, hep.2.keep (hku _) (fun _ h _ => h)⟩), by rw [fdel_absent hn]; exact hp⟩
    simp [Builtin.delete_, Sem.run_bind, run_underlying hT, Result.andThen, MapKept.run_getObj_map hb, run_checkKey hK (k := .string s) trivial, run_findKey hK h1, run_setObj_map _ hb, ChangeMaps.setBlock]
  · obtain ⟨p, hpj, hpe⟩ := hr.get h2
    have hps : p.1 = s := by have := hpe.1.symm.trans h3; simpa using this
    refine ⟨es.eraseIdxIfInBounds j, clock, ?_, _, _, l.eraseIdx j, heap_setBlock_eq hb _, stamped_erase hs j, ?_, ?_⟩
    · simp [Builtin.delete_, Sem.run_bind, run_underlying hT, Result.andThen, MapKept.run_getObj_map hb, run_checkKey hK (k := .string s) trivial, run_findKey hK h1, run_setObj_map _ hb, ChangeMaps.setBlock]
    · rw [show (es.eraseIdxIfInBounds j).toList = es.toList.eraseIdx j by simp]
      exact (hr.mono (fun e p hep => ⟨hep.1, hep.2.keep (hku _) (fun _ h _ => h)⟩)).eraseIdx j
    · rw [← hps]; exact perm_erase hp hnd hpj

/-- 'len(m)'. -/
theorem MapFs.len (h : MapFs F w b fs) (hT : P.underlying T = some (.map K E)) (ty : TypeId) : (Builtin.len_ #[T] ty #[.map (some b)]).run P w = .ok (.int .i64 (fs.length : Int)) w := by
  obtain ⟨es, clock, l, hb, hs, hr, hp⟩ := h
  have e : es.size = fs.length := by rw [← hp.length_eq, ← hr.length, Array.length_toList]
  simp [Builtin.len_, Sem.run_bind, run_underlying hT, Result.andThen, MapKept.run_getObj_map hb, e, goInt]

end
end Go.Proofs.Ytlinkpjneehnbaa
