/- A part of the proof. -/
import Derived.Test.YtddnikpdmjogiaaGreatZa5
import Derived.Test.YtddnikpdmjogiaaGreatZa7
import Derived.Test.YtddnikpdmjogiaaGreatZa9
import Derived.Test.YtddnikpdmjogiaaGreatZb2
import Derived.Sort.Walk0
import Derived.Laws.BitsAllLaws
namespace Go.Proofs.YtddnikpdmjogiaaGreat
set_option linter.unusedVariables false
open Go.RowKit Go.MapKept Go.Maps
def anyV : Value → Option (DataW Unit × List MemPlace) := fun _ => some (.nil, [])
theorem insert_perm (x : Lit × DataW Unit) : ∀ l : List (Lit × DataW Unit), (DataW.insert x l).Perm (x :: l)
  | [] => List.Perm.refl _
  | y :: r => by
    unfold DataW.insert
    split
    · exact List.Perm.refl _
    · exact (List.Perm.cons y (insert_perm x r)).trans (List.Perm.swap x y r)
theorem foldr_perm (l : List (Lit × DataW Unit)) : (l.foldr DataW.insert []).Perm l := by
  induction l with
  | nil => exact List.Perm.refl _
  | cons x l ih => exact (insert_perm x _).trans (ih.cons x)
theorem key_reads {s : ByteArray} (hs : s.size ≤ maxLen) : keyOf Tryz.prog 9 (.string s) = some (.string s.data.toList) := by
  simp [keyOf, mapKey, Tryz.underlying9, hs]
theorem rel_reads {F : Nat → Prop} {w : World} : ∀ {es : List MapEntry} {l : FS}, Rel2 (EntryOk F w) es l → (∀ p ∈ l, p.1.size ≤ maxLen) → es.map (WideElems.rg Tryz.prog 9 anyV) = l.map (fun p => (Lit.string p.1.data.toList, DataW.nil)) ∧ ∀ x ∈ es, ∃ y, WideElems.rd Tryz.prog 9 anyV x = some y
  | [], [], _, _ => ⟨rfl, fun x hx => by simp at hx⟩
  | e :: es, p :: l, h, hs => by
    obtain ⟨h1, h2⟩ := rel_reads h.2 (fun q hq => hs q (List.mem_cons_of_mem _ hq))
    have hk := key_reads (hs p (List.mem_cons_self ..))
    have hr : WideElems.rd Tryz.prog 9 anyV e = some (Lit.string p.1.data.toList, DataW.nil) := by
      unfold WideElems.rd
      rw [h.1.1, hk]; rfl
    refine ⟨?_, fun x hx => ?_⟩
    · rw [List.map_cons, List.map_cons, h1]
      unfold WideElems.rg
      rw [hr]; rfl
    · rcases List.mem_cons.1 hx with rfl | hx
      · exact ⟨_, hr⟩
      · exact h2 x hx
  | [], _ :: _, h, _ => h.elim
  | _ :: _, [], h, _ => h.elim
theorem MapFs.owns {F : Nat → Prop} {w : World} {b : Nat} {fs : FS} (h : MapFs F w b fs) (hs : ∀ p ∈ fs, p.1.size ≤ maxLen) (hl : fs.length ≤ maxLen) :
    ∃ D0 : DataW Unit, w.ownsMap Tryz.prog 9 anyV b fs.length D0 ∧ Maps.size D0 = fs.length ∧ (strKeys D0).Perm (fs.map (fun p => p.1.data.toList)) := by
  obtain ⟨es, clock, l, hb, hst, hr, hp⟩ := h
  have hz : es.size = fs.length := by rw [← hp.length_eq, ← hr.length, Array.length_toList]
  obtain ⟨h1, h2⟩ := rel_reads hr (fun p hp' => hs p (hp.mem_iff.1 hp'))
  refine ⟨_, ⟨es, clock, hb, ⟨by omega, hst, h2⟩, by omega, rfl⟩, ?_, ?_⟩
  · have := (foldr_perm (es.toList.map (WideElems.rg Tryz.prog 9 anyV))).length_eq
    rw [Maps.size_eq, this, List.length_map, Array.length_toList, hz]
  · have hq := (foldr_perm (es.toList.map (WideElems.rg Tryz.prog 9 anyV))).map (fun p => strOf p.1)
    refine List.Perm.trans hq ?_
    rw [h1, List.map_map]
    exact hp.map _
theorem sorted_names {fs : FS} (hs : FSorted fs) {ss : List (List UInt8)} (hp : ss.Perm (fs.map (fun p => p.1.data.toList))) : (ss.mergeSort leB).map encStr = fs.map (fun p => Value.string p.1) := by
  have tr : ∀ a b c : List UInt8, leB a b = true → leB b c = true → leB a c = true := fun a b c h1 h2 => by simp only [leB, decide_eq_true_eq] at *; exact List.le_trans h1 h2
  have to : ∀ a b : List UInt8, (leB a b || leB b a) = true := fun a b => by simp only [leB, Bool.or_eq_true, decide_eq_true_eq]; exact List.le_total a b
  have hpw : (fs.map (fun p => p.1.data.toList)).Pairwise (fun a b => leB a b = true) := by
    rw [List.pairwise_map]
    refine List.Pairwise.imp (fun {x y} hxy => ?_) hs
    unfold blt at hxy
    rw [bytesLess_eq, decide_eq_true_eq, ByteArray.toList_eq, ByteArray.toList_eq] at hxy
    simp only [leB, decide_eq_true_eq]
    exact List.le_of_lt hxy
  have he : ss.mergeSort leB = fs.map (fun p => p.1.data.toList) := by
    refine List.Perm.eq_of_pairwise (le := fun a b => leB a b = true) (fun a b _ _ h1 h2 => ?_) (List.pairwise_mergeSort tr to ss) hpw ((List.mergeSort_perm ss leB).trans hp)
    simp only [leB, decide_eq_true_eq] at h1 h2
    exact List.le_antisymm h1 h2
  rw [he, List.map_map]
  rfl
theorem row_base1 {w : World} {base base' e n : Nat} {v : Value} {xs : List Value} (h : w.ownsRow base e 1 v n xs) (hb : base' ≤ base) : w.ownsRow base' e 1 v n xs := by
  obtain ⟨h1, h2⟩ := h
  refine ⟨h1, h2.imp id ?_⟩
  rintro ⟨g, cap, cur, rfl, hg, h3⟩
  exact ⟨g, cap, cur, rfl, by omega, h3⟩
def NamesPost (w : World) (fs : FS) (e : Ending) (w' : World) : Prop := ∃ v, e = .returned v ∧ w'.ownsRow w.heap.size 9 1 v fs.length (fs.map (fun p => Value.string p.1)) ∧ Keeps (fun _ => False) w w'
end Go.Proofs.YtddnikpdmjogiaaGreat
namespace Go.Proofs.YtddnikpdmjogiaaGreat
set_option linter.unusedVariables false
open Go.RowKit Go.MapKept
def beginsB (s hd : ByteArray) : Bool := decide ((hd.size : Int) ≤ (s.size : Int)) && ((s.extract 0 hd.size).toList == hd.toList)
theorem info_string : (Tryz.prog.info? 9).map (fun i => (i.zero, i.size, i.bytes)) = some (some (.string ⟨#[]⟩), 1, 16) := by kernel_rfl
def StrsAt (base : Nat) (w : World) (v : Value) (l : List ByteArray) : Prop := w.ownsRow base 9 1 v l.length (l.map Value.string)
theorem StrsAt.nil (base : Nat) (w : World) : StrsAt base w (.slice none 0 0) [] := ⟨rfl, .inl ⟨rfl, rfl⟩⟩
theorem StrsAt.keep {base : Nat} {w w' : World} {v : Value} {l : List ByteArray} (h : StrsAt base w v l) (hk : Keeps (fun _ => False) w w') : StrsAt base w' v l := rrow_keep h (fun b hb => hk.block b (h.lt b hb).2 (fun e => e))
theorem StrsAt.form {base : Nat} {w : World} {v : Value} {l : List ByteArray} (h : StrsAt base w v l) : ∃ a c, v = .slice a l.length c := ownsRow_slice h
theorem StrsAt.cell {base : Nat} {w : World} {a : Option Addr} {n c : Nat} {l : List ByteArray} (h : StrsAt base w (.slice a n c) l) {i : Nat} {s : ByteArray} (hs : l[i]? = some s) : ∃ g, a = some ⟨g, 0, none⟩ ∧ w.cell? ⟨g, i, none⟩ = some (.string s) ∧ n ≤ c ∧ base ≤ g := by
  have hl := (List.getElem?_eq_some_iff.1 hs).1
  rcases h.2 with ⟨e, e2⟩ | ⟨g, cap, cur, e, hg, hb, h3, _⟩
  · omega
  · simp only [Value.slice.injEq] at e
    obtain ⟨rfl, rfl, rfl⟩ := e
    refine ⟨g, rfl, ?_, h3, hg⟩
    have := World.ownsRow.cells h (g := g) rfl i (.string s) (by rw [List.getElem?_map, hs]; rfl)
    simpa [Addr.add_lit] using this
theorem StrsAt.push {base : Nat} {w : World} {v : Value} {l : List ByteArray} (h : StrsAt base w v l) (hz : base ≤ w.heap.size) (s : ByteArray) (hb : l.length < 1099511627776) :
    ∃ a c w', (Builtin.append_ #[118, 118] 118 #[v, .slice (some ⟨w.heap.size, 0, none⟩) 1 1]).run Tryz.prog (w.alloc (.cells #[.string s] 9)) = .ok (.slice a (l.length + 1) c) w' ∧ StrsAt base w' (.slice a (l.length + 1) c) (l ++ [s]) ∧
      Keeps (fun b => v.ownBlock = some b) w w' ∧ ∀ b, v.ownBlock = some b → base ≤ b := by
  have hlt := World.ownsRow.lt h
  obtain ⟨i0, hi, hz0, hz1, hz2⟩ := info_parts info_string
  obtain ⟨v', w', hrun, ho2, hg, _, hat⟩ := run_append_own_at (P := Tryz.prog) (w.alloc (.cells #[.string s] 9)) base 118 118 9 i0 _ 1 16 Tryz.underlying118 hi hz0 hz1 hz2 rfl (by omega) v l.length (l.map Value.string) (World.ownsRow.alloc h _) ⟨w.heap.size, 0, none⟩ 1 1 [.string s] rfl
    (fun j u hu => by
      rw [Addr.add_lit, Nat.zero_add]
      exact cell_at (heap_alloc_new w _) (by simpa using hu))
    (by intro u hu; simp at hu; subst hu; rfl) (by unfold maxLen; omega) (by omega) (by simp only [World.size_alloc]; omega)
  obtain ⟨a, c, rfl⟩ := ownsRow_slice ho2
  refine ⟨a, c, w', hrun, ?_, ((Keeps.refl _ w).alloc _).trans (Keeps.of_grown hg) (fun _ _ h => h), fun b hb => (hlt b hb).1⟩
  unfold StrsAt
  rw [List.length_append, List.map_append]
  exact ho2
end Go.Proofs.YtddnikpdmjogiaaGreat
namespace Go.Proofs.YtddnikpdmjogiaaGreat
set_option linter.unusedVariables false
open Go.RowKit Go.MapKept
theorem Own.rsync {w wr : World} {r : Nat} {m : DM} {rs : List (Res w.heap.size)} (h : Own w wr (rRef w.heap.size r m :: rs)) {n t : Nat} (ht : Tidy m n t) :
    ∃ w', Runs 40 #[.pointer (some ⟨r, 0, none⟩)] wr (.int .i64 (syncOf m).1) w' ∧ Own w w' (rRef w.heap.size r (syncOf m).2 :: rs) := by
  obtain ⟨F, h1, h2, back⟩ := h.open1
  obtain ⟨w', hr, h3, h4⟩ := rsync_runs (h1 : RefIs F wr r m) ht.good.now ht.good.fuse
  obtain ⟨vn, vs, vl, h3⟩ := h3
  exact ⟨w', hr, back w' (rRef _ r (syncOf m).2) h4 ⟨vn, vs, vl, h3.quiet (Keeps.refl _ _) (fun b hb _ => .inl hb) (fun b hb => by rcases hb with hb | hb; exact h3.lt b hb; exact hb.2)⟩⟩
end Go.Proofs.YtddnikpdmjogiaaGreat
namespace Go.Proofs.YtddnikpdmjogiaaGreat
set_option linter.unusedVariables false
open Go.RowKit Go.MapKept
theorem Own.unbox {w0 w : World} {x y z : Res w0.heap.size} {rs : List (Res w0.heap.size)} (h : Own w0 w (x :: y :: z :: rs)) : Own w0 w (x :: y :: rs) :=
  (h.perm ((List.Perm.cons x (List.Perm.swap ..)).trans (List.Perm.swap ..))).drop
end Go.Proofs.YtddnikpdmjogiaaGreat
namespace Go.Proofs.YtddnikpdmjogiaaGreat
set_option linter.unusedVariables false
open Go.RowKit Go.MapKept
end Go.Proofs.YtddnikpdmjogiaaGreat
namespace Go.Proofs.YtddnikpdmjogiaaGreat
set_option linter.unusedVariables false
open Go.RowKit Go.MapKept
theorem clone_owns {w : World} {v : Value} {l : List UInt8} (h : Reads w v l) (hl : l.length ≤ 140737488355328) :
    ∃ v' w', Runs 85 #[v] w v' w' ∧ Owns w' w.heap.size v' l ∧ Keeps (fun _ => False) w w' := by
  obtain ⟨a, c, rfl, h1, h2⟩ := h.form
  cases a with
  | none =>
    rcases h with ⟨e, rfl⟩ | ⟨x, c', e, _⟩
    · simp only [Value.slice.injEq] at e
      obtain ⟨_, _, rfl⟩ := e
      exact ⟨_, _, clone_nil w, Owns.nil _ _, Keeps.refl _ _⟩
    · cases e
  | some a =>
    have ho0 : Owns (w.alloc (.cells #[] 5)) w.heap.size (.slice (some ⟨w.heap.size, 0, none⟩) 0 0) [] :=
      ⟨rfl, .inr ⟨w.heap.size, 0, #[], rfl, Nat.le_refl _, heap_alloc_new w _, Nat.le_refl _, Nat.zero_le _, rfl, rfl⟩⟩
    have hk : Reads (w.alloc (.cells #[] 5)) (.slice (some a) l.length c) l := h.keep ((Keeps.refl _ w).alloc _)
    obtain ⟨v', w1, hrun, hB, hk1⟩ := ho0.grow (by simp) hk (by simpa using hl)
    refine ⟨v', w1, clone_raw w w1 a _ c v' hrun, by simpa using hB, ((Keeps.refl _ w).alloc _).trans hk1 (fun b hb e => ?_)⟩
    simp only [Value.ownBlock, Option.some.injEq] at e
    omega
end Go.Proofs.YtddnikpdmjogiaaGreat
namespace Go.Proofs.YtddnikpdmjogiaaGreat
set_option linter.unusedVariables false
open Go.RowKit Go.MapKept
end Go.Proofs.YtddnikpdmjogiaaGreat
