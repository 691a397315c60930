/- slices.Sorted of maps.Keys of a map of files: the names, in order. -/
import Derived.Test.YtlinkpjneehnbaaKeysA
import Derived.Test.YtlinkpjneehnbaaRefV
import Derived.Sort.Walk0
namespace Go.Proofs.Ytlinkpjneehnbaa
set_option linter.unusedVariables false
open Go.RowKit Go.MapKept Go.Maps

/-- How an element of the map is read where its bytes don't matter. -/
def anyV : Value → Option (DataW Unit × List MemPlace) := fun _ => some (.nil, [])
theorem insert_perm (x : Lit × DataW Unit) : ∀ l : List (Lit × DataW Unit), (DataW.insert x l).Perm (x :: l)
  | [] => List.Perm.refl _
  | y :: r => by
    unfold DataW.insert
    split
    · exact List.Perm.refl _
    · exact (List.Perm.cons y (insert_perm x r)).trans (List.Perm.swap x y r)
theorem foldr_perm (l : List (Lit × DataW Unit)) : (l.foldr DataW.insert []).Perm l := by
  induction l with
  | nil => exact List.Perm.refl _
  | cons x l ih => exact (insert_perm x _).trans (ih.cons x)
theorem key_reads {s : ByteArray} (hs : s.size ≤ maxLen) : keyOf Try.prog 9 (.string s) = some (.string s.data.toList) := by
  simp [keyOf, mapKey, Try.underlying9, hs]
theorem rel_reads {F : Nat → Prop} {w : World} : ∀ {es : List MapEntry} {l : FS}, Rel2 (EntryOk F w) es l → (∀ p ∈ l, p.1.size ≤ maxLen) → es.map (WideElems.rg Try.prog 9 anyV) = l.map (fun p => (Lit.string p.1.data.toList, DataW.nil)) ∧ ∀ x ∈ es, ∃ y, WideElems.rd Try.prog 9 anyV x = some y
  | [], [], _, _ => ⟨rfl, fun x hx => by simp at hx⟩
  | e :: es, p :: l, h, hs => by
    obtain ⟨h1, h2⟩ := rel_reads h.2 (fun q hq => hs q (List.mem_cons_of_mem _ hq))
    have hk := key_reads (hs p (List.mem_cons_self ..))
    have hr : WideElems.rd Try.prog 9 anyV e = some (Lit.string p.1.data.toList, DataW.nil) := by
      unfold WideElems.rd
      rw [h.1.1, hk]; rfl
    refine ⟨?_, fun x hx => ?_⟩
    · rw [List.map_cons, List.map_cons, h1]
      unfold WideElems.rg
      rw [hr]; rfl
    · rcases List.mem_cons.1 hx with rfl | hx
      · exact ⟨_, hr⟩
      · exact h2 x hx
  | [], _ :: _, h, _ => h.elim
  | _ :: _, [], h, _ => h.elim
theorem MapFs.owns {F : Nat → Prop} {w : World} {b : Nat} {fs : FS} (h : MapFs F w b fs) (hs : ∀ p ∈ fs, p.1.size ≤ maxLen) (hl : fs.length ≤ maxLen) :
    ∃ D0 : DataW Unit, w.ownsMap Try.prog 9 anyV b fs.length D0 ∧ Maps.size D0 = fs.length ∧ (strKeys D0).Perm (fs.map (fun p => p.1.data.toList)) := by
  obtain ⟨es, clock, l, hb, hst, hr, hp⟩ := h
  have hz : es.size = fs.length := by rw [← hp.length_eq, ← hr.length, Array.length_toList]
  obtain ⟨h1, h2⟩ := rel_reads hr (fun p hp' => hs p (hp.mem_iff.1 hp'))
  refine ⟨_, ⟨es, clock, hb, ⟨by omega, hst, h2⟩, by omega, rfl⟩, ?_, ?_⟩
  · have := (foldr_perm (es.toList.map (WideElems.rg Try.prog 9 anyV))).length_eq
    rw [Maps.size_eq, this, List.length_map, Array.length_toList, hz]
  · have hq := (foldr_perm (es.toList.map (WideElems.rg Try.prog 9 anyV))).map (fun p => strOf p.1)
    refine List.Perm.trans hq ?_
    rw [h1, List.map_map]
    exact hp.map _
theorem sorted_names {fs : FS} (hs : FSorted fs) {ss : List (List UInt8)} (hp : ss.Perm (fs.map (fun p => p.1.data.toList))) : (ss.mergeSort leB).map encStr = fs.map (fun p => Value.string p.1) := by
  have tr : ∀ a b c : List UInt8, leB a b = true → leB b c = true → leB a c = true := fun a b c h1 h2 => by simp only [leB, decide_eq_true_eq] at *; exact List.le_trans h1 h2
  have to : ∀ a b : List UInt8, (leB a b || leB b a) = true := fun a b => by simp only [leB, Bool.or_eq_true, decide_eq_true_eq]; exact List.le_total a b
  have hpw : (fs.map (fun p => p.1.data.toList)).Pairwise (fun a b => leB a b = true) := by
    rw [List.pairwise_map]
    refine List.Pairwise.imp (fun {x y} hxy => ?_) hs
    unfold blt at hxy
    rw [bytesLess_eq, decide_eq_true_eq, ByteArray.toList_eq, ByteArray.toList_eq] at hxy
    simp only [leB, decide_eq_true_eq]
    exact List.le_of_lt hxy
  have he : ss.mergeSort leB = fs.map (fun p => p.1.data.toList) := by
    refine List.Perm.eq_of_pairwise (le := fun a b => leB a b = true) (fun a b _ _ h1 h2 => ?_) (List.pairwise_mergeSort tr to ss) hpw ((List.mergeSort_perm ss leB).trans hp)
    simp only [leB, decide_eq_true_eq] at h1 h2
    exact List.le_antisymm h1 h2
  rw [he, List.map_map]
  rfl

theorem row_base1 {w : World} {base base' e n : Nat} {v : Value} {xs : List Value} (h : w.ownsRow base e 1 v n xs) (hb : base' ≤ base) : w.ownsRow base' e 1 v n xs := by
  obtain ⟨h1, h2⟩ := h
  refine ⟨h1, h2.imp id ?_⟩
  rintro ⟨g, cap, cur, rfl, hg, h3⟩
  exact ⟨g, cap, cur, rfl, by omega, h3⟩
theorem keys_runs (mb : Option Nat) (W : World) : Runs 97 #[.map mb] W (.func (.func 126) #[] #[.pointer (some ⟨W.heap.size, 0, none⟩)]) (W.alloc (.cells #[.map mb] 122)) := by
  refine (callsIn_wide.1 (kmaps_Keys_97 mb W)).mono ?_
  rintro e w' ⟨rfl, rfl⟩
  exact ⟨rfl, rfl⟩
/-- What sorted keys are. -/
def NamesPost (w : World) (fs : FS) (e : Ending) (w' : World) : Prop := ∃ v, e = .returned v ∧ w'.ownsRow w.heap.size 9 1 v fs.length (fs.map (fun p => Value.string p.1)) ∧ Keeps (fun _ => False) w w'
theorem sorted_calls {F : Nat → Prop} {w : World} {b : Nat} {fs : FS} (h : MapFs F w b fs) (hs : FSorted fs) (hn : ∀ p ∈ fs, p.1.size ≤ maxLen) (hl : fs.length ≤ 1099511627776) :
    Calls Try.prog 96 #[.func (.func 126) #[] #[.pointer (some ⟨w.heap.size, 0, none⟩)]] (w.alloc (.cells #[.map (some b)] 122)) (NamesPost w fs) := by
  obtain ⟨D0, h1, h2, h3⟩ := h.owns hn (by unfold maxLen; omega)
  refine (callsIn_wide.1 (kslices_Sorted_keys_96_97 b fs.length D0 anyV w h1 (by rw [h2]; unfold maxLen; omega) (by rw [h2]; omega))).mono ?_
  rintro e w' ⟨v, ss, rfl, hS, hrow, _, hbl⟩
  have hlen : ss.length = fs.length := by have := (hS.trans h3).length_eq; simpa using this
  rw [sorted_names hs (hS.trans h3), hlen] at hrow
  have hb2 : Keeps (fun _ => False) (w.alloc (.cells #[.map (some b)] 122)) w' := ⟨hbl.os, hbl.tape, hbl.output, hbl.size, fun k hk _ => hbl.block k hk⟩
  exact ⟨v, rfl, row_base1 hrow (by simp), ((Keeps.refl _ w).alloc _).trans hb2 (fun _ _ e => e)⟩
end Go.Proofs.Ytlinkpjneehnbaa
