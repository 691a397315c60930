/- Names: slices.Sorted over maps.Keys. -/
import Derived.Shelf.SlIter.Nil
import Derived.Shelf.SortM.Plain
import Derived.Shelf.SortM.SortNone
import Derived.Ground.GgzProg
import Derived.Ground.SlgmProg
import Derived.Test.YtlinkpjneehnbaaProg
import Derived.Test.YtlinkpjneehnbaaPkF
import Derived.Sort.Walk0
import Derived.Test.YtlinkpjneehnbaaPkG
namespace Go.Proofs.Ytlinkpjneehnbaa
open Go.RowKit Go.Maps Go.Sort Go.Shelf
def kkeys97_ren : Go.Shelf.Ren := ⟨fun | 7 => 97 | 10 => 126 | n => n, fun | 23 => 122 | 26 => 9 | 3 => 31 | 28 => 155 | 0 => 0 | 27 => 154 | 33 => 75 | 4 => 4 | n => n, fun | n => n⟩
theorem kkeys97 : Go.Proofs.SlLaysZ.n7 Try.prog kkeys97_ren := {
  mixed := by kernel_rfl
  f7 := ⟨Try.f97.name, by decide, Try.func97.trans (congrArg some (by kernel_rfl))⟩
  f10 := ⟨Try.f126.name, by decide, Try.func126.trans (congrArg some (by kernel_rfl))⟩
  t0 := Try.underlying0
  a0 := Try.isAgg0
  z0 := Try.sizeOf0
  v0 := Try.zeroValue0
  t4 := Try.underlying4
  a4 := Try.isAgg4
  z4 := Try.sizeOf4
  v4 := Try.zeroValue4
  t23 := Try.underlying122
  a23 := Try.isAgg122
  z23 := Try.sizeOf122
  v23 := Try.zeroValue122
  t26 := Try.underlying9
  a26 := Try.isAgg9
  z26 := Try.sizeOf9
  v26 := Try.zeroValue9
  t27 := Try.underlying154
  a27 := Try.isAgg154
  z27 := Try.sizeOf154
  v27 := Try.zeroValue154
  t28 := Try.underlying155
  a28 := Try.isAgg155
  z28 := Try.sizeOf155
  v28 := Try.zeroValue155
  t33 := Try.underlying75
  a33 := Try.isAgg75
  z33 := Try.sizeOf75
  v33 := Try.zeroValue75 }
def ksorted96_ren : Go.Shelf.Ren := ⟨fun | 6 => 96 | 8 => 124 | 9 => 125 | 11 => 130 | 13 => 132 | 12 => 131 | 23 => 143 | 24 => 144 | 14 => 134 | 15 => 135 | 16 => 136 | 17 => 137 | 18 => 138 | 19 => 139 | 20 => 140 | 21 => 141 | 22 => 142 | 25 => 145 | 26 => 146 | 27 => 147 | 28 => 148 | 29 => 149 | 30 => 150 | 31 => 151 | n => n, fun | 26 => 9 | 28 => 155 | 24 => 72 | 0 => 0 | 3 => 3 | 37 => 23 | 48 => 132 | 50 => 137 | 4 => 4 | 40 => 187 | 39 => 186 | 45 => 191 | 5 => 5 | 9 => 9 | 51 => 195 | 55 => 199 | 57 => 201 | 58 => 202 | 33 => 75 | n => n, fun | n => n⟩
theorem ksorted96 : Go.Proofs.SlLaysZ.n6 Try.prog ksorted96_ren := {
  mixed := by kernel_rfl
  f6 := ⟨Try.f96.name, by decide, Try.func96.trans (congrArg some (by kernel_rfl))⟩
  f8 := ⟨Try.f124.name, by decide, Try.func124.trans (congrArg some (by kernel_rfl))⟩
  f11 := ⟨Try.f130.name, by decide, Try.func130.trans (congrArg some (by kernel_rfl))⟩
  t0 := Try.underlying0
  a0 := Try.isAgg0
  z0 := Try.sizeOf0
  v0 := Try.zeroValue0
  t24 := Try.underlying72
  a24 := Try.isAgg72
  z24 := Try.sizeOf72
  v24 := Try.zeroValue72
  t26 := Try.underlying9
  a26 := Try.isAgg9
  z26 := Try.sizeOf9
  v26 := Try.zeroValue9
  t28 := Try.underlying155
  a28 := Try.isAgg155
  z28 := Try.sizeOf155
  v28 := Try.zeroValue155
  i26 := by kernel_rfl }
def ksort125_ren : Go.Shelf.Ren := ⟨fun | 6 => 125 | 8 => 132 | 9 => 131 | 19 => 143 | 20 => 144 | 21 => 134 | 22 => 135 | 23 => 136 | 24 => 137 | 25 => 138 | 26 => 139 | 27 => 140 | 28 => 141 | 29 => 142 | 36 => 145 | 31 => 146 | 32 => 147 | 37 => 148 | 38 => 149 | 39 => 150 | 41 => 151 | n => n, fun | 27 => 72 | 29 => 9 | 3 => 3 | 32 => 23 | 26 => 72 | 0 => 0 | 44 => 132 | 46 => 137 | 4 => 4 | 36 => 187 | 35 => 186 | 41 => 191 | 5 => 5 | 9 => 9 | 53 => 195 | 57 => 199 | 63 => 201 | 64 => 202 | n => n, fun | n => n⟩
theorem ksort125 : Go.Proofs.SlLaysM.n6 Try.prog ksort125_ren := {
  mixed := by kernel_rfl
  f6 := ⟨Try.f125.name, by decide, Try.func125.trans (congrArg some (by kernel_rfl))⟩
  f8 := Try.func132.trans (congrArg some (by kernel_rfl))
  f9 := ⟨Try.f131.name, by decide, Try.func131.trans (congrArg some (by kernel_rfl))⟩
  f19 := Try.func143.trans (congrArg some (by kernel_rfl))
  f20 := Try.func144.trans (congrArg some (by kernel_rfl))
  f21 := ⟨Try.f134.name, by decide, Try.func134.trans (congrArg some (by kernel_rfl))⟩
  f22 := ⟨Try.f135.name, by decide, Try.func135.trans (congrArg some (by kernel_rfl))⟩
  f23 := ⟨Try.f136.name, by decide, Try.func136.trans (congrArg some (by kernel_rfl))⟩
  f24 := ⟨Try.f137.name, by decide, Try.func137.trans (congrArg some (by kernel_rfl))⟩
  f25 := ⟨Try.f138.name, by decide, Try.func138.trans (congrArg some (by kernel_rfl))⟩
  f26 := ⟨Try.f139.name, by decide, Try.func139.trans (congrArg some (by kernel_rfl))⟩
  f27 := ⟨Try.f140.name, by decide, Try.func140.trans (congrArg some (by kernel_rfl))⟩
  f28 := ⟨Try.f141.name, by decide, Try.func141.trans (congrArg some (by kernel_rfl))⟩
  f29 := ⟨Try.f142.name, by decide, Try.func142.trans (congrArg some (by kernel_rfl))⟩
  f31 := Try.func146.trans (congrArg some (by kernel_rfl))
  f32 := Try.func147.trans (congrArg some (by kernel_rfl))
  f36 := ⟨Try.f145.name, by decide, Try.func145.trans (congrArg some (by kernel_rfl))⟩
  f37 := ⟨Try.f148.name, by decide, Try.func148.trans (congrArg some (by kernel_rfl))⟩
  f38 := ⟨Try.f149.name, by decide, Try.func149.trans (congrArg some (by kernel_rfl))⟩
  f39 := ⟨Try.f150.name, by decide, Try.func150.trans (congrArg some (by kernel_rfl))⟩
  f41 := ⟨Try.f151.name, by decide, Try.func151.trans (congrArg some (by kernel_rfl))⟩
  t0 := Try.underlying0
  a0 := Try.isAgg0
  z0 := Try.sizeOf0
  v0 := Try.zeroValue0
  t3 := Try.underlying3
  a3 := Try.isAgg3
  z3 := Try.sizeOf3
  v3 := Try.zeroValue3
  t4 := Try.underlying4
  a4 := Try.isAgg4
  z4 := Try.sizeOf4
  v4 := Try.zeroValue4
  t5 := Try.underlying5
  a5 := Try.isAgg5
  z5 := Try.sizeOf5
  v5 := Try.zeroValue5
  t9 := Try.underlying9
  a9 := Try.isAgg9
  z9 := Try.sizeOf9
  v9 := Try.zeroValue9
  t26 := Try.underlying72
  a26 := Try.isAgg72
  z26 := Try.sizeOf72
  v26 := Try.zeroValue72
  t27 := Try.underlying72
  a27 := Try.isAgg72
  z27 := Try.sizeOf72
  v27 := Try.zeroValue72
  t29 := Try.underlying9
  a29 := Try.isAgg9
  z29 := Try.sizeOf9
  v29 := Try.zeroValue9
  t32 := Try.underlying23
  a32 := Try.isAgg23
  z32 := Try.sizeOf23
  v32 := Try.zeroValue23
  t35 := Try.underlying186
  a35 := Try.isAgg186
  z35 := Try.sizeOf186
  v35 := Try.zeroValue186
  t36 := Try.underlying187
  a36 := Try.isAgg187
  z36 := Try.sizeOf187
  v36 := Try.zeroValue187
  t41 := Try.underlying191
  a41 := Try.isAgg191
  z41 := Try.sizeOf191
  v41 := Try.zeroValue191
  t44 := Try.underlying132
  a44 := Try.isAgg132
  z44 := Try.sizeOf132
  v44 := Try.zeroValue132
  t46 := Try.underlying137
  a46 := Try.isAgg137
  z46 := Try.sizeOf137
  v46 := Try.zeroValue137
  t53 := Try.underlying195
  a53 := Try.isAgg195
  z53 := Try.sizeOf195
  v53 := Try.zeroValue195
  t57 := Try.underlying199
  a57 := Try.isAgg199
  z57 := Try.sizeOf199
  v57 := Try.zeroValue199
  t63 := Try.underlying201
  a63 := Try.isAgg201
  z63 := Try.sizeOf201
  v63 := Try.zeroValue201
  t64 := Try.underlying202
  a64 := Try.isAgg202
  z64 := Try.sizeOf202
  v64 := Try.zeroValue202 }
theorem ksorts96 (m : Nat) : AnyZ.SortsIn Try.prog ksorted96_ren Fence.wide m :=
  ⟨fun blk off cap ss W hH hblk hsz => callsIn_wide.2 (AnyM.slices_Sort_string ksort125 blk off cap ss W hH hblk hsz),
   fun p cap W => callsIn_wide.2 (AnyM.slices_Sort_string_none ksort125 p cap W)⟩

theorem kmaps_Keys_97 (mb : Option Nat) (W : World) : CallsIn Fence.wide 5 Try.prog 97 #[.map mb] W fun e w' => e = .returned (.func (.func 126) #[] #[.pointer (some ⟨W.heap.size, 0, none⟩)]) ∧ w' = W.alloc (.cells #[.map mb] 122) :=
  AnyZ.keys_in kkeys97 Fence.wide 5 trivial rfl mb W

set_option maxHeartbeats 1000000 in
theorem kslices_Sorted_keys_96_97 {H : Type} (b nn : Nat) (D0 : DataW H) (R : Value → Option (DataW H × List MemPlace)) (w : World) (hown : w.ownsMap Try.prog 9 R b nn D0) (hmax : Maps.size D0 ≤ maxLen) (hbytes : Maps.size D0 * 16 ≤ 140737488355328) :
    CallsIn Fence.wide 5 Try.prog 96 #[.func (.func 126) #[] #[.pointer (some ⟨w.heap.size, 0, none⟩)]] (w.alloc (.cells #[.map (some b)] 122)) fun e w' => ∃ (v : Value) (ss : List (List UInt8)), e = .returned v ∧ ss.Perm (strKeys D0) ∧
      w'.ownsRow (w.alloc (.cells #[.map (some b)] 122)).heap.size 9 1 v ss.length ((ss.mergeSort (fun x y => decide (x ≤ y))).map encStr) ∧ (v = .slice none 0 0 ↔ ss = []) ∧ Below (w.alloc (.cells #[.map (some b)] 122)).heap.size (w.alloc (.cells #[.map (some b)] 122)) w' := by
  have hbl := hown.lt
  have hseq : SeqGives Fence.wide 2 Try.prog 126 #[.pointer (some ⟨w.heap.size, 0, none⟩)] encStr (fun ss => ss.Perm (strKeys D0)) (Maps.size D0) (w.alloc (.cells #[.map (some b)] 122)) :=
    AnyZ.keys_gives (ρ := kkeys97_ren) { kkeys97 with } Fence.wide _ trivial rfl (by omega) w.heap.size b nn D0 _ (by simp) (by simp) (by
      obtain ⟨es, clock, hb, Ft, hs, hD⟩ := hown
      exact ⟨es, clock, (Below.heap_alloc _ _ b hbl).trans hb, Ft, hs, hD⟩)
  exact AnyZ.sorted_in ksorted96 Fence.wide 5 trivial trivial trivial trivial rfl (by omega) (ksorts96 _) (enters_of Try.func125 (by kernel_rfl) rfl) 126 #[.pointer (some ⟨w.heap.size, 0, none⟩)] trivial (enters_of Try.func126 (by kernel_rfl) rfl) _ _ hmax hbytes _ hseq

end Go.Proofs.Ytlinkpjneehnbaa

namespace Go.Proofs.Ytlinkpjneehnbaa
set_option linter.unusedVariables false
open Go.RowKit Go.MapKept Go.Maps

/-- How an element of the map is read where its bytes don't matter. -/
def anyV : Value → Option (DataW Unit × List MemPlace) := fun _ => some (.nil, [])
theorem insert_perm (x : Lit × DataW Unit) : ∀ l : List (Lit × DataW Unit), (DataW.insert x l).Perm (x :: l)
  | [] => List.Perm.refl _
  | y :: r => by
    unfold DataW.insert
    split
    · exact List.Perm.refl _
    · exact (List.Perm.cons y (insert_perm x r)).trans (List.Perm.swap x y r)
theorem foldr_perm (l : List (Lit × DataW Unit)) : (l.foldr DataW.insert []).Perm l := by
  induction l with
  | nil => exact List.Perm.refl _
  | cons x l ih => exact (insert_perm x _).trans (ih.cons x)
theorem key_reads {s : ByteArray} (hs : s.size ≤ maxLen) : keyOf Try.prog 9 (.string s) = some (.string s.data.toList) := by
  simp [keyOf, mapKey, Try.underlying9, hs]
theorem rel_reads {F : Nat → Prop} {w : World} : ∀ {es : List MapEntry} {l : FS}, Rel2 (EntryOk F w) es l → (∀ p ∈ l, p.1.size ≤ maxLen) → es.map (WideElems.rg Try.prog 9 anyV) = l.map (fun p => (Lit.string p.1.data.toList, DataW.nil)) ∧ ∀ x ∈ es, ∃ y, WideElems.rd Try.prog 9 anyV x = some y
  | [], [], _, _ => ⟨rfl, fun x hx => by simp at hx⟩
  | e :: es, p :: l, h, hs => by
    obtain ⟨h1, h2⟩ := rel_reads h.2 (fun q hq => hs q (List.mem_cons_of_mem _ hq))
    have hk := key_reads (hs p (List.mem_cons_self ..))
    have hr : WideElems.rd Try.prog 9 anyV e = some (Lit.string p.1.data.toList, DataW.nil) := by
      unfold WideElems.rd
      rw [h.1.1, hk]; rfl
    refine ⟨?_, fun x hx => ?_⟩
    · rw [List.map_cons, List.map_cons, h1]
      unfold WideElems.rg
      rw [hr]; rfl
    · rcases List.mem_cons.1 hx with rfl | hx
      · exact ⟨_, hr⟩
      · exact h2 x hx
  | [], _ :: _, h, _ => h.elim
  | _ :: _, [], h, _ => h.elim
theorem MapFs.owns {F : Nat → Prop} {w : World} {b : Nat} {fs : FS} (h : MapFs F w b fs) (hs : ∀ p ∈ fs, p.1.size ≤ maxLen) (hl : fs.length ≤ maxLen) :
    ∃ D0 : DataW Unit, w.ownsMap Try.prog 9 anyV b fs.length D0 ∧ Maps.size D0 = fs.length ∧ (strKeys D0).Perm (fs.map (fun p => p.1.data.toList)) := by
  obtain ⟨es, clock, l, hb, hst, hr, hp⟩ := h
  have hz : es.size = fs.length := by rw [← hp.length_eq, ← hr.length, Array.length_toList]
  obtain ⟨h1, h2⟩ := rel_reads hr (fun p hp' => hs p (hp.mem_iff.1 hp'))
  refine ⟨_, ⟨es, clock, hb, ⟨by omega, hst, h2⟩, by omega, rfl⟩, ?_, ?_⟩
  · have := (foldr_perm (es.toList.map (WideElems.rg Try.prog 9 anyV))).length_eq
    rw [Maps.size_eq, this, List.length_map, Array.length_toList, hz]
  · have hq := (foldr_perm (es.toList.map (WideElems.rg Try.prog 9 anyV))).map (fun p => strOf p.1)
    refine List.Perm.trans hq ?_
    rw [h1, List.map_map]
    exact hp.map _
theorem sorted_names {fs : FS} (hs : FSorted fs) {ss : List (List UInt8)} (hp : ss.Perm (fs.map (fun p => p.1.data.toList))) : (ss.mergeSort leB).map encStr = fs.map (fun p => Value.string p.1) := by
  have tr : ∀ a b c : List UInt8, leB a b = true → leB b c = true → leB a c = true := fun a b c h1 h2 => by simp only [leB, decide_eq_true_eq] at *; exact List.le_trans h1 h2
  have to : ∀ a b : List UInt8, (leB a b || leB b a) = true := fun a b => by simp only [leB, Bool.or_eq_true, decide_eq_true_eq]; exact List.le_total a b
  have hpw : (fs.map (fun p => p.1.data.toList)).Pairwise (fun a b => leB a b = true) := by
    rw [List.pairwise_map]
    refine List.Pairwise.imp (fun {x y} hxy => ?_) hs
    unfold blt at hxy
    rw [bytesLess_eq, decide_eq_true_eq, ByteArray.toList_eq, ByteArray.toList_eq] at hxy
    simp only [leB, decide_eq_true_eq]
    exact List.le_of_lt hxy
  have he : ss.mergeSort leB = fs.map (fun p => p.1.data.toList) := by
    refine List.Perm.eq_of_pairwise (le := fun a b => leB a b = true) (fun a b _ _ h1 h2 => ?_) (List.pairwise_mergeSort tr to ss) hpw ((List.mergeSort_perm ss leB).trans hp)
    simp only [leB, decide_eq_true_eq] at h1 h2
    exact List.le_antisymm h1 h2
  rw [he, List.map_map]
  rfl

theorem row_base1 {w : World} {base base' e n : Nat} {v : Value} {xs : List Value} (h : w.ownsRow base e 1 v n xs) (hb : base' ≤ base) : w.ownsRow base' e 1 v n xs := by
  obtain ⟨h1, h2⟩ := h
  refine ⟨h1, h2.imp id ?_⟩
  rintro ⟨g, cap, cur, rfl, hg, h3⟩
  exact ⟨g, cap, cur, rfl, by omega, h3⟩
theorem keys_runs (mb : Option Nat) (W : World) : Runs 97 #[.map mb] W (.func (.func 126) #[] #[.pointer (some ⟨W.heap.size, 0, none⟩)]) (W.alloc (.cells #[.map mb] 122)) := by
  refine (callsIn_wide.1 (kmaps_Keys_97 mb W)).mono ?_
  rintro e w' ⟨rfl, rfl⟩
  exact ⟨rfl, rfl⟩
/-- What sorted keys are. -/
def NamesPost (w : World) (fs : FS) (e : Ending) (w' : World) : Prop := ∃ v, e = .returned v ∧ w'.ownsRow w.heap.size 9 1 v fs.length (fs.map (fun p => Value.string p.1)) ∧ Keeps (fun _ => False) w w'
theorem sorted_calls {F : Nat → Prop} {w : World} {b : Nat} {fs : FS} (h : MapFs F w b fs) (hs : FSorted fs) (hn : ∀ p ∈ fs, p.1.size ≤ maxLen) (hl : fs.length ≤ 1099511627776) :
    Calls Try.prog 96 #[.func (.func 126) #[] #[.pointer (some ⟨w.heap.size, 0, none⟩)]] (w.alloc (.cells #[.map (some b)] 122)) (NamesPost w fs) := by
  obtain ⟨D0, h1, h2, h3⟩ := h.owns hn (by unfold maxLen; omega)
  refine (callsIn_wide.1 (kslices_Sorted_keys_96_97 b fs.length D0 anyV w h1 (by rw [h2]; unfold maxLen; omega) (by rw [h2]; omega))).mono ?_
  rintro e w' ⟨v, ss, rfl, hS, hrow, _, hbl⟩
  have hlen : ss.length = fs.length := by have := (hS.trans h3).length_eq; simpa using this
  rw [sorted_names hs (hS.trans h3), hlen] at hrow
  have hb2 : Keeps (fun _ => False) (w.alloc (.cells #[.map (some b)] 122)) w' := ⟨hbl.os, hbl.tape, hbl.output, hbl.size, fun k hk _ => hbl.block k hk⟩
  exact ⟨v, rfl, row_base1 hrow (by simp), ((Keeps.refl _ w).alloc _).trans hb2 (fun _ _ e => e)⟩
end Go.Proofs.Ytlinkpjneehnbaa

namespace Go.Proofs.Ytlinkpjneehnbaa
set_option linter.unusedVariables false
open Go.RowKit Go.MapKept

/-- Does a text begin so? -/
def beginsB (s hd : ByteArray) : Bool := decide ((hd.size : Int) ≤ (s.size : Int)) && ((s.extract 0 hd.size).toList == hd.toList)
set_option maxRecDepth 100000 in
theorem rbegins_runs (s hd : ByteArray) (w : World) : Runs 56 #[.string s, .string hd] w (.bool (beginsB s hd)) w := by
  unfold Runs beginsB
  have h0 : (0 : Int) ≤ (hd.size : Int) := by omega
  by_cases hh : (hd.size : Int) ≤ (s.size : Int)
  · rw [decide_eq_true hh, Bool.true_and]
    go_enter Try.func56, Try.ntmps56
    go_wp2_with fail
    go_ret
    exact ⟨rfl, rfl⟩
  · rw [decide_eq_false hh, Bool.false_and]
    have hh' : decide ((hd.size : Int) ≤ (s.size : Int)) = false := decide_eq_false hh
    go_enter Try.func56, Try.ntmps56
    go_wp2_with fail
    go_ret
    exact ⟨rfl, rfl⟩

/-- The names that begin so. -/
def namesOf (fs : FS) (hd : ByteArray) : List ByteArray := (fs.filter (fun p => beginsB p.1 hd)).map (·.1)
theorem namesOf_step {l : FS} {hd : ByteArray} {k : Nat} {p : ByteArray × List UInt8} (hp : l[k]? = some p) {out : List ByteArray} (h : namesOf l hd = out ++ namesOf (l.drop k) hd) :
    namesOf l hd = (if beginsB p.1 hd then out ++ [p.1] else out) ++ namesOf (l.drop (k + 1)) hd := by
  obtain ⟨hk, rfl⟩ := List.getElem?_eq_some_iff.1 hp
  rw [h, List.drop_eq_getElem_cons hk]
  unfold namesOf
  rw [List.filter_cons]
  split <;> simp

theorem info_string : (Try.prog.info? 9).map (fun i => (i.zero, i.size, i.bytes)) = some (some (.string ⟨#[]⟩), 1, 16) := by kernel_rfl
/-- A row of texts in new memory. -/
def StrsAt (base : Nat) (w : World) (v : Value) (l : List ByteArray) : Prop := w.ownsRow base 9 1 v l.length (l.map Value.string)
theorem StrsAt.nil (base : Nat) (w : World) : StrsAt base w (.slice none 0 0) [] := ⟨rfl, .inl ⟨rfl, rfl⟩⟩
theorem StrsAt.keep {base : Nat} {w w' : World} {v : Value} {l : List ByteArray} (h : StrsAt base w v l) (hk : Keeps (fun _ => False) w w') : StrsAt base w' v l := rrow_keep h (fun b hb => hk.block b (h.lt b hb).2 (fun e => e))
theorem StrsAt.form {base : Nat} {w : World} {v : Value} {l : List ByteArray} (h : StrsAt base w v l) : ∃ a c, v = .slice a l.length c := ownsRow_slice h
theorem StrsAt.cell {base : Nat} {w : World} {a : Option Addr} {n c : Nat} {l : List ByteArray} (h : StrsAt base w (.slice a n c) l) {i : Nat} {s : ByteArray} (hs : l[i]? = some s) : ∃ g, a = some ⟨g, 0, none⟩ ∧ w.cell? ⟨g, i, none⟩ = some (.string s) ∧ n ≤ c ∧ base ≤ g := by
  have hl := (List.getElem?_eq_some_iff.1 hs).1
  rcases h.2 with ⟨e, e2⟩ | ⟨g, cap, cur, e, hg, hb, h3, _⟩
  · omega
  · simp only [Value.slice.injEq] at e
    obtain ⟨rfl, rfl, rfl⟩ := e
    refine ⟨g, rfl, ?_, h3, hg⟩
    have := World.ownsRow.cells h (g := g) rfl i (.string s) (by rw [List.getElem?_map, hs]; rfl)
    simpa [Addr.add_lit] using this
/-- 'append(out, s)'. -/
theorem StrsAt.push {base : Nat} {w : World} {v : Value} {l : List ByteArray} (h : StrsAt base w v l) (hz : base ≤ w.heap.size) (s : ByteArray) (hb : l.length < 1099511627776) :
    ∃ a c w', (Builtin.append_ #[72, 72] 72 #[v, .slice (some ⟨w.heap.size, 0, none⟩) 1 1]).run Try.prog (w.alloc (.cells #[.string s] 9)) = .ok (.slice a (l.length + 1) c) w' ∧ StrsAt base w' (.slice a (l.length + 1) c) (l ++ [s]) ∧
      Keeps (fun b => v.ownBlock = some b) w w' ∧ ∀ b, v.ownBlock = some b → base ≤ b := by
  have hlt := World.ownsRow.lt h
  obtain ⟨i0, hi, hz0, hz1, hz2⟩ := info_parts info_string
  obtain ⟨v', w', hrun, ho2, hg, _, hat⟩ := run_append_own_at (P := Try.prog) (w.alloc (.cells #[.string s] 9)) base 72 72 9 i0 _ 1 16 Try.underlying72 hi hz0 hz1 hz2 rfl (by omega) v l.length (l.map Value.string) (World.ownsRow.alloc h _) ⟨w.heap.size, 0, none⟩ 1 1 [.string s] rfl
    (fun j u hu => by
      rw [Addr.add_lit, Nat.zero_add]
      exact cell_at (heap_alloc_new w _) (by simpa using hu))
    (by intro u hu; simp at hu; subst hu; rfl) (by unfold maxLen; omega) (by omega) (by simp only [World.size_alloc]; omega)
  obtain ⟨a, c, rfl⟩ := ownsRow_slice ho2
  refine ⟨a, c, w', hrun, ?_, ((Keeps.refl _ w).alloc _).trans (Keeps.of_grown hg) (fun _ _ h => h), fun b hb => (hlt b hb).1⟩
  unfold StrsAt
  rw [List.length_append, List.map_append]
  exact ho2

theorem names_down {w : World} {d : Nat} (hd : ByteArray) (hup : Runs 73 #[.pointer (some ⟨d, 0, none⟩)] w (.int .i64 5) w) : Runs 55 #[.pointer (some ⟨d, 0, none⟩), .string hd] w (.tuple #[.slice none 0 0, .int .i64 5]) w := by
  unfold Runs
  go_enter Try.func55, Try.ntmps55
  go_wp2_with (first | (go_at_call 73; refine hup.out.mono ?_; rintro e w' ⟨rfl, rfl⟩))
  go_ret2
  exact ⟨rfl, rfl⟩

/-- What Names tells. -/
def ToldPost (w : World) (l : List ByteArray) (k : Int) (e : Ending) (w' : World) : Prop := ∃ v, e = .returned (.tuple #[v, .int .i64 k]) ∧ StrsAt w.heap.size w' v l ∧ Keeps (fun _ => False) w w'
set_option maxRecDepth 100000 in
set_option maxHeartbeats 1000000 in
theorem names_calls {F : Nat → Prop} {w : World} {d : Nat} {m : DM} (h : DiskIs F w d m) (hd : ByteArray) (hdn : m.down = false) (hs : FSorted m.now) (hn : ∀ p ∈ m.now, p.1.size ≤ maxLen) (hl : m.now.length ≤ 1099511627775) :
    Calls Try.prog 55 #[.pointer (some ⟨d, 0, none⟩), .string hd] w (ToldPost w (namesOf m.now hd) 0) := by
  have hup := up_runs h
  rw [show upOf m = 0 by unfold upOf; rw [hdn]; rfl] at hup
  obtain ⟨bn, bs, vl, h⟩ := h
  have c1 := h.cells.c1
  have hsc := sorted_calls h.now hs hn (by omega)
  have HSC := Lib.hid hsc
  clear h hs hsc
  go_enter Try.func55, Try.ntmps55
  go_wp2_with (first | (go_at_call 73; refine hup.out.mono ?_; rintro e w' ⟨rfl, rfl⟩))
  refine (keys_runs (some bn) w).out.mono ?_
  rintro e w' ⟨rfl, rfl⟩
  go_wp2_with fail
  refine HSC.out.mono ?_
  rintro e w1 ⟨v1, rfl, ho1, hk1⟩
  obtain ⟨a1, k1, rfl⟩ := ownsRow_slice ho1
  go_wp2_with fail
  have i1 : (m.now.length : Int) ≤ 1099511627775 := by omega
  have i2 : (0 : Int) ≤ (hd.size : Int) := by omega
  have HO1 := Lib.hid ho1
  have HK1 := Lib.hid hk1
  clear ho1 hk1 HSC hn hup c1
  go_loopw [7, 22] (fun ov i wx => ∃ (k : Nat) (out : List ByteArray), k ≤ m.now.length ∧ i = .int .i64 (k : Int) ∧ out.length ≤ k ∧ namesOf m.now hd = out ++ namesOf (m.now.drop k) hd ∧ StrsAt w1.heap.size wx ov out ∧ Keeps (fun _ => False) w1 wx) (fun _ i _ => m.now.length - (intOf i).toNat)
  case atStart => exact ⟨0, [], Nat.zero_le _, rfl, Nat.le_refl _, by simp, StrsAt.nil _ _, Keeps.refl _ _⟩
  case round =>
    obtain ⟨k, out, hk, rfl, hlen, hinv, ho, hq⟩ := hrel
    have j0 : (0 : Int) ≤ k := by omega
    obtain ⟨oa, oc, rfl⟩ := ho.form
    by_cases hlt : k < m.now.length
    · obtain ⟨f, hf⟩ : ∃ f, m.now[k]? = some f := ⟨m.now[k], List.getElem?_eq_getElem hlt⟩
      have hst : StrsAt w.heap.size w1 (.slice a1 m.now.length k1) (m.now.map (·.1)) := by
        have := HO1.out
        unfold StrsAt
        rw [List.map_map, List.length_map]
        exact this
      obtain ⟨g, rfl, hc, hle, _⟩ := (hst.keep hq).cell (i := k) (s := f.1) (by rw [List.getElem?_map, hf]; rfl)
      have hstep := namesOf_step hf hinv
      have j1 : (k : Int) < m.now.length := by omega
      clear hst
      by_cases hbg : beginsB f.1 hd = true
      · rw [if_pos hbg] at hstep
        obtain ⟨b1, b2⟩ : decide ((hd.size : Int) ≤ (f.1.size : Int)) = true ∧ ((f.1.extract 0 hd.size).toList == hd.toList) = true := by unfold beginsB at hbg; exact Bool.and_eq_true_iff.1 hbg
        have b1' : (hd.size : Int) ≤ (f.1.size : Int) := of_decide_eq_true b1
        obtain ⟨a2, c2, w2, hrun, ho2, hk2, hbase⟩ := ho.push hq.size f.1 (by omega)
        have hq2 := hq.trans hk2 (fun b hb e => by have := hbase b e; omega)
        have HRUN := Lib.hid hrun
        have HREL := Lib.hid (⟨k + 1, out ++ [f.1], by omega, rfl, by simp; omega, hstep, by rw [show (out ++ [f.1]).length = out.length + 1 by simp]; exact ho2, hq2⟩ : ∃ (k' : Nat) (out' : List ByteArray), k' ≤ m.now.length ∧ Value.int .i64 ((k + 1 : Nat) : Int) = .int .i64 (k' : Int) ∧ out'.length ≤ k' ∧ namesOf m.now hd = out' ++ namesOf (m.now.drop k') hd ∧ StrsAt w1.heap.size w2 (.slice a2 ((out ++ [f.1]).length) c2) out' ∧ Keeps (fun _ => False) w1 w2)
        clear hstep hinv ho hq hf hrun ho2 hk2 hq2 hbase hbg
        go_wp2_with (at_builtin; (first | (refine wpList_append_run (w := wr.alloc (.cells #[.string f.1] 9)) rfl _ _ _ _ rfl rfl rfl HRUN.out ?_)))
        go_roundw
        case rel => have h := HREL.out; simp only [List.length_append, List.length_cons, List.length_nil, Nat.zero_add] at h; exact h
        case measure => simp [intOf]; omega
      · rw [if_neg hbg] at hstep
        have HREL := Lib.hid (⟨k + 1, out, by omega, rfl, by omega, hstep, ho, hq⟩ : ∃ (k' : Nat) (out' : List ByteArray), k' ≤ m.now.length ∧ Value.int .i64 ((k + 1 : Nat) : Int) = .int .i64 (k' : Int) ∧ out'.length ≤ k' ∧ namesOf m.now hd = out' ++ namesOf (m.now.drop k') hd ∧ StrsAt w1.heap.size wr (.slice oa out.length oc) out' ∧ Keeps (fun _ => False) w1 wr)
        by_cases b1 : (hd.size : Int) ≤ (f.1.size : Int)
        · have b2 : ((f.1.extract 0 hd.size).toList == hd.toList) = false := by
            unfold beginsB at hbg
            rw [decide_eq_true b1, Bool.true_and] at hbg
            exact Bool.eq_false_iff.2 hbg
          clear hstep hinv ho hq hf hbg
          go_wp2_with fail
          go_roundw
          case rel => exact HREL.out
          case measure => simp [intOf]; omega
        · have b1' : decide ((hd.size : Int) ≤ (f.1.size : Int)) = false := decide_eq_false b1
          clear hstep hinv ho hq hf hbg
          go_wp2_with fail
          go_roundw
          case rel => exact HREL.out
          case measure => simp [intOf]; omega
    · obtain rfl : k = m.now.length := by omega
      rw [List.drop_length] at hinv
      have hinv : namesOf m.now hd = out := by simpa [namesOf] using hinv
      have hfin : ToldPost w (namesOf m.now hd) 0 (.returned (.tuple #[.slice oa out.length oc, .int .i64 0])) wr := by
        rw [hinv]
        have hz := HK1.out.size
        exact ⟨_, rfl, ownsRow_base0 ho (by omega), HK1.out.trans hq (fun _ _ e => e)⟩
      have HFIN := Lib.hid hfin
      clear hfin hinv ho hq
      go_wp2_with fail
      go_ret2
      exact HFIN.out
end Go.Proofs.Ytlinkpjneehnbaa
