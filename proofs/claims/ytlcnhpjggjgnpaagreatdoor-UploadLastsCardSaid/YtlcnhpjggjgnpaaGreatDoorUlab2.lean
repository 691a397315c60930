/- A part of the proof. -/
import Derived.Test.YtlcnhpjggjgnpaaGreatDoorUlaa8
import Derived.Test.YtlcnhpjggjgnpaaGreatDoorUlab1
import Derived.Sort.Walk0
import Derived.Laws.BitsAllLaws
namespace Go.Proofs.YtlcnhpjggjgnpaaGreatDoor
set_option linter.unusedVariables false
open Go.RowKit Go.MapKept Go.Maps
def anyV : Value → Option (DataW Unit × List MemPlace) := fun _ => some (.nil, [])
theorem insert_perm (x : Lit × DataW Unit) : ∀ l : List (Lit × DataW Unit), (DataW.insert x l).Perm (x :: l)
 | [] => List.Perm.refl _
 | y :: r => by
  unfold DataW.insert
  split
  ·exact List.Perm.refl _
  ·exact (List.Perm.cons y (insert_perm x r)).trans (List.Perm.swap x y r)
theorem foldr_perm (l : List (Lit × DataW Unit)) : (l.foldr DataW.insert []).Perm l := by
 induction l with
 | nil => exact List.Perm.refl _
 | cons x l ih => exact (insert_perm x _).trans (ih.cons x)
theorem key_reads {s : ByteArray} (hs : s.size ≤ maxLen) : Go.keyOf Tryz.prog 9 (.string s) = some (.string s.data.toList) := by
 simp [Go.keyOf, mapKey, Tryz.underlying9, hs]
theorem rel_reads {F : Nat → Prop} {w : World} : ∀ {es : List MapEntry} {l : FS}, Rel2 (EntryOk F w) es l → (∀ p ∈ l, p.1.size ≤ maxLen) → es.map (WideElems.rg Tryz.prog 9 anyV) = l.map (fun p => (Lit.string p.1.data.toList, DataW.nil)) ∧ ∀ x ∈ es, ∃ y, WideElems.rd Tryz.prog 9 anyV x = some y
 | [], [], _, _ => ⟨rfl, fun x hx => by simp at hx⟩
 | e :: es, p :: l, h, hs => by
  obtain ⟨h1, h2⟩ := rel_reads h.2 (fun q hq => hs q (List.mem_cons_of_mem _ hq))
  have hk := key_reads (hs p (List.mem_cons_self ..))
  have hr : WideElems.rd Tryz.prog 9 anyV e = some (Lit.string p.1.data.toList, DataW.nil) := by
   unfold WideElems.rd
   rw [h.1.1, hk]; rfl
  refine ⟨?_, fun x hx => ?_⟩
  ·rw [List.map_cons, List.map_cons, h1]
   unfold WideElems.rg
   rw [hr]; rfl
  ·rcases List.mem_cons.1 hx with rfl | hx
   ·exact ⟨_, hr⟩
   ·exact h2 x hx
 | [], _ :: _, h, _ => h.elim
 | _ :: _, [], h, _ => h.elim
theorem MapFs.owns {F : Nat → Prop} {w : World} {b : Nat} {fs : FS} (h : MapFs F w b fs) (hs : ∀ p ∈ fs, p.1.size ≤ maxLen) (hl : fs.length ≤ maxLen) :
  ∃ D0 : DataW Unit, w.ownsMap Tryz.prog 9 anyV b fs.length D0 ∧ Maps.size D0 = fs.length ∧ (strKeys D0).Perm (fs.map (fun p => p.1.data.toList)) := by
 obtain ⟨es, clock, l, hb, hst, hr, hp⟩ := h
 have hz : es.size = fs.length := by rw [← hp.length_eq, ← hr.length, Array.length_toList]
 obtain ⟨h1, h2⟩ := rel_reads hr (fun p hp' => hs p (hp.mem_iff.1 hp'))
 refine ⟨_, ⟨es, clock, hb, ⟨by omega, hst, h2⟩, by omega, rfl⟩, ?_, ?_⟩
 ·have := (foldr_perm (es.toList.map (WideElems.rg Tryz.prog 9 anyV))).length_eq
  rw [Maps.size_eq, this, List.length_map, Array.length_toList, hz]
 ·have hq := (foldr_perm (es.toList.map (WideElems.rg Tryz.prog 9 anyV))).map (fun p => strOf p.1)
  refine List.Perm.trans hq ?_
  rw [h1, List.map_map]
  exact hp.map _
theorem sorted_names {fs : FS} (hs : FSorted fs) {ss : List (List UInt8)} (hp : ss.Perm (fs.map (fun p => p.1.data.toList))) : (ss.mergeSort leB).map encStr = fs.map (fun p => Value.string p.1) := by
 have tr : ∀ a b c : List UInt8, leB a b = true → leB b c = true → leB a c = true := fun a b c h1 h2 => by simp only [leB, decide_eq_true_eq] at *; exact List.le_trans h1 h2
 have to : ∀ a b : List UInt8, (leB a b || leB b a) = true := fun a b => by simp only [leB, Bool.or_eq_true, decide_eq_true_eq]; exact List.le_total a b
 have hpw : (fs.map (fun p => p.1.data.toList)).Pairwise (fun a b => leB a b = true) := by
  rw [List.pairwise_map]
  refine List.Pairwise.imp (fun {x y} hxy => ?_) hs
  unfold blt at hxy
  rw [bytesLess_eq, decide_eq_true_eq, ByteArray.toList_eq, ByteArray.toList_eq] at hxy
  simp only [leB, decide_eq_true_eq]
  exact List.le_of_lt hxy
 have he : ss.mergeSort leB = fs.map (fun p => p.1.data.toList) := by
  refine List.Perm.eq_of_pairwise (le := fun a b => leB a b = true) (fun a b _ _ h1 h2 => ?_) (List.pairwise_mergeSort tr to ss) hpw ((List.mergeSort_perm ss leB).trans hp)
  simp only [leB, decide_eq_true_eq] at h1 h2
  exact List.le_antisymm h1 h2
 rw [he, List.map_map]
 rfl
theorem row_base1 {w : World} {base base' e n : Nat} {v : Value} {xs : List Value} (h : w.ownsRow base e 1 v n xs) (hb : base' ≤ base) : w.ownsRow base' e 1 v n xs := by
 obtain ⟨h1, h2⟩ := h
 refine ⟨h1, h2.imp id ?_⟩
 rintro ⟨g, cap, cur, rfl, hg, h3⟩
 exact ⟨g, cap, cur, rfl, by omega, h3⟩
theorem keys_runs (mb : Option Nat) (W : World) : Runs 149 #[.map mb] W (.func (.func 184) #[] #[.pointer (some ⟨W.heap.size, 0, none⟩)]) (W.alloc (.cells #[.map mb] 132)) := by
 refine (callsIn_wide.1 (kmaps_Keys_F mb W)).mono ?_
 rintro e w' ⟨rfl, rfl⟩
 exact ⟨rfl, rfl⟩
def NamesPost (w : World) (fs : FS) (e : Ending) (w' : World) : Prop := ∃ v, e = .returned v ∧ w'.ownsRow w.heap.size 9 1 v fs.length (fs.map (fun p => Value.string p.1)) ∧ Keeps (fun _ => False) w w'
theorem sorted_calls {F : Nat → Prop} {w : World} {b : Nat} {fs : FS} (h : MapFs F w b fs) (hs : FSorted fs) (hn : ∀ p ∈ fs, p.1.size ≤ maxLen) (hl : fs.length ≤ 1099511627776) :
  Calls Tryz.prog 123 #[.func (.func 184) #[] #[.pointer (some ⟨w.heap.size, 0, none⟩)]] (w.alloc (.cells #[.map (some b)] 132)) (NamesPost w fs) := by
 obtain ⟨D0, h1, h2, h3⟩ := h.owns hn (by unfold maxLen; omega)
 refine (callsIn_wide.1 (kslices_Sorted_keys_F b fs.length D0 anyV w h1 (by rw [h2]; unfold maxLen; omega) (by rw [h2]; omega))).mono ?_
 rintro e w' ⟨v, ss, rfl, hS, hrow, _, hbl⟩
 have hlen : ss.length = fs.length := by have := (hS.trans h3).length_eq; simpa using this
 rw [sorted_names hs (hS.trans h3), hlen] at hrow
 have hb2 : Keeps (fun _ => False) (w.alloc (.cells #[.map (some b)] 132)) w' := ⟨hbl.os, hbl.tape, hbl.output, hbl.size, fun k hk _ => hbl.block k hk⟩
 exact ⟨v, rfl, row_base1 hrow (by simp), ((Keeps.refl _ w).alloc _).trans hb2 (fun _ _ e => e)⟩
end Go.Proofs.YtlcnhpjggjgnpaaGreatDoor
namespace Go.Proofs.YtlcnhpjggjgnpaaGreatDoor
set_option linter.unusedVariables false
open Go.RowKit Go.MapKept
def beginsB (s hd : ByteArray) : Bool := decide ((hd.size : Int) ≤ (s.size : Int)) && ((s.extract 0 hd.size).toList == hd.toList)
set_option maxRecDepth 100000 in
theorem rbegins_runs (s hd : ByteArray) (w : World) : Runs 74 #[.string s, .string hd] w (.bool (beginsB s hd)) w := by
 unfold Runs beginsB
 have h0 : (0 : Int) ≤ (hd.size : Int) := by omega
 by_cases hh : (hd.size : Int) ≤ (s.size : Int)
 ·rw [decide_eq_true hh, Bool.true_and]
  go_enter Tryz.func74, Tryz.ntmps74
  go_wp2_with fail
  go_ret
  exact ⟨rfl, rfl⟩
 ·rw [decide_eq_false hh, Bool.false_and]
  have hh' : decide ((hd.size : Int) ≤ (s.size : Int)) = false := decide_eq_false hh
  go_enter Tryz.func74, Tryz.ntmps74
  go_wp2_with fail
  go_ret
  exact ⟨rfl, rfl⟩
def namesOf (fs : FS) (hd : ByteArray) : List ByteArray := (fs.filter (fun p => beginsB p.1 hd)).map (·.1)
theorem namesOf_step {l : FS} {hd : ByteArray} {k : Nat} {p : ByteArray × List UInt8} (hp : l[k]? = some p) {out : List ByteArray} (h : namesOf l hd = out ++ namesOf (l.drop k) hd) :
  namesOf l hd = (if beginsB p.1 hd then out ++ [p.1] else out) ++ namesOf (l.drop (k + 1)) hd := by
 obtain ⟨hk, rfl⟩ := List.getElem?_eq_some_iff.1 hp
 rw [h, List.drop_eq_getElem_cons hk]
 unfold namesOf
 rw [List.filter_cons]
 split <;> simp
theorem info_string : (Tryz.prog.info? 9).map (fun i => (i.zero, i.size, i.bytes)) = some (some (.string ⟨#[]⟩), 1, 16) := by kernel_rfl
def StrsAt (base : Nat) (w : World) (v : Value) (l : List ByteArray) : Prop := w.ownsRow base 9 1 v l.length (l.map Value.string)
theorem StrsAt.nil (base : Nat) (w : World) : StrsAt base w (.slice none 0 0) [] := ⟨rfl, .inl ⟨rfl, rfl⟩⟩
theorem StrsAt.keep {base : Nat} {w w' : World} {v : Value} {l : List ByteArray} (h : StrsAt base w v l) (hk : Keeps (fun _ => False) w w') : StrsAt base w' v l := rrow_keep h (fun b hb => hk.block b (h.lt b hb).2 (fun e => e))
theorem StrsAt.form {base : Nat} {w : World} {v : Value} {l : List ByteArray} (h : StrsAt base w v l) : ∃ a c, v = .slice a l.length c := ownsRow_slice h
theorem StrsAt.cell {base : Nat} {w : World} {a : Option Addr} {n c : Nat} {l : List ByteArray} (h : StrsAt base w (.slice a n c) l) {i : Nat} {s : ByteArray} (hs : l[i]? = some s) : ∃ g, a = some ⟨g, 0, none⟩ ∧ w.cell? ⟨g, i, none⟩ = some (.string s) ∧ n ≤ c ∧ base ≤ g := by
 have hl := (List.getElem?_eq_some_iff.1 hs).1
 rcases h.2 with ⟨e, e2⟩ | ⟨g, cap, cur, e, hg, hb, h3, _⟩
 ·omega
 ·simp only [Value.slice.injEq] at e
  obtain ⟨rfl, rfl, rfl⟩ := e
  refine ⟨g, rfl, ?_, h3, hg⟩
  have := World.ownsRow.cells h (g := g) rfl i (.string s) (by rw [List.getElem?_map, hs]; rfl)
  simpa [Addr.add_lit] using this
theorem StrsAt.push {base : Nat} {w : World} {v : Value} {l : List ByteArray} (h : StrsAt base w v l) (hz : base ≤ w.heap.size) (s : ByteArray) (hb : l.length < 1099511627776) :
  ∃ a c w', (Builtin.append_ #[150, 150] 150 #[v, .slice (some ⟨w.heap.size, 0, none⟩) 1 1]).run Tryz.prog (w.alloc (.cells #[.string s] 9)) = .ok (.slice a (l.length + 1) c) w' ∧ StrsAt base w' (.slice a (l.length + 1) c) (l ++ [s]) ∧
   Keeps (fun b => v.ownBlock = some b) w w' ∧ ∀ b, v.ownBlock = some b → base ≤ b := by
 have hlt := World.ownsRow.lt h
 obtain ⟨i0, hi, hz0, hz1, hz2⟩ := info_parts info_string
 obtain ⟨v', w', hrun, ho2, hg, _, hat⟩ := run_append_own_at (P := Tryz.prog) (w.alloc (.cells #[.string s] 9)) base 150 150 9 i0 _ 1 16 Tryz.underlying150 hi hz0 hz1 hz2 rfl (by omega) v l.length (l.map Value.string) (World.ownsRow.alloc h _) ⟨w.heap.size, 0, none⟩ 1 1 [.string s] rfl
  (fun j u hu => by
   rw [Addr.add_lit, Nat.zero_add]
   exact cell_at (heap_alloc_new w _) (by simpa using hu))
  (by intro u hu; simp at hu; subst hu; rfl) (by unfold maxLen; omega) (by omega) (by simp only [World.size_alloc]; omega)
 obtain ⟨a, c, rfl⟩ := ownsRow_slice ho2
 refine ⟨a, c, w', hrun, ?_, ((Keeps.refl _ w).alloc _).trans (Keeps.of_grown hg) (fun _ _ h => h), fun b hb => (hlt b hb).1⟩
 unfold StrsAt
 rw [List.length_append, List.map_append]
 exact ho2
theorem names_down {w : World} {d : Nat} (hd : ByteArray) (hup : Runs 76 #[.pointer (some ⟨d, 0, none⟩)] w (.int .i64 5) w) : Runs 99 #[.pointer (some ⟨d, 0, none⟩), .string hd] w (.tuple #[.slice none 0 0, .int .i64 5]) w := by
 unfold Runs
 go_enter Tryz.func99, Tryz.ntmps99
 go_wp2_with (first | (go_at_call 76; refine hup.out.mono ?_; rintro e w' ⟨rfl, rfl⟩))
 go_ret2
 exact ⟨rfl, rfl⟩
def ToldPost (w : World) (l : List ByteArray) (k : Int) (e : Ending) (w' : World) : Prop := ∃ v, e = .returned (.tuple #[v, .int .i64 k]) ∧ StrsAt w.heap.size w' v l ∧ Keeps (fun _ => False) w w'
set_option maxRecDepth 100000 in
set_option maxHeartbeats 1000000 in
theorem names_calls {F : Nat → Prop} {w : World} {d : Nat} {m : DM} (h : DiskIs F w d m) (hd : ByteArray) (hdn : m.down = false) (hs : FSorted m.now) (hn : ∀ p ∈ m.now, p.1.size ≤ maxLen) (hl : m.now.length ≤ 1099511627775) :
  Calls Tryz.prog 99 #[.pointer (some ⟨d, 0, none⟩), .string hd] w (ToldPost w (namesOf m.now hd) 0) := by
 have hup := up_runs h
 rw [show upOf m = 0 by unfold upOf; rw [hdn]; rfl] at hup
 obtain ⟨bn, bs, vl, h⟩ := h
 have c1 := h.cells.c1
 have hsc := sorted_calls h.now hs hn (by omega)
 have HSC := Lib.hid hsc
 clear h hs hsc
 go_enter Tryz.func99, Tryz.ntmps99
 go_wp2_with (first | (go_at_call 76; refine hup.out.mono ?_; rintro e w' ⟨rfl, rfl⟩))
 refine (keys_runs (some bn) w).out.mono ?_
 rintro e w' ⟨rfl, rfl⟩
 go_wp2_with fail
 refine HSC.out.mono ?_
 rintro e w1 ⟨v1, rfl, ho1, hk1⟩
 obtain ⟨a1, k1, rfl⟩ := ownsRow_slice ho1
 go_wp2_with fail
 have i1 : (m.now.length : Int) ≤ 1099511627775 := by omega
 have i2 : (0 : Int) ≤ (hd.size : Int) := by omega
 have HO1 := Lib.hid ho1
 have HK1 := Lib.hid hk1
 clear ho1 hk1 HSC hn hup c1
 go_loopw [7, 22] (fun ov i wx => ∃ (k : Nat) (out : List ByteArray), k ≤ m.now.length ∧ i = .int .i64 (k : Int) ∧ out.length ≤ k ∧ namesOf m.now hd = out ++ namesOf (m.now.drop k) hd ∧ StrsAt w1.heap.size wx ov out ∧ Keeps (fun _ => False) w1 wx) (fun _ i _ => m.now.length - (intOf i).toNat)
 case atStart => exact ⟨0, [], Nat.zero_le _, rfl, Nat.le_refl _, by simp, StrsAt.nil _ _, Keeps.refl _ _⟩
 case round =>
  obtain ⟨k, out, hk, rfl, hlen, hinv, ho, hq⟩ := hrel
  have j0 : (0 : Int) ≤ k := by omega
  obtain ⟨oa, oc, rfl⟩ := ho.form
  by_cases hlt : k < m.now.length
  ·obtain ⟨f, hf⟩ : ∃ f, m.now[k]? = some f := ⟨m.now[k], List.getElem?_eq_getElem hlt⟩
   have hst : StrsAt w.heap.size w1 (.slice a1 m.now.length k1) (m.now.map (·.1)) := by
    have := HO1.out
    unfold StrsAt
    rw [List.map_map, List.length_map]
    exact this
   obtain ⟨g, rfl, hc, hle, _⟩ := (hst.keep hq).cell (i := k) (s := f.1) (by rw [List.getElem?_map, hf]; rfl)
   have hstep := namesOf_step hf hinv
   have j1 : (k : Int) < m.now.length := by omega
   clear hst
   by_cases hbg : beginsB f.1 hd = true
   ·rw [if_pos hbg] at hstep
    obtain ⟨b1, b2⟩ : decide ((hd.size : Int) ≤ (f.1.size : Int)) = true ∧ ((f.1.extract 0 hd.size).toList == hd.toList) = true := by unfold beginsB at hbg; exact Bool.and_eq_true_iff.1 hbg
    have b1' : (hd.size : Int) ≤ (f.1.size : Int) := of_decide_eq_true b1
    obtain ⟨a2, c2, w2, hrun, ho2, hk2, hbase⟩ := ho.push hq.size f.1 (by omega)
    have hq2 := hq.trans hk2 (fun b hb e => by have := hbase b e; omega)
    have HRUN := Lib.hid hrun
    have HREL := Lib.hid (⟨k + 1, out ++ [f.1], by omega, rfl, by simp; omega, hstep, by rw [show (out ++ [f.1]).length = out.length + 1 by simp]; exact ho2, hq2⟩ : ∃ (k' : Nat) (out' : List ByteArray), k' ≤ m.now.length ∧ Value.int .i64 ((k + 1 : Nat) : Int) = .int .i64 (k' : Int) ∧ out'.length ≤ k' ∧ namesOf m.now hd = out' ++ namesOf (m.now.drop k') hd ∧ StrsAt w1.heap.size w2 (.slice a2 ((out ++ [f.1]).length) c2) out' ∧ Keeps (fun _ => False) w1 w2)
    clear hstep hinv ho hq hf hrun ho2 hk2 hq2 hbase hbg
    go_wp2_with (at_builtin; (first | (refine wpList_append_run (w := wr.alloc (.cells #[.string f.1] 9)) rfl _ _ _ _ rfl rfl rfl HRUN.out ?_)))
    go_roundw
    case rel => have h := HREL.out; simp only [List.length_append, List.length_cons, List.length_nil, Nat.zero_add] at h; exact h
    case measure => simp [intOf]; omega
   ·rw [if_neg hbg] at hstep
    have HREL := Lib.hid (⟨k + 1, out, by omega, rfl, by omega, hstep, ho, hq⟩ : ∃ (k' : Nat) (out' : List ByteArray), k' ≤ m.now.length ∧ Value.int .i64 ((k + 1 : Nat) : Int) = .int .i64 (k' : Int) ∧ out'.length ≤ k' ∧ namesOf m.now hd = out' ++ namesOf (m.now.drop k') hd ∧ StrsAt w1.heap.size wr (.slice oa out.length oc) out' ∧ Keeps (fun _ => False) w1 wr)
    by_cases b1 : (hd.size : Int) ≤ (f.1.size : Int)
    ·have b2 : ((f.1.extract 0 hd.size).toList == hd.toList) = false := by
      unfold beginsB at hbg
      rw [decide_eq_true b1, Bool.true_and] at hbg
      exact Bool.eq_false_iff.2 hbg
     clear hstep hinv ho hq hf hbg
     go_wp2_with fail
     go_roundw
     case rel => exact HREL.out
     case measure => simp [intOf]; omega
    ·have b1' : decide ((hd.size : Int) ≤ (f.1.size : Int)) = false := decide_eq_false b1
     clear hstep hinv ho hq hf hbg
     go_wp2_with fail
     go_roundw
     case rel => exact HREL.out
     case measure => simp [intOf]; omega
  ·obtain rfl : k = m.now.length := by omega
   rw [List.drop_length] at hinv
   have hinv : namesOf m.now hd = out := by simpa [namesOf] using hinv
   have hfin : ToldPost w (namesOf m.now hd) 0 (.returned (.tuple #[.slice oa out.length oc, .int .i64 0])) wr := by
    rw [hinv]
    have hz := HK1.out.size
    exact ⟨_, rfl, ownsRow_base0 ho (by omega), HK1.out.trans hq (fun _ _ e => e)⟩
   have HFIN := Lib.hid hfin
   clear hfin hinv ho hq
   go_wp2_with fail
   go_ret2
   exact HFIN.out
theorem clone_owns {w : World} {v : Value} {l : List UInt8} (h : Reads w v l) (hl : l.length ≤ 140737488355328) :
  ∃ v' w', Runs 111 #[v] w v' w' ∧ Owns w' w.heap.size v' l ∧ Keeps (fun _ => False) w w' := by
 obtain ⟨a, c, rfl, h1, h2⟩ := h.form
 cases a with
 | none =>
  rcases h with ⟨e, rfl⟩ | ⟨x, c', e, _⟩
  ·simp only [Value.slice.injEq] at e
   obtain ⟨_, _, rfl⟩ := e
   exact ⟨_, _, clone_nil w, Owns.nil _ _, Keeps.refl _ _⟩
  ·cases e
 | some a =>
  have ho0 : Owns (w.alloc (.cells #[] 5)) w.heap.size (.slice (some ⟨w.heap.size, 0, none⟩) 0 0) [] :=
   ⟨rfl, .inr ⟨w.heap.size, 0, #[], rfl, Nat.le_refl _, heap_alloc_new w _, Nat.le_refl _, Nat.zero_le _, rfl, rfl⟩⟩
  have hk : Reads (w.alloc (.cells #[] 5)) (.slice (some a) l.length c) l := h.keep ((Keeps.refl _ w).alloc _)
  obtain ⟨v', w1, hrun, hB, hk1⟩ := ho0.grow (by simp) hk (by simpa using hl)
  refine ⟨v', w1, clone_raw w w1 a _ c v' hrun, by simpa using hB, ((Keeps.refl _ w).alloc _).trans hk1 (fun b hb e => ?_)⟩
  simp only [Value.ownBlock, Option.some.injEq] at e
  omega
theorem read_owns {F : Nat → Prop} {w : World} {d : Nat} {m : DM} (h : DiskIs F w d m) (n : ByteArray) (at_ k : Int) (hlen : ((fget m.now n).getD []).length ≤ 140737488355328) :
  ∃ v w', Runs 55 #[.pointer (some ⟨d, 0, none⟩), .string n, .int .i64 at_, .int .i64 k] w (.tuple #[v, .int .i64 (readCode m n at_ k)]) w' ∧ Owns w' w.heap.size v (readBytes m n at_ k) ∧ Keeps (fun _ => False) w w' := by
 have hth := there_runs h n
 unfold readCode readBytes
 by_cases ht : thereOf m n = 0
 ·simp only [ht, if_true]
  rw [ht] at hth
  by_cases hneg : at_ < 0 ∨ k < 0
  ·simp only [hneg, if_true]
   exact ⟨_, _, read_neg w d n at_ k hth hneg, Owns.nil _ _, Keeps.refl _ _⟩
  ·simp only [hneg, if_false]
   obtain ⟨bn, bs, vl, h⟩ := h
   obtain ⟨v, hB, _, hlook⟩ := look_now h.now n
   have hl := hlook false
   simp only [Bool.false_eq_true, if_false] at hl
   generalize (fget m.now n).getD [] = l at *
   obtain ⟨va, vc, rfl, h1, h2⟩ := hB.form
   unfold maxLen at h2
   by_cases hc : vc = (if (l.length : Int) < at_ then (l.length : Int) else at_).toNat
   ·have hvl : vc = l.length := by split at hc <;> omega
    subst hvl
    obtain ⟨v2, w2, hr, hB2, hk2⟩ := clone_owns hB.none_of.reads (by simp)
    refine ⟨v2, w2, read_raw0 w w2 d bn n at_ k va l.length v2 hth h.cells.c1 hl (by omega) (by omega) (by split <;> omega) (by split <;> omega) (by omega) hr, ?_, hk2⟩
    have : pieceOf l at_ k = [] := by
     unfold pieceOf
     rw [List.drop_of_length_le (by split at hc <;> omega)]; simp
    rw [this]; exact hB2
   ·have hcl : ∀ i : Nat, i = (if (l.length : Int) < at_ then (l.length : Int) else at_).toNat → i ≤ l.length := by intro i hi; split at hi <;> omega
    obtain ⟨i, hi⟩ : ∃ i : Nat, i = (if (l.length : Int) < at_ then (l.length : Int) else at_).toNat := ⟨_, rfl⟩
    have hil := hcl i hi
    rw [← hi] at hc
    obtain ⟨j, hj⟩ : ∃ j : Nat, j = (if ((l.length - i : Nat) : Int) < k then ((l.length - i : Nat) : Int) else k).toNat := ⟨_, rfl⟩
    have hjl : i + j ≤ l.length := by split at hj <;> omega
    obtain ⟨v2, w2, hr, hB2, hk2⟩ := clone_owns (hB.from i j hjl hc).reads (by simp; omega)
    refine ⟨v2, w2, read_raw w w2 d bn n at_ k i j va l.length vc v2 hth h.cells.c1 hl (by omega) (by omega) (by split at hi <;> (split <;> omega)) (by split at hj <;> (split <;> omega)) (by omega) (by omega) (by omega) (by omega) (by omega) hc hr, ?_, hk2⟩
    have : pieceOf l at_ k = (l.drop i).take j := by
     unfold pieceOf
     by_cases h3 : (l.length : Int) < at_
     ·rw [if_pos h3] at hi
      rw [List.drop_of_length_le (by omega : l.length ≤ at_.toNat), List.drop_of_length_le (by omega : l.length ≤ i)]; simp
     ·rw [if_neg h3] at hi
      rw [← hi]
      by_cases h4 : ((l.length - i : Nat) : Int) < k
      ·rw [if_pos h4] at hj
       rw [List.take_of_length_le (by simp; omega), List.take_of_length_le (by simp; omega)]
      ·rw [if_neg h4] at hj
       rw [← hj]
    rw [this]; exact hB2
 ·simp only [ht, if_false]
  exact ⟨_, _, read_bad w d n at_ k _ hth (by simpa using ht), Owns.nil _ _, Keeps.refl _ _⟩
theorem Own.readOwn {w wr : World} {d : Nat} {m : DM} {rs : List (Res w.heap.size)} (h : Own w wr (rDisk w.heap.size d m :: rs)) (n : ByteArray) (at_ k : Int) (hlen : ((fget m.now n).getD []).length ≤ 140737488355328) :
  ∃ a c w', Runs 55 #[.pointer (some ⟨d, 0, none⟩), .string n, .int .i64 at_, .int .i64 k] wr (.tuple #[.slice a (readBytes m n at_ k).length c, .int .i64 (readCode m n at_ k)]) w' ∧ Own w w' (rBytes w.heap.size (.slice a (readBytes m n at_ k).length c) (readBytes m n at_ k) :: rDisk w.heap.size d m :: rs) ∧ Keeps (fun _ => False) wr w' := by
 obtain ⟨F, h1, _⟩ := h.disk
 obtain ⟨v, w', hr, ho, hk⟩ := read_owns h1 n at_ k hlen
 obtain ⟨a, c, rfl, _, _⟩ := ho.bytes.form
 exact ⟨a, c, w', hr, h.addBytes ho hk, hk⟩
end Go.Proofs.YtlcnhpjggjgnpaaGreatDoor
