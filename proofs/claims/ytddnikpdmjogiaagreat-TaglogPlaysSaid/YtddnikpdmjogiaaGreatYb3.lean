/- A part of the proof. -/
import Derived.Test.YtddnikpdmjogiaaGreatYa5
import Derived.Test.YtddnikpdmjogiaaGreatYa7
import Derived.Test.YtddnikpdmjogiaaGreatYa9
import Derived.Test.YtddnikpdmjogiaaGreatYb2
import Derived.Sort.Walk0
import Derived.Laws.BitsAllLaws
namespace Go.Proofs.YtddnikpdmjogiaaGreat
set_option linter.unusedVariables false
open Go.RowKit Go.MapKept Go.Maps
def anyV : Value → Option (DataW Unit × List MemPlace) := fun _ => some (.nil, [])
theorem insert_perm (x : Lit × DataW Unit) : ∀ l : List (Lit × DataW Unit), (DataW.insert x l).Perm (x :: l)
 | [] => List.Perm.refl _
 | y :: r => by
  unfold DataW.insert
  split
  ·exact List.Perm.refl _
  ·exact (List.Perm.cons y (insert_perm x r)).trans (List.Perm.swap x y r)
theorem foldr_perm (l : List (Lit × DataW Unit)) : (l.foldr DataW.insert []).Perm l := by
 induction l with
 | nil => exact List.Perm.refl _
 | cons x l ih => exact (insert_perm x _).trans (ih.cons x)
theorem key_reads {s : ByteArray} (hs : s.size ≤ maxLen) : keyOf Tryz.prog 9 (.string s) = some (.string s.data.toList) := by
 simp [keyOf, mapKey, Tryz.underlying9, hs]
theorem rel_reads {F : Nat → Prop} {w : World} : ∀ {es : List MapEntry} {l : FS}, Rel2 (EntryOk F w) es l → (∀ p ∈ l, p.1.size ≤ maxLen) → es.map (WideElems.rg Tryz.prog 9 anyV) = l.map (fun p => (Lit.string p.1.data.toList, DataW.nil)) ∧ ∀ x ∈ es, ∃ y, WideElems.rd Tryz.prog 9 anyV x = some y
 | [], [], _, _ => ⟨rfl, fun x hx => by simp at hx⟩
 | e :: es, p :: l, h, hs => by
  obtain ⟨h1, h2⟩ := rel_reads h.2 (fun q hq => hs q (List.mem_cons_of_mem _ hq))
  have hk := key_reads (hs p (List.mem_cons_self ..))
  have hr : WideElems.rd Tryz.prog 9 anyV e = some (Lit.string p.1.data.toList, DataW.nil) := by
   unfold WideElems.rd
   rw [h.1.1, hk]; rfl
  refine ⟨?_, fun x hx => ?_⟩
  ·rw [List.map_cons, List.map_cons, h1]
   unfold WideElems.rg
   rw [hr]; rfl
  ·rcases List.mem_cons.1 hx with rfl | hx
   ·exact ⟨_, hr⟩
   ·exact h2 x hx
 | [], _ :: _, h, _ => h.elim
 | _ :: _, [], h, _ => h.elim
theorem MapFs.owns {F : Nat → Prop} {w : World} {b : Nat} {fs : FS} (h : MapFs F w b fs) (hs : ∀ p ∈ fs, p.1.size ≤ maxLen) (hl : fs.length ≤ maxLen) :
  ∃ D0 : DataW Unit, w.ownsMap Tryz.prog 9 anyV b fs.length D0 ∧ Maps.size D0 = fs.length ∧ (strKeys D0).Perm (fs.map (fun p => p.1.data.toList)) := by
 obtain ⟨es, clock, l, hb, hst, hr, hp⟩ := h
 have hz : es.size = fs.length := by rw [← hp.length_eq, ← hr.length, Array.length_toList]
 obtain ⟨h1, h2⟩ := rel_reads hr (fun p hp' => hs p (hp.mem_iff.1 hp'))
 refine ⟨_, ⟨es, clock, hb, ⟨by omega, hst, h2⟩, by omega, rfl⟩, ?_, ?_⟩
 ·have := (foldr_perm (es.toList.map (WideElems.rg Tryz.prog 9 anyV))).length_eq
  rw [Maps.size_eq, this, List.length_map, Array.length_toList, hz]
 ·have hq := (foldr_perm (es.toList.map (WideElems.rg Tryz.prog 9 anyV))).map (fun p => strOf p.1)
  refine List.Perm.trans hq ?_
  rw [h1, List.map_map]
  exact hp.map _
theorem sorted_names {fs : FS} (hs : FSorted fs) {ss : List (List UInt8)} (hp : ss.Perm (fs.map (fun p => p.1.data.toList))) : (ss.mergeSort leB).map encStr = fs.map (fun p => Value.string p.1) := by
 have tr : ∀ a b c : List UInt8, leB a b = true → leB b c = true → leB a c = true := fun a b c h1 h2 => by simp only [leB, decide_eq_true_eq] at *; exact List.le_trans h1 h2
 have to : ∀ a b : List UInt8, (leB a b || leB b a) = true := fun a b => by simp only [leB, Bool.or_eq_true, decide_eq_true_eq]; exact List.le_total a b
 have hpw : (fs.map (fun p => p.1.data.toList)).Pairwise (fun a b => leB a b = true) := by
  rw [List.pairwise_map]
  refine List.Pairwise.imp (fun {x y} hxy => ?_) hs
  unfold blt at hxy
  rw [bytesLess_eq, decide_eq_true_eq, ByteArray.toList_eq, ByteArray.toList_eq] at hxy
  simp only [leB, decide_eq_true_eq]
  exact List.le_of_lt hxy
 have he : ss.mergeSort leB = fs.map (fun p => p.1.data.toList) := by
  refine List.Perm.eq_of_pairwise (le := fun a b => leB a b = true) (fun a b _ _ h1 h2 => ?_) (List.pairwise_mergeSort tr to ss) hpw ((List.mergeSort_perm ss leB).trans hp)
  simp only [leB, decide_eq_true_eq] at h1 h2
  exact List.le_antisymm h1 h2
 rw [he, List.map_map]
 rfl
theorem row_base1 {w : World} {base base' e n : Nat} {v : Value} {xs : List Value} (h : w.ownsRow base e 1 v n xs) (hb : base' ≤ base) : w.ownsRow base' e 1 v n xs := by
 obtain ⟨h1, h2⟩ := h
 refine ⟨h1, h2.imp id ?_⟩
 rintro ⟨g, cap, cur, rfl, hg, h3⟩
 exact ⟨g, cap, cur, rfl, by omega, h3⟩
theorem keys_runs (mb : Option Nat) (W : World) : Runs 124 #[.map mb] W (.func (.func 150) #[] #[.pointer (some ⟨W.heap.size, 0, none⟩)]) (W.alloc (.cells #[.map mb] 77)) := by
 refine (callsIn_wide.1 (kmaps_Keys_F mb W)).mono ?_
 rintro e w' ⟨rfl, rfl⟩
 exact ⟨rfl, rfl⟩
def NamesPost (w : World) (fs : FS) (e : Ending) (w' : World) : Prop := ∃ v, e = .returned v ∧ w'.ownsRow w.heap.size 9 1 v fs.length (fs.map (fun p => Value.string p.1)) ∧ Keeps (fun _ => False) w w'
theorem sorted_calls {F : Nat → Prop} {w : World} {b : Nat} {fs : FS} (h : MapFs F w b fs) (hs : FSorted fs) (hn : ∀ p ∈ fs, p.1.size ≤ maxLen) (hl : fs.length ≤ 1099511627776) :
  Calls Tryz.prog 103 #[.func (.func 150) #[] #[.pointer (some ⟨w.heap.size, 0, none⟩)]] (w.alloc (.cells #[.map (some b)] 77)) (NamesPost w fs) := by
 obtain ⟨D0, h1, h2, h3⟩ := h.owns hn (by unfold maxLen; omega)
 refine (callsIn_wide.1 (kslices_Sorted_keys_F b fs.length D0 anyV w h1 (by rw [h2]; unfold maxLen; omega) (by rw [h2]; omega))).mono ?_
 rintro e w' ⟨v, ss, rfl, hS, hrow, _, hbl⟩
 have hlen : ss.length = fs.length := by have := (hS.trans h3).length_eq; simpa using this
 rw [sorted_names hs (hS.trans h3), hlen] at hrow
 have hb2 : Keeps (fun _ => False) (w.alloc (.cells #[.map (some b)] 77)) w' := ⟨hbl.os, hbl.tape, hbl.output, hbl.size, fun k hk _ => hbl.block k hk⟩
 exact ⟨v, rfl, row_base1 hrow (by simp), ((Keeps.refl _ w).alloc _).trans hb2 (fun _ _ e => e)⟩
end Go.Proofs.YtddnikpdmjogiaaGreat
namespace Go.Proofs.YtddnikpdmjogiaaGreat
set_option linter.unusedVariables false
open Go.RowKit Go.MapKept
def beginsB (s hd : ByteArray) : Bool := decide ((hd.size : Int) ≤ (s.size : Int)) && ((s.extract 0 hd.size).toList == hd.toList)
set_option maxRecDepth 100000 in
theorem rbegins_runs (s hd : ByteArray) (w : World) : Runs 55 #[.string s, .string hd] w (.bool (beginsB s hd)) w := by
 unfold Runs beginsB
 have h0 : (0 : Int) ≤ (hd.size : Int) := by omega
 by_cases hh : (hd.size : Int) ≤ (s.size : Int)
 ·rw [decide_eq_true hh, Bool.true_and]
  go_enter Tryz.func55, Tryz.ntmps55
  go_wp2_with fail
  go_ret
  exact ⟨rfl, rfl⟩
 ·rw [decide_eq_false hh, Bool.false_and]
  have hh' : decide ((hd.size : Int) ≤ (s.size : Int)) = false := decide_eq_false hh
  go_enter Tryz.func55, Tryz.ntmps55
  go_wp2_with fail
  go_ret
  exact ⟨rfl, rfl⟩
def namesOf (fs : FS) (hd : ByteArray) : List ByteArray := (fs.filter (fun p => beginsB p.1 hd)).map (·.1)
theorem namesOf_step {l : FS} {hd : ByteArray} {k : Nat} {p : ByteArray × List UInt8} (hp : l[k]? = some p) {out : List ByteArray} (h : namesOf l hd = out ++ namesOf (l.drop k) hd) :
  namesOf l hd = (if beginsB p.1 hd then out ++ [p.1] else out) ++ namesOf (l.drop (k + 1)) hd := by
 obtain ⟨hk, rfl⟩ := List.getElem?_eq_some_iff.1 hp
 rw [h, List.drop_eq_getElem_cons hk]
 unfold namesOf
 rw [List.filter_cons]
 split <;> simp
theorem info_string : (Tryz.prog.info? 9).map (fun i => (i.zero, i.size, i.bytes)) = some (some (.string ⟨#[]⟩), 1, 16) := by kernel_rfl
def StrsAt (base : Nat) (w : World) (v : Value) (l : List ByteArray) : Prop := w.ownsRow base 9 1 v l.length (l.map Value.string)
theorem StrsAt.nil (base : Nat) (w : World) : StrsAt base w (.slice none 0 0) [] := ⟨rfl, .inl ⟨rfl, rfl⟩⟩
theorem StrsAt.keep {base : Nat} {w w' : World} {v : Value} {l : List ByteArray} (h : StrsAt base w v l) (hk : Keeps (fun _ => False) w w') : StrsAt base w' v l := rrow_keep h (fun b hb => hk.block b (h.lt b hb).2 (fun e => e))
theorem StrsAt.form {base : Nat} {w : World} {v : Value} {l : List ByteArray} (h : StrsAt base w v l) : ∃ a c, v = .slice a l.length c := ownsRow_slice h
theorem StrsAt.cell {base : Nat} {w : World} {a : Option Addr} {n c : Nat} {l : List ByteArray} (h : StrsAt base w (.slice a n c) l) {i : Nat} {s : ByteArray} (hs : l[i]? = some s) : ∃ g, a = some ⟨g, 0, none⟩ ∧ w.cell? ⟨g, i, none⟩ = some (.string s) ∧ n ≤ c ∧ base ≤ g := by
 have hl := (List.getElem?_eq_some_iff.1 hs).1
 rcases h.2 with ⟨e, e2⟩ | ⟨g, cap, cur, e, hg, hb, h3, _⟩
 ·omega
 ·simp only [Value.slice.injEq] at e
  obtain ⟨rfl, rfl, rfl⟩ := e
  refine ⟨g, rfl, ?_, h3, hg⟩
  have := World.ownsRow.cells h (g := g) rfl i (.string s) (by rw [List.getElem?_map, hs]; rfl)
  simpa [Addr.add_lit] using this
theorem StrsAt.push {base : Nat} {w : World} {v : Value} {l : List ByteArray} (h : StrsAt base w v l) (hz : base ≤ w.heap.size) (s : ByteArray) (hb : l.length < 1099511627776) :
  ∃ a c w', (Builtin.append_ #[118, 118] 118 #[v, .slice (some ⟨w.heap.size, 0, none⟩) 1 1]).run Tryz.prog (w.alloc (.cells #[.string s] 9)) = .ok (.slice a (l.length + 1) c) w' ∧ StrsAt base w' (.slice a (l.length + 1) c) (l ++ [s]) ∧
   Keeps (fun b => v.ownBlock = some b) w w' ∧ ∀ b, v.ownBlock = some b → base ≤ b := by
 have hlt := World.ownsRow.lt h
 obtain ⟨i0, hi, hz0, hz1, hz2⟩ := info_parts info_string
 obtain ⟨v', w', hrun, ho2, hg, _, hat⟩ := run_append_own_at (P := Tryz.prog) (w.alloc (.cells #[.string s] 9)) base 118 118 9 i0 _ 1 16 Tryz.underlying118 hi hz0 hz1 hz2 rfl (by omega) v l.length (l.map Value.string) (World.ownsRow.alloc h _) ⟨w.heap.size, 0, none⟩ 1 1 [.string s] rfl
  (fun j u hu => by
   rw [Addr.add_lit, Nat.zero_add]
   exact cell_at (heap_alloc_new w _) (by simpa using hu))
  (by intro u hu; simp at hu; subst hu; rfl) (by unfold maxLen; omega) (by omega) (by simp only [World.size_alloc]; omega)
 obtain ⟨a, c, rfl⟩ := ownsRow_slice ho2
 refine ⟨a, c, w', hrun, ?_, ((Keeps.refl _ w).alloc _).trans (Keeps.of_grown hg) (fun _ _ h => h), fun b hb => (hlt b hb).1⟩
 unfold StrsAt
 rw [List.length_append, List.map_append]
 exact ho2
theorem names_down {w : World} {d : Nat} (hd : ByteArray) (hup : Runs 115 #[.pointer (some ⟨d, 0, none⟩)] w (.int .i64 5) w) : Runs 73 #[.pointer (some ⟨d, 0, none⟩), .string hd] w (.tuple #[.slice none 0 0, .int .i64 5]) w := by
 unfold Runs
 go_enter Tryz.func73, Tryz.ntmps73
 go_wp2_with (first | (go_at_call 115; refine hup.out.mono ?_; rintro e w' ⟨rfl, rfl⟩))
 go_ret2
 exact ⟨rfl, rfl⟩
def ToldPost (w : World) (l : List ByteArray) (k : Int) (e : Ending) (w' : World) : Prop := ∃ v, e = .returned (.tuple #[v, .int .i64 k]) ∧ StrsAt w.heap.size w' v l ∧ Keeps (fun _ => False) w w'
set_option maxRecDepth 100000 in
set_option maxHeartbeats 1000000 in
theorem names_calls {F : Nat → Prop} {w : World} {d : Nat} {m : DM} (h : DiskIs F w d m) (hd : ByteArray) (hdn : m.down = false) (hs : FSorted m.now) (hn : ∀ p ∈ m.now, p.1.size ≤ maxLen) (hl : m.now.length ≤ 1099511627775) :
  Calls Tryz.prog 73 #[.pointer (some ⟨d, 0, none⟩), .string hd] w (ToldPost w (namesOf m.now hd) 0) := by
 have hup := up_runs h
 rw [show upOf m = 0 by unfold upOf; rw [hdn]; rfl] at hup
 obtain ⟨bn, bs, vl, h⟩ := h
 have c1 := h.cells.c1
 have hsc := sorted_calls h.now hs hn (by omega)
 have HSC := hyd hsc
 clear h hs hsc
 go_enter Tryz.func73, Tryz.ntmps73
 go_wp2_with (first | (go_at_call 115; refine hup.out.mono ?_; rintro e w' ⟨rfl, rfl⟩))
 refine (keys_runs (some bn) w).out.mono ?_
 rintro e w' ⟨rfl, rfl⟩
 go_wp2_with fail
 refine HSC.out.mono ?_
 rintro e w1 ⟨v1, rfl, ho1, hk1⟩
 obtain ⟨a1, k1, rfl⟩ := ownsRow_slice ho1
 go_wp2_with fail
 have i1 : (m.now.length : Int) ≤ 1099511627775 := by omega
 have i2 : (0 : Int) ≤ (hd.size : Int) := by omega
 have HO1 := hyd ho1
 have HK1 := hyd hk1
 clear ho1 hk1 HSC hn hup c1
 go_loopw [7, 22] (fun ov i wx => ∃ (k : Nat) (out : List ByteArray), k ≤ m.now.length ∧ i = .int .i64 (k : Int) ∧ out.length ≤ k ∧ namesOf m.now hd = out ++ namesOf (m.now.drop k) hd ∧ StrsAt w1.heap.size wx ov out ∧ Keeps (fun _ => False) w1 wx) (fun _ i _ => m.now.length - (intOf i).toNat)
 case atStart => exact ⟨0, [], Nat.zero_le _, rfl, Nat.le_refl _, by simp, StrsAt.nil _ _, Keeps.refl _ _⟩
 case round =>
  obtain ⟨k, out, hk, rfl, hlen, hinv, ho, hq⟩ := hrel
  have j0 : (0 : Int) ≤ k := by omega
  obtain ⟨oa, oc, rfl⟩ := ho.form
  by_cases hlt : k < m.now.length
  ·obtain ⟨f, hf⟩ : ∃ f, m.now[k]? = some f := ⟨m.now[k], List.getElem?_eq_getElem hlt⟩
   have hst : StrsAt w.heap.size w1 (.slice a1 m.now.length k1) (m.now.map (·.1)) := by
    have := HO1.out
    unfold StrsAt
    rw [List.map_map, List.length_map]
    exact this
   obtain ⟨g, rfl, hc, hle, _⟩ := (hst.keep hq).cell (i := k) (s := f.1) (by rw [List.getElem?_map, hf]; rfl)
   have hstep := namesOf_step hf hinv
   have j1 : (k : Int) < m.now.length := by omega
   clear hst
   by_cases hbg : beginsB f.1 hd = true
   ·rw [if_pos hbg] at hstep
    obtain ⟨b1, b2⟩ : decide ((hd.size : Int) ≤ (f.1.size : Int)) = true ∧ ((f.1.extract 0 hd.size).toList == hd.toList) = true := by unfold beginsB at hbg; exact Bool.and_eq_true_iff.1 hbg
    have b1' : (hd.size : Int) ≤ (f.1.size : Int) := of_decide_eq_true b1
    obtain ⟨a2, c2, w2, hrun, ho2, hk2, hbase⟩ := ho.push hq.size f.1 (by omega)
    have hq2 := hq.trans hk2 (fun b hb e => by have := hbase b e; omega)
    have HRUN := hyd hrun
    have HREL := hyd (⟨k + 1, out ++ [f.1], by omega, rfl, by simp; omega, hstep, by rw [show (out ++ [f.1]).length = out.length + 1 by simp]; exact ho2, hq2⟩ : ∃ (k' : Nat) (out' : List ByteArray), k' ≤ m.now.length ∧ Value.int .i64 ((k + 1 : Nat) : Int) = .int .i64 (k' : Int) ∧ out'.length ≤ k' ∧ namesOf m.now hd = out' ++ namesOf (m.now.drop k') hd ∧ StrsAt w1.heap.size w2 (.slice a2 ((out ++ [f.1]).length) c2) out' ∧ Keeps (fun _ => False) w1 w2)
    clear hstep hinv ho hq hf hrun ho2 hk2 hq2 hbase hbg
    go_wp2_with (at_builtin; (first | (refine wpList_append_run (w := wr.alloc (.cells #[.string f.1] 9)) rfl _ _ _ _ rfl rfl rfl HRUN.out ?_)))
    go_roundw
    case rel => have h := HREL.out; simp only [List.length_append, List.length_cons, List.length_nil, Nat.zero_add] at h; exact h
    case measure => simp [intOf]; omega
   ·rw [if_neg hbg] at hstep
    have HREL := hyd (⟨k + 1, out, by omega, rfl, by omega, hstep, ho, hq⟩ : ∃ (k' : Nat) (out' : List ByteArray), k' ≤ m.now.length ∧ Value.int .i64 ((k + 1 : Nat) : Int) = .int .i64 (k' : Int) ∧ out'.length ≤ k' ∧ namesOf m.now hd = out' ++ namesOf (m.now.drop k') hd ∧ StrsAt w1.heap.size wr (.slice oa out.length oc) out' ∧ Keeps (fun _ => False) w1 wr)
    by_cases b1 : (hd.size : Int) ≤ (f.1.size : Int)
    ·have b2 : ((f.1.extract 0 hd.size).toList == hd.toList) = false := by
      unfold beginsB at hbg
      rw [decide_eq_true b1, Bool.true_and] at hbg
      exact Bool.eq_false_iff.2 hbg
     clear hstep hinv ho hq hf hbg
     go_wp2_with fail
     go_roundw
     case rel => exact HREL.out
     case measure => simp [intOf]; omega
    ·have b1' : decide ((hd.size : Int) ≤ (f.1.size : Int)) = false := decide_eq_false b1
     clear hstep hinv ho hq hf hbg
     go_wp2_with fail
     go_roundw
     case rel => exact HREL.out
     case measure => simp [intOf]; omega
  ·obtain rfl : k = m.now.length := by omega
   rw [List.drop_length] at hinv
   have hinv : namesOf m.now hd = out := by simpa [namesOf] using hinv
   have hfin : ToldPost w (namesOf m.now hd) 0 (.returned (.tuple #[.slice oa out.length oc, .int .i64 0])) wr := by
    rw [hinv]
    have hz := HK1.out.size
    exact ⟨_, rfl, ownsRow_base0 ho (by omega), HK1.out.trans hq (fun _ _ e => e)⟩
   have HFIN := hyd hfin
   clear hfin hinv ho hq
   go_wp2_with fail
   go_ret2
   exact HFIN.out
theorem Own.rsync {w wr : World} {r : Nat} {m : DM} {rs : List (Res w.heap.size)} (h : Own w wr (rRef w.heap.size r m :: rs)) {n t : Nat} (ht : Tidy m n t) :
  ∃ w', Runs 40 #[.pointer (some ⟨r, 0, none⟩)] wr (.int .i64 (syncOf m).1) w' ∧ Own w w' (rRef w.heap.size r (syncOf m).2 :: rs) := by
 obtain ⟨F, h1, h2, back⟩ := h.open1
 obtain ⟨w', hr, h3, h4⟩ := rsync_runs (h1 : RefIs F wr r m) ht.good.now ht.good.fuse
 obtain ⟨vn, vs, vl, h3⟩ := h3
 exact ⟨w', hr, back w' (rRef _ r (syncOf m).2) h4 ⟨vn, vs, vl, h3.quiet (Keeps.refl _ _) (fun b hb _ => .inl hb) (fun b hb => by rcases hb with hb | hb; exact h3.lt b hb; exact hb.2)⟩⟩
theorem Own.rcrash {w wr : World} {r : Nat} {m : DM} {rs : List (Res w.heap.size)} (h : Own w wr (rRef w.heap.size r m :: rs)) {n t : Nat} (ht : Tidy m n t) (htt : t < 549755813888) (keep part : Int) :
  Calls Tryz.prog 64 #[.pointer (some ⟨r, 0, none⟩), .int .i64 keep, .int .i64 part] wr (fun e w' => e = .returned (.tuple #[]) ∧ Own w w' (rRef w.heap.size r (crashOf m keep part) :: rs)) := by
 obtain ⟨F, h1, h2, back⟩ := h.open1
 refine (rcrash_calls (h1 : RefIs F wr r m) ht htt keep part).mono ?_
 rintro e w' ⟨he, h3, h4⟩
 exact ⟨he, back w' (rRef _ r (crashOf m keep part)) h4 h3⟩
theorem begins_empty (s : ByteArray) : beginsB s ⟨#[]⟩ = true := by
 unfold beginsB
 have : (⟨#[]⟩ : ByteArray).size = 0 := rfl
 rw [this]
 have e : s.extract 0 0 = ⟨#[]⟩ := by simp; rfl
 rw [e]
 simp
theorem namesOf_empty (fs : FS) : namesOf fs ⟨#[]⟩ = fs.map (·.1) := by
 unfold namesOf
 rw [List.filter_eq_self.2 (fun p _ => begins_empty p.1)]
set_option maxRecDepth 100000 in
set_option maxHeartbeats 2000000 in
theorem is_calls {w0 w : World} {d r : Nat} {m : DM} {rs : List (Res w0.heap.size)} (ho : Own w0 w (rDisk w0.heap.size d m :: rRef w0.heap.size r m :: rs)) {n t : Nat} (ht : Tidy m n t) (htt : t < 549755813888) :
  Calls Tryz.prog 23 #[.pointer (some ⟨d, 0, none⟩), .pointer (some ⟨r, 0, none⟩)] w (QuietP w (.bool true)) := by
 obtain ⟨Fd, hdi, _⟩ := ho.disk
 obtain ⟨F, vn, vs, vl, href⟩ := ho.ref (r := r) (m := m) (by simp)
 obtain ⟨na, nc, rfl, hnc, _⟩ := href.now.form
 obtain ⟨la, lc, rfl⟩ := href.loose.form
 have r1 := href.cells.c1
 have r3 := href.cells.c3
 have r5 := href.cells.c5
 have hdown := down_runs (hdi.keep (w' := w.drew) (fun _ _ => rfl))
 have hkd : Keeps (fun _ => False) w w.drew := (Keeps.refl _ w).drew
 have hloose := fun w1 (hk : Keeps (fun _ => False) w.drew w1) => loose_runs (hdi.keeps (hkd.trans hk (fun _ _ e => e)) (fun _ _ e => e))
 have hun := ht.good.unow
 have hr1 := ht.good.room1
 have hused := used_calls (hdi.keep (w' := w.drew) (fun _ _ => rfl)) (by omega)
 have hrused := fun w1 (hk : Keeps (fun _ => False) w.drew w1) => rused_runs (href.now.quiet (hkd.trans hk (fun _ _ e => e)) (G := F) (fun _ h _ => h)) (by have := ht.lnow; omega) (by omega)
 have hck := fun w1 (hk : Keeps (fun _ => False) w.drew w1) => (href.quiet (hkd.trans hk (fun _ _ e => e)) (G := F) (fun _ h _ => h) (fun b hb => by have := href.lt b hb; have := hk.size; simp only [drew_size] at this; omega)).cells
 have hck2 := fun w1 (hk : Keeps (fun _ => False) w.drew w1) => (⟨(hck w1 hk).c1, (hck w1 hk).c3, (hck w1 hk).c5⟩ : w1.cell? ⟨r, 1, none⟩ = some (.slice na m.now.length nc) ∧ w1.cell? ⟨r, 3, none⟩ = some (.slice la m.loose.length lc) ∧ w1.cell? ⟨r, 5, none⟩ = some (.bool m.down))
 have HCK := hyd hck2
 clear hck hck2
 have HL := hyd hloose
 have HU := hyd hused
 have HRU := hyd hrused
 have HDI := hyd hdi
 have HREF := hyd href
 have HT := hyd ht
 clear hloose hused hrused hdi href ho ht
 go_enter Tryz.func23, Tryz.ntmps23
 go_wp2_with fail
 go_region_held3 (fun w' => w'.cell? ⟨r, 1, none⟩ = some (.slice na m.now.length nc) ∧ w'.cell? ⟨r, 3, none⟩ = some (.slice la m.loose.length lc) ∧ w'.cell? ⟨r, 5, none⟩ = some (.bool m.down)) (first | exact ⟨r1, r3, r5⟩ | exact HCK.out _ hk1 | go_keep) (first | (go_at_call 69; refine hdown.out.mono ?_; rintro e w' ⟨rfl, rfl⟩) | (go_at_call 70; refine HU.out.mono ?_; rintro e w1 ⟨rfl, hk1⟩) | (go_at_call 71; refine (HRU.out _ hk1).out.mono ?_; rintro e w' ⟨rfl, rfl⟩) | (go_at_call 72; refine (HL.out _ hk1).out.mono ?_; rintro e w' ⟨rfl, rfl⟩))
 go_wp2_with fail
 have hk01 : Keeps (fun _ => False) w w1 := hkd.trans hk1 (fun _ _ e => e)
 have hd1 := HDI.out.keeps hk01 (fun _ _ e => e)
 have hlt1 : ∀ b, F b → b < w1.heap.size := fun b hb => by have := HREF.out.lt b hb; have := hk01.size; omega
 have h1 := HREF.out.quiet hk01 (G := F) (fun _ h _ => h) hlt1
 obtain ⟨q1, q3, q5⟩ := HCK.out _ hk1
 clear r1 r3 r5 HCK HL HU HRU hk1 hkd hdown HDI HREF
 cases hdn : m.down with
 | true =>
  have hup := up_runs hd1
  rw [show upOf m = 5 by unfold upOf; rw [hdn]; rfl] at hup
  have hnm := names_down ⟨#[]⟩ hup
  rw [hdn] at q5
  have HK := hyd hk01
  clear hd1 h1 hup hk01
  refine hnm.out.mono ?_
  rintro e w' ⟨rfl, rfl⟩
  go_wp2_with fail
  go_ret
  exact ⟨rfl, HK.out⟩
 | false =>
  rw [hdn] at q5
  have hnm := names_calls hd1 ⟨#[]⟩ hdn HT.out.snow (fun p hp => by have := HT.out.names p hp; unfold maxLen; omega) (by have := HT.out.lnow; omega)
  rw [namesOf_empty] at hnm
  refine hnm.mono ?_
  rintro e w2 ⟨v2, rfl, hs2, k2⟩
  obtain ⟨a2, c2, rfl⟩ := hs2.form
  rw [List.length_map]
  have hk02 : Keeps (fun _ => False) w w2 := hk01.trans k2 (fun _ _ e => e)
  have hd2 := hd1.keeps k2 (fun _ _ e => e)
  have hlt2 : ∀ b, F b → b < w2.heap.size := fun b hb => by have := hlt1 b hb; have := k2.size; omega
  have h2 := h1.quiet k2 (G := F) (fun _ h _ => h) hlt2
  have q1 := h2.cells.c1
  have q5 := h2.cells.c5
  rw [hdn] at q5
  have i1 : (m.now.length : Int) ≤ 549755813888 := by have := HT.out.lnow; omega
  have H2 := hyd h2
  have HD2 := hyd hd2
  have HS2 := hyd hs2
  have HK02 := hyd hk02
  clear hd1 h1 hnm hk01 hk02 hd2 h2 hs2 k2
  go_wp2_with fail
  clear q1 q5
  go_loopw [73] (fun i wx => ∃ (k : Nat), k ≤ m.now.length ∧ i = .int .i64 (k : Int) ∧ Keeps (fun _ => False) w2 wx) (fun i _ => m.now.length - (intOf i).toNat)
  case atStart => exact ⟨0, Nat.zero_le _, rfl, Keeps.refl _ _⟩
  case round =>
   obtain ⟨k, hk, rfl, hq⟩ := hrel
   have j0 : (0 : Int) ≤ k := by omega
   by_cases hlt : k < m.now.length
   ·obtain ⟨f, hf⟩ : ∃ f, m.now[k]? = some f := ⟨m.now[k], List.getElem?_eq_getElem hlt⟩
    have j1 : (k : Int) < m.now.length := by omega
    obtain ⟨g, cap', p, e, hc1, hc2, hB⟩ := (H2.out.now.quiet hq (G := F) (fun _ h _ => h)).cell hf
    simp only [Value.slice.injEq] at e
    obtain ⟨rfl, -, rfl⟩ := e
    obtain ⟨pa, pc, rfl, _, _⟩ := hB.form
    obtain ⟨g2, rfl, hl1, hl2, _⟩ := (HS2.out.keep hq).cell (i := k) (s := f.1) (by rw [List.getElem?_map, hf]; rfl)
    obtain ⟨w5, hw5⟩ : ∃ w5, w5 = wr.alloc (.cells #[.string f.1, .slice pa f.2.length pc] 148) := ⟨_, rfl⟩
    have hk5 : Keeps (fun _ => False) wr w5 := by rw [hw5]; exact (Keeps.refl _ wr).alloc _
    have hb5 : w5.heap[wr.heap.size]? = some (.cells #[.string f.1, .slice pa f.2.length pc] 148 (0, 0)) := by rw [hw5]; exact heap_alloc_new _ _
    have g5 : w5.cell? ⟨wr.heap.size, 0, none⟩ = some (.string f.1) := cell_at hb5 rfl
    have hq5 := hq.trans hk5 (fun _ _ e => e)
    have hd5 := HD2.out.keeps hq5 (fun _ _ e => e)
    have hg : fget m.now f.1 = some f.2 := fget_mem HT.out.good.nnow (List.mem_of_getElem? hf)
    have hth : thereOf m f.1 = 0 := by simp [thereOf, hdn, hg]
    have hsz := size_runs hd5 f.1
    rw [show sizeCode m f.1 = (f.2.length : Int) by simp [sizeCode, hth, hg], hth] at hsz
    have hgl := HT.out.good.get f.1
    obtain ⟨v6, w6, hrd, hB6, hk6⟩ := read_runs hd5 f.1 0 (f.2.length : Int) (by omega)
    rw [show readCode m f.1 0 (f.2.length : Int) = 0 by unfold readCode; rw [if_pos hth, if_neg (by omega)]] at hrd
    rw [show readBytes m f.1 0 (f.2.length : Int) = f.2 by unfold readBytes; rw [if_pos hth, if_neg (by omega), hg]; simp [pieceOf]] at hB6
    obtain ⟨a6, c6, rfl, _, _⟩ := hB6.form
    have hb6 := hk6.at hb5 (fun e => e)
    have g60 : w6.cell? ⟨wr.heap.size, 0, none⟩ = some (.string f.1) := cell_at hb6 rfl
    have g61 : w6.cell? ⟨wr.heap.size, 1, none⟩ = some (.slice pa f.2.length pc) := cell_at hb6 rfl
    have hk56 := hk5.trans hk6 (fun _ _ e => e)
    have hl6 : w6.cell? ⟨g2, k, none⟩ = some (.string f.1) := (World.cell?_of_block (hk56.block _ (World.block_lt_of_cell? wr _ hl1) (fun e => e))).trans hl1
    have hsm := same_calls (w := w6.drew) (hB6.reads.keep (Keeps.refl _ w6).drew) ((hB.reads.keep hk56).keep (Keeps.refl _ w6).drew)
    rw [decide_eq_true rfl] at hsm
    have HSM := hyd hsm
    have HQ6 := hyd (hq.trans hk56 (fun _ _ e => e))
    have hcc : ∀ w7, Keeps (fun _ => False) w6.drew w7 → w7.cell? ⟨g2, k, none⟩ = some (.string f.1) ∧ w7.cell? ⟨wr.heap.size, 0, none⟩ = some (.string f.1) ∧ w7.cell? ⟨wr.heap.size, 1, none⟩ = some (.slice pa f.2.length pc) := fun w7 hk7 =>
     ⟨(World.cell?_of_block (hk7.undrew.block _ (World.block_lt_of_cell? w6 _ hl6) (fun e => e))).trans hl6, cell_at (hk7.undrew.at hb6 (fun e => e)) rfl, cell_at (hk7.undrew.at hb6 (fun e => e)) rfl⟩
    have HCC := hyd hcc
    clear hq hB hk5 hb5 hq5 hd5 hg hth hgl hB6 hk6 hb6 hk56 hsm hcc hf H2 HD2 HS2
    go_wp2_with fail
    rw [← hw5]
    clear hw5
    refine hsz.out.mono ?_
    rintro e w' ⟨rfl, rfl⟩
    go_wp2_with fail
    refine hrd.out.mono ?_
    rintro e w' ⟨rfl, rfl⟩
    go_wp2_with fail
    go_region_held3 (fun w' => w'.cell? ⟨g2, k, none⟩ = some (.string f.1) ∧ w'.cell? ⟨wr.heap.size, 0, none⟩ = some (.string f.1) ∧ w'.cell? ⟨wr.heap.size, 1, none⟩ = some (.slice pa f.2.length pc)) (first | exact ⟨hl6, g60, g61⟩ | exact HCC.out _ hk7 | go_keep) (first | (go_at_call 49; refine HSM.out.mono ?_; rintro e w7 ⟨rfl, hk7⟩))
    have HQ7 := hyd (HQ6.out.trans hk7.undrew (fun _ _ e => e))
    clear hk7
    go_wp2_with fail
    go_roundw
    case rel => exact ⟨k + 1, by omega, rfl, HQ7.out⟩
    case measure => simp [intOf]; omega
   ·obtain rfl : k = m.now.length := by omega
    have HQ := hyd (HK02.out.trans hq (fun _ _ e => e))
    clear hq H2 HD2 HS2
    go_wp2_with fail
    go_ret
    exact ⟨rfl, HQ.out⟩
def does9 (m : DM) (o : Op9) : DM :=
 if o.kind = 0 then (createOf m o.a).2 else if o.kind = 1 then (appendOf m o.a o.p).2 else if o.kind = 2 then (removeOf m o.a).2 else if o.kind = 3 then (renameOf m o.a o.b).2
 else if o.kind = 4 then (syncOf m).2 else if o.kind = 5 then (fuseOf m o.n).2 else if o.kind = 6 then crashOf m o.n o.m else m
def DoesPost (w0 : World) (d r : Nat) (rs : List (Res w0.heap.size)) (m : DM) (e : Ending) (w' : World) : Prop := e = .returned (.bool true) ∧ Own w0 w' (rDisk w0.heap.size d m :: rRef w0.heap.size r m :: rs)
theorem Own.boxed {w0 w : World} {x y : Res w0.heap.size} {rs : List (Res w0.heap.size)} (h : Own w0 w (x :: y :: rs)) (o : Obj) : Own w0 (w.alloc o) (x :: y :: rObj w0.heap.size w.heap.size o :: rs) :=
 (h.alloc o).perm ((List.Perm.swap ..).trans (List.Perm.cons x (List.Perm.swap ..)))
theorem Own.unbox {w0 w : World} {x y z : Res w0.heap.size} {rs : List (Res w0.heap.size)} (h : Own w0 w (x :: y :: z :: rs)) : Own w0 w (x :: y :: rs) :=
 (h.perm ((List.Perm.cons x (List.Perm.swap ..)).trans (List.Perm.swap ..))).drop
theorem mem2 {α : Type} {x y z : α} {l : List α} : z ∈ x :: y :: z :: l := List.mem_cons_of_mem _ (List.mem_cons_of_mem _ (List.mem_cons_self ..))
theorem op_cells {w : World} {b : Nat} {k : Int} {x y : ByteArray} {pv : Value} {n m : Int} (h : w.heap[b]? = some (.cells #[.int .i64 k, .string x, .string y, pv, .int .i64 n, .int .i64 m] 68 (0, 0))) :
  w.cell? ⟨b, 0, none⟩ = some (.int .i64 k) ∧ w.cell? ⟨b, 1, none⟩ = some (.string x) ∧ w.cell? ⟨b, 2, none⟩ = some (.string y) ∧ w.cell? ⟨b, 3, none⟩ = some pv ∧ w.cell? ⟨b, 4, none⟩ = some (.int .i64 n) ∧ w.cell? ⟨b, 5, none⟩ = some (.int .i64 m) :=
 ⟨cell_at h rfl, cell_at h rfl, cell_at h rfl, cell_at h rfl, cell_at h rfl, cell_at h rfl⟩
theorem Own.rename9 {w wr : World} {d : Nat} {m : DM} {rs : List (Res w.heap.size)} (h : Own w wr (rDisk w.heap.size d m :: rs)) (n k : ByteArray) (hf : m.fuse ≤ 9223372036854775807) (hl : m.loose.length < 1099511627776) :
  ∃ w', Runs 61 #[.pointer (some ⟨d, 0, none⟩), .string n, .string k] wr (.int .i64 (renameOf m n k).1) w' ∧ Own w w' (rDisk w.heap.size d (renameOf m n k).2 :: rs) := by
 obtain ⟨F, h1, back⟩ := h.disk
 obtain ⟨w', hr, h2, kk⟩ := rename_runs h1 n k hf hl
 exact ⟨w', hr, (back _ (.returned (.int .i64 (renameOf m n k).1)) w' ⟨rfl, h2, kk⟩).2⟩
theorem Own.fuse9 {w wr : World} {d : Nat} {m : DM} {rs : List (Res w.heap.size)} (h : Own w wr (rDisk w.heap.size d m :: rs)) (n : Int) :
  ∃ w', Runs 63 #[.pointer (some ⟨d, 0, none⟩), .int .i64 n] wr (.int .i64 (fuseOf m n).1) w' ∧ Own w w' (rDisk w.heap.size d (fuseOf m n).2 :: rs) := by
 obtain ⟨F, h1, back⟩ := h.disk
 obtain ⟨w', hr, h2, k⟩ := fuse_runs h1 n
 exact ⟨w', hr, (back _ (.returned (.int .i64 (fuseOf m n).1)) w' ⟨rfl, h2, k⟩).2⟩
section
variable {w0 w : World} {d r : Nat} {m : DM} {rs : List (Res w0.heap.size)}
set_option maxRecDepth 100000 in
set_option maxHeartbeats 1000000 in
theorem does_k0 (h : Own w0 w (rDisk w0.heap.size d m :: rRef w0.heap.size r m :: rs)) {n t : Nat} (ht : Tidy m n t) (hn : n < 1099511627776) (htt : t < 549755813888) (x y : ByteArray) (pv : Value) (i j : Int) :
  Calls Tryz.prog 22 #[.pointer (some ⟨d, 0, none⟩), .pointer (some ⟨r, 0, none⟩), .agg #[.int .i64 0, .string x, .string y, pv, .int .i64 i, .int .i64 j]] w (DoesPost w0 d r rs (createOf m x).2) := by
 have ho := h.boxed (.cells #[.int .i64 0, .string x, .string y, pv, .int .i64 i, .int .i64 j] 68)
 obtain ⟨wb, hwb⟩ : ∃ wb, wb = w.alloc (.cells #[.int .i64 0, .string x, .string y, pv, .int .i64 i, .int .i64 j] 68) := ⟨_, rfl⟩
 rw [← hwb] at ho
 obtain ⟨b0, b1, b2, b3, b4, b5⟩ := op_cells (ho.at (b := w.heap.size) mem2).1
 obtain ⟨w1, hcr, ho1⟩ := ho.drew.create x ht.good.fuse (ht.good.loose hn)
 obtain ⟨-, c1, c2, -, -, -⟩ := op_cells (ho1.at (b := w.heap.size) mem2).1
 have hst := (ho1.swap).rstep ht hn htt ⟨0, x, ⟨#[]⟩, []⟩ ⟨by simp, by simp⟩ (fun _ => rfl) (pv := .slice none 0 0) (fun _ w' _ _ => reads_nil w')
 rw [step_create] at hst
 simp only at hst
 generalize createOf m x = res at *
 obtain ⟨z, m2⟩ := res
 simp only at *
 have HST := hyd (hst.mono (fun e w2 (hp : ROwn w0 r _ (z, m2) e w2) => (⟨hp.1, hp.2.swap, (op_cells (hp.2.swap.at (b := w.heap.size) mem2).1).2.1, (op_cells (hp.2.swap.at (b := w.heap.size) mem2).1).2.2.1⟩ : e = .returned (.int .i64 z) ∧ Own w0 w2 (rDisk w0.heap.size d m2 :: rRef w0.heap.size r m2 :: rObj w0.heap.size w.heap.size (.cells #[.int .i64 0, .string x, .string y, pv, .int .i64 i, .int .i64 j] 68) :: rs) ∧ w2.cell? ⟨w.heap.size, 1, none⟩ = some (.string x) ∧ w2.cell? ⟨w.heap.size, 2, none⟩ = some (.string y))))
 clear h ht hn htt hst b3 b4 b5
 go_enter Tryz.func22, Tryz.ntmps22
 go_wp2_with fail
 rw [← hwb]
 clear hwb
 go_region_held3 (fun w' => w'.cell? ⟨w.heap.size, 1, none⟩ = some (.string x) ∧ w'.cell? ⟨w.heap.size, 2, none⟩ = some (.string y)) (first | exact ⟨b1, b2⟩ | exact ⟨q1, q2⟩ | exact ⟨c1, c2⟩ | go_keep) (first | (go_at_call 57; refine hcr.out.mono ?_; rintro e w' ⟨rfl, rfl⟩) | (go_at_call 58; refine HST.out.mono ?_; rintro e w2 ⟨rfl, ho2, q1, q2⟩))
 have HO := hyd ho2.unbox
 clear ho2 q1 q2 ho ho1 hcr HST
 go_wp2_with fail
 go_ret
 exact ⟨rfl, HO.out⟩
set_option maxRecDepth 100000 in
set_option maxHeartbeats 1000000 in
theorem does_k2 (h : Own w0 w (rDisk w0.heap.size d m :: rRef w0.heap.size r m :: rs)) {n t : Nat} (ht : Tidy m n t) (hn : n < 1099511627776) (htt : t < 549755813888) (x y : ByteArray) (pv : Value) (i j : Int) :
  Calls Tryz.prog 22 #[.pointer (some ⟨d, 0, none⟩), .pointer (some ⟨r, 0, none⟩), .agg #[.int .i64 2, .string x, .string y, pv, .int .i64 i, .int .i64 j]] w (DoesPost w0 d r rs (removeOf m x).2) := by
 have ho := h.boxed (.cells #[.int .i64 2, .string x, .string y, pv, .int .i64 i, .int .i64 j] 68)
 obtain ⟨wb, hwb⟩ : ∃ wb, wb = w.alloc (.cells #[.int .i64 2, .string x, .string y, pv, .int .i64 i, .int .i64 j] 68) := ⟨_, rfl⟩
 rw [← hwb] at ho
 obtain ⟨b0, b1, b2, b3, b4, b5⟩ := op_cells (ho.at (b := w.heap.size) mem2).1
 obtain ⟨w1, hcr, ho1⟩ := ho.drew.remove x ht.good.fuse (ht.good.loose hn)
 obtain ⟨-, c1, c2, -, -, -⟩ := op_cells (ho1.at (b := w.heap.size) mem2).1
 have hst := (ho1.swap).rstep ht hn htt ⟨2, x, ⟨#[]⟩, []⟩ ⟨by simp, by simp⟩ (fun _ => rfl) (pv := .slice none 0 0) (fun _ w' _ _ => reads_nil w')
 rw [step_remove] at hst
 simp only at hst
 generalize removeOf m x = res at *
 obtain ⟨z, m2⟩ := res
 simp only at *
 have HST := hyd (hst.mono (fun e w2 (hp : ROwn w0 r _ (z, m2) e w2) => (⟨hp.1, hp.2.swap, (op_cells (hp.2.swap.at (b := w.heap.size) mem2).1).2.1, (op_cells (hp.2.swap.at (b := w.heap.size) mem2).1).2.2.1⟩ : e = .returned (.int .i64 z) ∧ Own w0 w2 (rDisk w0.heap.size d m2 :: rRef w0.heap.size r m2 :: rObj w0.heap.size w.heap.size (.cells #[.int .i64 2, .string x, .string y, pv, .int .i64 i, .int .i64 j] 68) :: rs) ∧ w2.cell? ⟨w.heap.size, 1, none⟩ = some (.string x) ∧ w2.cell? ⟨w.heap.size, 2, none⟩ = some (.string y))))
 clear h ht hn htt hst b3 b4 b5
 go_enter Tryz.func22, Tryz.ntmps22
 go_wp2_with fail
 rw [← hwb]
 clear hwb
 go_region_held3 (fun w' => w'.cell? ⟨w.heap.size, 1, none⟩ = some (.string x) ∧ w'.cell? ⟨w.heap.size, 2, none⟩ = some (.string y)) (first | exact ⟨b1, b2⟩ | exact ⟨q1, q2⟩ | exact ⟨c1, c2⟩ | go_keep) (first | (go_at_call 60; refine hcr.out.mono ?_; rintro e w' ⟨rfl, rfl⟩) | (go_at_call 58; refine HST.out.mono ?_; rintro e w2 ⟨rfl, ho2, q1, q2⟩))
 have HO := hyd ho2.unbox
 clear ho2 q1 q2 ho ho1 hcr HST
 go_wp2_with fail
 go_ret
 exact ⟨rfl, HO.out⟩
set_option maxRecDepth 100000 in
set_option maxHeartbeats 1000000 in
theorem does_k3 (h : Own w0 w (rDisk w0.heap.size d m :: rRef w0.heap.size r m :: rs)) {n t : Nat} (ht : Tidy m n t) (hn : n < 1099511627776) (htt : t < 549755813888) (x y : ByteArray) (pv : Value) (i j : Int) :
  Calls Tryz.prog 22 #[.pointer (some ⟨d, 0, none⟩), .pointer (some ⟨r, 0, none⟩), .agg #[.int .i64 3, .string x, .string y, pv, .int .i64 i, .int .i64 j]] w (DoesPost w0 d r rs (renameOf m x y).2) := by
 have ho := h.boxed (.cells #[.int .i64 3, .string x, .string y, pv, .int .i64 i, .int .i64 j] 68)
 obtain ⟨wb, hwb⟩ : ∃ wb, wb = w.alloc (.cells #[.int .i64 3, .string x, .string y, pv, .int .i64 i, .int .i64 j] 68) := ⟨_, rfl⟩
 rw [← hwb] at ho
 obtain ⟨b0, b1, b2, b3, b4, b5⟩ := op_cells (ho.at (b := w.heap.size) mem2).1
 obtain ⟨w1, hcr, ho1⟩ := ho.drew.rename9 x y ht.good.fuse (ht.good.loose hn)
 obtain ⟨-, c1, c2, -, -, -⟩ := op_cells (ho1.at (b := w.heap.size) mem2).1
 have hst := (ho1.swap).rstep ht hn htt ⟨3, x, y, []⟩ ⟨by simp, by simp⟩ (fun _ => rfl) (pv := .slice none 0 0) (fun _ w' _ _ => reads_nil w')
 rw [step_rename] at hst
 simp only at hst
 generalize renameOf m x y = res at *
 obtain ⟨z, m2⟩ := res
 simp only at *
 have HST := hyd (hst.mono (fun e w2 (hp : ROwn w0 r _ (z, m2) e w2) => (⟨hp.1, hp.2.swap, (op_cells (hp.2.swap.at (b := w.heap.size) mem2).1).2.1, (op_cells (hp.2.swap.at (b := w.heap.size) mem2).1).2.2.1⟩ : e = .returned (.int .i64 z) ∧ Own w0 w2 (rDisk w0.heap.size d m2 :: rRef w0.heap.size r m2 :: rObj w0.heap.size w.heap.size (.cells #[.int .i64 3, .string x, .string y, pv, .int .i64 i, .int .i64 j] 68) :: rs) ∧ w2.cell? ⟨w.heap.size, 1, none⟩ = some (.string x) ∧ w2.cell? ⟨w.heap.size, 2, none⟩ = some (.string y))))
 clear h ht hn htt hst b3 b4 b5
 go_enter Tryz.func22, Tryz.ntmps22
 go_wp2_with fail
 rw [← hwb]
 clear hwb
 go_region_held3 (fun w' => w'.cell? ⟨w.heap.size, 1, none⟩ = some (.string x) ∧ w'.cell? ⟨w.heap.size, 2, none⟩ = some (.string y)) (first | exact ⟨b1, b2⟩ | exact ⟨q1, q2⟩ | exact ⟨c1, c2⟩ | go_keep) (first | (go_at_call 61; refine hcr.out.mono ?_; rintro e w' ⟨rfl, rfl⟩) | (go_at_call 58; refine HST.out.mono ?_; rintro e w2 ⟨rfl, ho2, q1, q2⟩))
 have HO := hyd ho2.unbox
 clear ho2 q1 q2 ho ho1 hcr HST
 go_wp2_with fail
 go_ret
 exact ⟨rfl, HO.out⟩
end
theorem Own.rfuse {w wr : World} {r : Nat} {m : DM} {rs : List (Res w.heap.size)} (h : Own w wr (rRef w.heap.size r m :: rs)) (k : Int) :
  wr.cell? ⟨r, 4, none⟩ = some (.int .i64 m.fuse) ∧ wr.cell? ⟨r, 5, none⟩ = some (.bool m.down) ∧ wr.frozen? ⟨r, 4, none⟩ = false ∧ Own w (wr.setCell ⟨r, 4, none⟩ (.int .i64 k)) (rRef w.heap.size r { m with fuse := k } :: rs) := by
 obtain ⟨F, h1, h2, back⟩ := h.open1
 obtain ⟨vn, vs, vl, h1⟩ : RefIs F wr r m := h1
 refine ⟨h1.cells.c4, h1.cells.c5, h1.cells.f0 4, back _ (rRef _ r { m with fuse := k }) ((Keeps.refl F wr).setCell (p := ⟨r, 4, none⟩) (fun _ => h1.fr) _) ⟨vn, vs, vl, ?_⟩⟩
 have hh : RefAt F (wr.setCell ⟨r, 4, none⟩ (.int .i64 k)) r vn vs vl { m with fuse := k } := RefAt.store h1.blk (by rw [heap_setCell_eq h1.blk]; rfl) (fun b hb => Below.heap_setCell _ _ _ _ hb) h1.fr h1.now h1.sure h1.loose h1.lt
 exact hh.quiet (Keeps.refl _ _) (fun b hb _ => .inl hb) (fun b hb => by
  rcases hb with hb | hb
  ·exact hh.lt b hb
  ·exact hb.2)
section
variable {w0 w : World} {d r : Nat} {m : DM} {rs : List (Res w0.heap.size)}
set_option maxRecDepth 100000 in
set_option maxHeartbeats 1000000 in
theorem does_k4 (h : Own w0 w (rDisk w0.heap.size d m :: rRef w0.heap.size r m :: rs)) {n t : Nat} (ht : Tidy m n t) (x y : ByteArray) (pv : Value) (i j : Int) :
  Calls Tryz.prog 22 #[.pointer (some ⟨d, 0, none⟩), .pointer (some ⟨r, 0, none⟩), .agg #[.int .i64 4, .string x, .string y, pv, .int .i64 i, .int .i64 j]] w (DoesPost w0 d r rs (syncOf m).2) := by
 have ho := h.boxed (.cells #[.int .i64 4, .string x, .string y, pv, .int .i64 i, .int .i64 j] 68)
 have hsy := ho.sync ht.good.fuse ht.good.fits1
 have HT := hyd ht
 have HSY := hyd hsy
 clear h ht ho hsy
 go_enter Tryz.func22, Tryz.ntmps22
 go_wp2_with fail
 refine HSY.out.mono ?_
 rintro e w1 ⟨rfl, ho1⟩
 obtain ⟨w2, hr2, ho2⟩ := ho1.swap.rsync HT.out
 have HO := hyd ho2.swap.unbox
 clear ho1 ho2 HSY HT
 generalize (syncOf m).1 = z at *
 go_wp2_with fail
 refine hr2.out.mono ?_
 rintro e w' ⟨rfl, rfl⟩
 go_wp2_with fail
 go_ret
 exact ⟨rfl, HO.out⟩
set_option maxRecDepth 100000 in
set_option maxHeartbeats 1000000 in
theorem does_k6 (h : Own w0 w (rDisk w0.heap.size d m :: rRef w0.heap.size r m :: rs)) {n t : Nat} (ht : Tidy m n t) (htt : t < 549755813888) (x y : ByteArray) (pv : Value) (i j : Int) :
  Calls Tryz.prog 22 #[.pointer (some ⟨d, 0, none⟩), .pointer (some ⟨r, 0, none⟩), .agg #[.int .i64 6, .string x, .string y, pv, .int .i64 i, .int .i64 j]] w (DoesPost w0 d r rs (crashOf m i j)) := by
 have ho := h.boxed (.cells #[.int .i64 6, .string x, .string y, pv, .int .i64 i, .int .i64 j] 68)
 have hrc := ho.swap.rcrash ht htt i j
 have HT := hyd ht
 have HRC := hyd hrc
 clear h ht ho hrc
 go_enter Tryz.func22, Tryz.ntmps22
 go_wp2_with fail
 refine HRC.out.mono ?_
 rintro e w1 ⟨rfl, ho1⟩
 obtain ⟨-, -, -, -, c4, c5⟩ := op_cells (ho1.at (b := w.heap.size) mem2).1
 have hcr := ho1.swap.crash i j HT.out.good.fits
 have HCR := hyd hcr
 clear hcr ho1 HRC HT
 go_wp2_with fail
 refine HCR.out.mono ?_
 rintro e w2 ⟨rfl, ho2⟩
 have HO := hyd ho2.unbox
 clear ho2 HCR
 go_wp2_with fail
 go_ret
 exact ⟨rfl, HO.out⟩
set_option maxRecDepth 100000 in
set_option maxHeartbeats 1000000 in
theorem does_k5 (h : Own w0 w (rDisk w0.heap.size d m :: rRef w0.heap.size r m :: rs)) (x y : ByteArray) (pv : Value) (i j : Int) :
  Calls Tryz.prog 22 #[.pointer (some ⟨d, 0, none⟩), .pointer (some ⟨r, 0, none⟩), .agg #[.int .i64 5, .string x, .string y, pv, .int .i64 i, .int .i64 j]] w (DoesPost w0 d r rs (fuseOf m i).2) := by
 have ho := h.boxed (.cells #[.int .i64 5, .string x, .string y, pv, .int .i64 i, .int .i64 j] 68)
 obtain ⟨wb, hwb⟩ : ∃ wb, wb = w.alloc (.cells #[.int .i64 5, .string x, .string y, pv, .int .i64 i, .int .i64 j] 68) := ⟨_, rfl⟩
 rw [← hwb] at ho
 obtain ⟨b0, b1, b2, b3, b4, b5⟩ := op_cells (ho.at (b := w.heap.size) mem2).1
 obtain ⟨r4, r5, f4, ho2⟩ := ho.swap.rfuse (max i (-1))
 cases hdn : m.down with
 | true =>
  rw [hdn] at r5
  obtain ⟨w1, hf, ho1⟩ := ho.fuse9 i
  rw [show fuseOf m i = (5, m) by unfold fuseOf; rw [hdn]; rfl] at hf ho1 ⊢
  have HO := hyd ho1.unbox
  clear h ho ho1 ho2 b1 b2 b3 b5
  subst hwb
  go_enter Tryz.func22, Tryz.ntmps22
  go_wp2_with fail
  refine hf.out.mono ?_
  rintro e w' ⟨rfl, rfl⟩
  go_wp2_with fail
  go_ret
  exact ⟨rfl, HO.out⟩
 | false =>
  rw [hdn] at r5
  obtain ⟨w1, hf, ho1⟩ := ho2.swap.fuse9 i
  rw [show fuseOf m i = (0, { m with fuse := max i (-1) }) by unfold fuseOf; rw [hdn, if_neg (by simp)]; congr 2; split <;> omega] at hf ho1 ⊢
  obtain ⟨-, -, -, -, c4, -⟩ := op_cells (ho2.swap.at (b := w.heap.size) mem2).1
  have HO := hyd ho1.unbox
  clear h ho ho1 ho2 b1 b2 b3 b5
  subst hwb
  go_enter Tryz.func22, Tryz.ntmps22
  go_wp2_with fail
  refine hf.out.mono ?_
  rintro e w' ⟨rfl, rfl⟩
  go_wp2_with fail
  go_ret
  exact ⟨rfl, HO.out⟩
end
theorem Own.setByte {w wr : World} {rs : List (Res w.heap.size)} {a : Option Addr} {n c : Nat} {l : List UInt8} (h : Own w wr (rBytes w.heap.size (.slice a n c) l :: rs)) {i : Nat} (hi : i < l.length) (b : UInt8) :
  ∃ g, a = some ⟨g, 0, none⟩ ∧ n = l.length ∧ n ≤ c ∧ wr.cell? ⟨g, i, none⟩ = some (.int .u8 (l[i].toNat : Int)) ∧ wr.frozen? ⟨g, i, none⟩ = false ∧ ∀ m : Nat, Own w ({ wr with drawn := m }.setCell ⟨g, i, none⟩ (.int .u8 (b.toNat : Int))) (rBytes w.heap.size (.slice a n c) (l.set i b) :: rs) := by
 obtain ⟨F, h1, h2, back⟩ := h.open1
 have h1' : wr.ownsRow 0 5 1 (.slice a n c) l.length (l.map u8v) := h1.1
 rcases h1'.2 with ⟨_, e⟩ | ⟨g, cap, cur, e, _, hb, h3, _⟩
 ·omega
 ·simp only [Value.slice.injEq] at e
  obtain ⟨rfl, rfl, rfl⟩ := e
  have hc := h1'.cells (g := g) rfl i (u8v l[i]) (by rw [List.getElem?_map, List.getElem?_eq_getElem hi]; rfl)
  refine ⟨g, rfl, rfl, h3, by simpa [Addr.add_lit, u8v] using hc, free_at hb i, fun m => ?_⟩
  have hm : Owns { wr with drawn := m } 0 (.slice (some ⟨g, 0, none⟩) l.length c) l := h1'
  obtain ⟨q1, _, _, q4⟩ := hm.set hi b
  refine back _ (rBytes _ (.slice (some ⟨g, 0, none⟩) l.length c) (l.set i b)) ?_ ⟨q1, fun x hx => ?_⟩
  ·exact ((Keeps.refl (fun x => x = g) wr).drewN m).trans q4 (fun _ _ e => e) |>.mono (fun x _ e => by subst e; exact h1.2 x rfl)
  ·exact .inl (h1.2 x hx)
theorem mem3 {α : Type} {x y z u : α} {l : List α} : u ∈ x :: y :: z :: u :: l := List.mem_cons_of_mem _ mem2
theorem old_reads {w0 wr : World} {pv : Value} {p : List UInt8} (hp : Reads w0 pv p) (hk : Keeps (fun _ => False) w0 wr) (F : Nat → Prop) (w' : World) (hF : ∀ b, F b → w0.heap.size ≤ b ∧ b < wr.heap.size) (hk2 : Keeps F wr w') : Reads w' pv p :=
 hp.same (fun b hb => (hk2.block b (Nat.lt_of_lt_of_le hb hk.size) (fun e => by have := (hF b e).1; omega)).trans (hk.block b hb (fun e => e)))
section
variable {w0 w : World} {d r : Nat} {m : DM} {rs : List (Res w0.heap.size)}
set_option maxRecDepth 100000 in
set_option maxHeartbeats 2000000 in
theorem does_k1 (h : Own w0 w (rDisk w0.heap.size d m :: rRef w0.heap.size r m :: rs)) {n t : Nat} (ht : Tidy m n t) (hn : n < 1099511627776) (htt : t < 549755813888) (x y : ByteArray) {pv : Value} {p : List UInt8} (hp : Reads w0 pv p) (hpl : p.length ≤ 140737488355328) (i j : Int) :
  Calls Tryz.prog 22 #[.pointer (some ⟨d, 0, none⟩), .pointer (some ⟨r, 0, none⟩), .agg #[.int .i64 1, .string x, .string y, pv, .int .i64 i, .int .i64 j]] w (DoesPost w0 d r rs (appendOf m x p).2) := by
 obtain ⟨pa, pc, rfl, _, _⟩ := hp.form
 have ho := h.boxed (.cells #[.int .i64 1, .string x, .string y, .slice pa p.length pc, .int .i64 i, .int .i64 j] 68)
 have htw := twin_calls (hp.keep ho.keeps) hpl
 have HT := hyd ht
 have HP := hyd hp
 have HO := hyd ho
 clear h ht hp ho
 go_enter Tryz.func22, Tryz.ntmps22
 go_wp2_with fail
 refine htw.mono ?_
 rintro e w1 ⟨v1, rfl, hw1, hk1⟩
 obtain ⟨a1, c1, rfl, hpc1, hcm1⟩ := hw1.bytes.form
 have hob := (HO.out.addBytes hw1 hk1).swap
 obtain ⟨-, b1, -, b3, -, -⟩ := op_cells (hob.at (b := w.heap.size) mem3).1
 have hap := hob.append x hw1.bytes.reads HT.out.good.room0 HT.out.good.room1 HT.out.good.unow HT.out.good.fuse (HT.out.good.loose hn)
 have HAP := hyd hap
 clear hob hap hw1 hk1 HO htw
 have hsa := step_append m x p
 have htd := HT.out.step ⟨1, x, ⟨#[]⟩, p⟩ ⟨by simp, by simp⟩ (fun e => absurd rfl e) (fun _ => Nat.zero_le _)
 generalize appendOf m x p = res at *
 obtain ⟨z, m2⟩ := res
 have HSA := hyd hsa
 clear hsa htd
 go_wp2_with fail
 refine HAP.out.mono ?_
 rintro e w2 ⟨rfl, ho2⟩
 have HO2 := hyd ho2
 clear ho2 HAP
 simp only
 go_wp2_with fail
 clear b1 b3
 go_loopw [41] (fun iv wx => ∃ (k : Nat) (l' : List UInt8), k ≤ p.length ∧ iv = .int .i64 (k : Int) ∧ l'.length = p.length ∧ Own w0 wx (rBytes w0.heap.size (.slice a1 p.length c1) l' :: rDisk w0.heap.size d m2 :: rRef w0.heap.size r m :: rObj w0.heap.size w.heap.size (.cells #[.int .i64 1, .string x, .string y, .slice pa p.length pc, .int .i64 i, .int .i64 j] 68) :: rs)) (fun iv _ => p.length - (intOf iv).toNat)
 case atStart => exact ⟨0, p, Nat.zero_le _, rfl, rfl, HO2.out.swap⟩
 case round =>
  obtain ⟨k, l', hk, rfl, hl', ho⟩ := hrel
  have j0 : (0 : Int) ≤ k := by omega
  have i9 : (p.length : Int) ≤ 140737488355328 := by omega
  by_cases hkl : k < p.length
  ·have j1 : (k : Int) < p.length := by omega
   have hkl' : k < l'.length := by omega
   obtain ⟨g, e, _, hnc, hcq, hfq, hst⟩ := ho.setByte hkl' (l'[k] ^^^ 255)
   subst e
   replace hst := hst wr.drawn
   have hlen2 : (l'.set k (l'[k] ^^^ 255)).length = p.length := by rw [List.length_set]; exact hl'
   have e1 : bits .xor .u8 (l'[k].toNat : Int) 255 = ((l'[k] ^^^ 255).toNat : Int) := by
    rw [UInt8.toNat_xor]; exact u8_xor_nat _ 255 (UInt8.toNat_lt _) (by omega)
   have hby := l'[k].toNat_lt
   have HST := hyd (⟨k + 1, _, by omega, rfl, hlen2, hst⟩ : ∃ (k2 : Nat) (l2 : List UInt8), k2 ≤ p.length ∧ Value.int .i64 ((k + 1 : Nat) : Int) = .int .i64 (k2 : Int) ∧ l2.length = p.length ∧ Own w0 (World.setCell wr ⟨g, k, none⟩ (.int .u8 ((l'[k] ^^^ 255).toNat : Int))) (rBytes w0.heap.size (.slice (some ⟨g, 0, none⟩) p.length c1) l2 :: rDisk w0.heap.size d m2 :: rRef w0.heap.size r m :: rObj w0.heap.size w.heap.size (.cells #[.int .i64 1, .string x, .string y, .slice pa p.length pc, .int .i64 i, .int .i64 j] 68) :: rs))
   generalize l'[k] ^^^ 255 = yb at e1 HST
   generalize l'[k].toNat = xb at hcq e1 hby
   have j5 : (xb : Int) < 256 := by omega
   have j6 : (0 : Int) ≤ xb := by omega
   have HKL := hyd hkl
   clear ho hst hby hkl hk hl' hlen2 hkl' HO2 HP HT HSA
   go_wp2_with fail
   go_roundw
   case rel => exact HST.out
   case measure => have := HKL.out; simp [intOf]; omega
  ·obtain rfl : k = p.length := by omega
   have ho2 := ho.drop
   obtain ⟨-, b1, -, b3, -, -⟩ := op_cells (ho2.at (b := w.heap.size) mem2).1
   have hst := ho2.swap.rstep HT.out hn htt ⟨1, x, ⟨#[]⟩, p⟩ ⟨by simp, by simp⟩ (fun e => absurd rfl e) (pv := .slice pa p.length pc) (fun F w' h1 h2 => old_reads HP.out ho2.keeps F w' h1 h2)
   rw [HSA.out] at hst
   have HST := hyd hst
   clear ho ho2 hst HO2 HP HT HSA
   go_wp2_with fail
   refine HST.out.mono ?_
   rintro e w3 ⟨rfl, ho3⟩
   have HO := hyd ho3.swap.unbox
   clear ho3 HST
   simp only at HO ⊢
   go_wp2_with fail
   go_ret
   exact ⟨rfl, HO.out⟩
end
end Go.Proofs.YtddnikpdmjogiaaGreat
