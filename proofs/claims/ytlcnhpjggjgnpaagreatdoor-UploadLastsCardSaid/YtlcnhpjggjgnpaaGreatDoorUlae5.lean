/- A part of the proof. -/
import Derived.Test.YtlcnhpjggjgnpaaGreatDoorUlab2
import Derived.Test.YtlcnhpjggjgnpaaGreatDoorUlab9
import Derived.Test.YtlcnhpjggjgnpaaGreatDoorUlae2
import Derived.Test.YtlcnhpjggjgnpaaGreatDoorUlae3
import Derived.Test.YtlcnhpjggjgnpaaGreatDoorUlae4
namespace Go.Proofs.YtlcnhpjggjgnpaaGreatDoor
set_option linter.unusedVariables false
set_option linter.unusedSimpArgs false
open Go.RowKit Go.MapKept Go.Maps
set_option maxRecDepth 10000 in
theorem key_readsI {a : Int} (h : -9223372036854775808 ≤ a ∧ a ≤ 9223372036854775807) : Go.keyOf Tryz.prog 3 (Value.int .i64 a) = some (Lit.int .i64 a) := by
 have hw : (Lit.int .i64 a).wf = true := by unfold Lit.wf; simp only [IntKind.min, IntKind.max, IntKind.signed, IntKind.bits, Bool.and_eq_true, decide_eq_true_eq]; constructor <;> simp <;> omega
 exact keyOf_int_mk Tryz.underlying3 hw
theorem rel_readsI {es : List MapEntry} {l : PS} (h : Rel2 PEntry es l) (hs : ∀ p ∈ l, -9223372036854775808 ≤ p.1 ∧ p.1 ≤ 9223372036854775807) : es.map (WideElems.rg Tryz.prog 3 anyV) = l.map (fun p => (Lit.int .i64 p.1, DataW.nil)) ∧ ∀ x ∈ es, ∃ y, WideElems.rd Tryz.prog 3 anyV x = some y := by
 induction es generalizing l with
 | nil =>
  cases l with
  | nil => exact ⟨rfl, fun x hx => by simp at hx⟩
  | cons _ _ => exact h.elim
 | cons e es ih =>
  cases l with
  | nil => exact h.elim
  | cons p l =>
   obtain ⟨h1, h2⟩ := ih h.2 (fun q hq => hs q (List.mem_cons_of_mem _ hq))
   have hk := key_readsI (hs p (List.mem_cons_self ..))
   have hr : WideElems.rd Tryz.prog 3 anyV e = some (Lit.int .i64 p.1, DataW.nil) := by
    unfold WideElems.rd
    rw [h.1.1, hk]; rfl
   refine ⟨?_, fun x hx => ?_⟩
   ·rw [List.map_cons, List.map_cons, h1]
    unfold WideElems.rg
    rw [hr]; rfl
   ·rcases List.mem_cons.1 hx with rfl | hx
    ·exact ⟨_, hr⟩
    ·exact h2 x hx
theorem MapPs.owns {w : World} {b : Nat} {ps : PS} (h : MapPs w b ps) (hs : ∀ p ∈ ps, -9223372036854775808 ≤ p.1 ∧ p.1 ≤ 9223372036854775807) (hl : ps.length ≤ maxLen) :
  ∃ D0 : DataW Unit, w.ownsMap Tryz.prog 3 anyV b ps.length D0 ∧ Maps.size D0 = ps.length ∧ (intKeys D0).Perm (ps.map (·.1)) := by
 obtain ⟨es, clock, l, hb, hst, hr, hp⟩ := h
 have hz : es.size = ps.length := by rw [← hp.length_eq, ← hr.length, Array.length_toList]
 obtain ⟨h1, h2⟩ := rel_readsI hr (fun p hp' => hs p (hp.mem_iff.1 hp'))
 refine ⟨_, ⟨es, clock, hb, ⟨by omega, hst, h2⟩, by omega, rfl⟩, ?_, ?_⟩
 ·have := (foldr_perm (es.toList.map (WideElems.rg Tryz.prog 3 anyV))).length_eq
  rw [Maps.size_eq, this, List.length_map, Array.length_toList, hz]
 ·have hq := (foldr_perm (es.toList.map (WideElems.rg Tryz.prog 3 anyV))).map (fun p => Go.intOf p.1)
  refine List.Perm.trans hq ?_
  rw [h1, List.map_map]
  exact hp.map _
theorem sorted_ints {l ss : List Int} (hs : l.Pairwise (· < ·)) (hp : ss.Perm l) : ss.mergeSort (fun x y => decide (x ≤ y)) = l := by
 have tr : ∀ a b c : Int, decide (a ≤ b) = true → decide (b ≤ c) = true → decide (a ≤ c) = true := fun a b c h1 h2 => by simp only [decide_eq_true_eq] at *; exact Int.le_trans h1 h2
 have tt : ∀ a b : Int, (decide (a ≤ b) || decide (b ≤ a)) = true := fun a b => by simp only [Bool.or_eq_true, decide_eq_true_eq]; exact Int.le_total a b
 refine List.Perm.eq_of_pairwise (le := fun a b => decide (a ≤ b) = true) (fun a b _ _ h1 h2 => ?_) (List.pairwise_mergeSort tr tt ss) (hs.imp (fun h => decide_eq_true (Int.le_of_lt h))) ((List.mergeSort_perm ss _).trans hp)
 simp only [decide_eq_true_eq] at h1 h2
 exact Int.le_antisymm h1 h2
section
variable {w wr : World} {d u st t mp j b : Nat} {nm : ByteArray} {T : TM} {next : Int} {L : UL} {rs : List (Res w.heap.size)}
def UListPost (w : World) (l : List Int) (e : Ending) (w' : World) : Prop := ∃ v, e = .returned v ∧ w'.ownsRow w.heap.size 3 1 v l.length (l.map (Value.int .i64)) ∧ Keeps (fun _ => False) w w'
theorem keysI_runs (mb : Option Nat) (W : World) : Runs 70 #[.map mb] W (.func (.func 128) #[] #[.pointer (some ⟨W.heap.size, 0, none⟩)]) (W.alloc (.cells #[.map mb] 102)) := by
 refine (callsIn_wide.1 (kmaps_Keys_I mb W)).mono ?_
 rintro e w' ⟨rfl, rfl⟩
 exact ⟨rfl, rfl⟩
theorem sortedI_calls {w : World} {b : Nat} {ps : PS} (h : MapPs w b ps) {l : List Int} (hl : l.Pairwise (· < ·)) (hp : (ps.map (·.1)).Perm l) (hb : ∀ p ∈ ps, -9223372036854775808 ≤ p.1 ∧ p.1 ≤ 9223372036854775807) (hn : ps.length ≤ 1099511627776) :
  Calls Tryz.prog 69 #[.func (.func 128) #[] #[.pointer (some ⟨w.heap.size, 0, none⟩)]] (w.alloc (.cells #[.map (some b)] 102)) (UListPost w l) := by
 obtain ⟨D0, h1, h2, h3⟩ := h.owns hb (by unfold maxLen; omega)
 refine (callsIn_wide.1 (kslices_Sorted_keys_I b ps.length D0 anyV w h1 (by rw [h2]; unfold maxLen; omega) (by rw [h2]; omega))).mono ?_
 rintro e w' ⟨v, ss, rfl, hS, hrow, _, hbl⟩
 have hq : ss.Perm l := (hS.trans h3).trans hp
 have hlen : ss.length = l.length := hq.length_eq
 rw [sorted_ints hl hq, hlen] at hrow
 have hb2 : Keeps (fun _ => False) (w.alloc (.cells #[.map (some b)] 102)) w' := ⟨hbl.os, hbl.tape, hbl.output, hbl.size, fun k hk _ => hbl.block k hk⟩
 exact ⟨v, rfl, row_base1 hrow (by simp), ((Keeps.refl _ w).alloc _).trans hb2 (fun _ _ e => e)⟩
set_option maxRecDepth 100000 in
theorem ulist_calls {w0 : World} (h : Own w w0 (tRes w.heap.size d j t b nm T ++ (uRes w.heap.size d u st t mp next L ++ rs))) (hs : (L.map (fun x => x.1.id)).Pairwise (· < ·)) (hb : ∀ x ∈ L, 0 ≤ x.1.id ∧ x.1.id ≤ 4294967296) (hn : L.length ≤ 1099511627776) :
  Calls Tryz.prog 22 #[.pointer (some ⟨u, 0, none⟩)] w0 (UListPost w0 (L.map (fun x => x.1.id))) := by
 have hm := h.pmap (mp := mp) (ps := ptrs L) (by simp [uRes])
 obtain ⟨-, -, -, -, c4⟩ := u_cells (h.at (b := u) (o := uObj d st t next mp) (by simp [uRes])).1
 have hk := keysI_runs (some mp) w0
 have hso := sortedI_calls hm hs (by simp [ptrs, Function.comp_def]) (fun p hp => by
  obtain ⟨x, hx, rfl⟩ := List.mem_map.1 hp
  have := hb x hx
  dsimp only
  omega) (by simp [ptrs]; omega)
 generalize L.map (fun x => x.1.id) = l at hso ⊢
 have HK := Lib.hid hk
 have HSO := Lib.hid hso
 clear h hm hs hb hn hk hso
 go_enter Tryz.func22, Tryz.ntmps22
 go_wp2_with fail
 refine HK.out.out.mono ?_
 rintro e w' ⟨rfl, rfl⟩
 clear c4
 go_wp2_with fail
 refine HSO.out.mono ?_
 rintro e w2 ⟨v, rfl, hr, hk2⟩
 have HR := Lib.hid (And.intro hr hk2)
 obtain ⟨a, c, rfl⟩ := ownsRow_slice hr
 clear hr hk2 HSO HK
 go_wp2_with fail
 go_ret
 exact ⟨_, rfl, HR.out.1, HR.out.2⟩
end
end Go.Proofs.YtlcnhpjggjgnpaaGreatDoor
namespace Go.Proofs.YtlcnhpjggjgnpaaGreatDoor
set_option linter.unusedVariables false
set_option linter.unusedSimpArgs false
open Go.RowKit Go.MapKept
theorem res_ses {fn : Func} {p u : Tmp} (h : fn.results = #[.cell p 43, .tmp u]) (tmps : Array Value) (w : World) (g : Nat) (ds : Array Value) (hdz : ds.size = 3) (hp : tmps.getD p undef = .pointer (some ⟨g, 0, none⟩)) (hc : w.heap[g]? = some (.cells ds 43 (0, 0))) :
  (results fn tmps).run Tryz.prog w = .ok (.tuple #[.agg ds, tmps.getD u undef]) w := by
 rw [results_cell_tmp h, hp]
 simp only [asAddr, Sem.run_pure, Result.andThen_ok, run_loadVar_row w g 43 43 ds (0, 0) _ hc Tryz.underlying43 rfl (by rw [hdz]; kernel_rfl)]
def sesV (x : Ses) : Value := .agg #[.string x.repo, .int .i64 x.til, .int .i64 (x.b.length : Int)]
section
variable {w wr : World} {d u st t mp j b : Nat} {nm : ByteArray} {T : TM} {next : Int} {L L1 L2 : UL} {rs : List (Res w.heap.size)}
set_option maxRecDepth 100000 in
theorem ulook_calls {w0 : World} {x : Ses} {sp q : Nat} (h : Own w w0 (tRes w.heap.size d j t b nm T ++ (uRes w.heap.size d u st t mp next (L1 ++ (x, sp, q) :: L2) ++ rs))) (hf : uget (L1 ++ (x, sp, q) :: L2) x.id = some (x, sp, q)) :
  Calls Tryz.prog 13 #[.pointer (some ⟨u, 0, none⟩), .int .i64 x.id] w0 (QuietP w0 (.tuple #[sesV x, .int .i64 0])) := by
 have h1 := h.endObj (.cells #[.string ⟨#[]⟩, .int .i64 0, .int .i64 0] 43)
 have hfi := ufind_runs (L := L1 ++ (x, sp, q) :: L2) h1 (u := u) (d := d) (st := st) (t := t) (mp := mp) (next := next) (by simp [uRes]) (by simp [uRes]) x.id
 unfold ufindOf at hfi
 rw [hf] at hfi
 dsimp only at hfi
 obtain ⟨s0, s1, s2, -⟩ := ses_cells (h1.focus.at (b := sp) (o := sesObj x q) (by simp)).1
 have HF := Lib.hid hfi
 have HN := Lib.hid (heap_alloc_new w0 (.cells #[.string x.repo, .int .i64 x.til, .int .i64 (x.b.length : Int)] 43))
 have HK := Lib.hid ((Keeps.refl (fun _ => False) w0).alloc (.cells #[.string x.repo, .int .i64 x.til, .int .i64 (x.b.length : Int)] 43))
 unfold sesV
 clear h h1 hfi hf
 generalize x.b.length = bl at *
 go_enter Tryz.func13, Tryz.ntmps13
 go_wp2_with fail
 refine HF.out.out.mono ?_
 rintro e w' ⟨rfl, rfl⟩
 go_wp2_with fail
 refine bodyPost_ret (res_ses Tryz.results13 _ _ w0.heap.size _ rfl rfl HN.out) rfl ?_
 exact ⟨rfl, HK.out⟩
end
end Go.Proofs.YtlcnhpjggjgnpaaGreatDoor
namespace Go.Proofs.YtlcnhpjggjgnpaaGreatDoor
set_option linter.unusedVariables false
set_option linter.unusedSimpArgs false
open Go.RowKit Go.MapKept
section
variable {w wr : World} {d u st t mp j b : Nat} {nm : ByteArray} {T : TM} {next : Int} {L : UL} {rs : List (Res w.heap.size)}
theorem ufind_gone {w0 : World} (h : Own w w0 (tRes w.heap.size d j t b nm T ++ (uRes w.heap.size d u st t mp next L ++ rs))) {id : Int} (hf : uget L id = none) :
  Runs 47 #[.pointer (some ⟨u, 0, none⟩), .int .i64 id] w0 (.tuple #[.pointer none, .int .i64 6]) w0 := by
 have hfi := ufind_runs (L := L) h (u := u) (d := d) (st := st) (t := t) (mp := mp) (next := next) (by simp [uRes]) (by simp [uRes]) id
 unfold ufindOf at hfi
 rw [hf] at hfi
 exact hfi
set_option maxRecDepth 100000 in
theorem upatch_gone {w0 : World} (h : Own w w0 (tRes w.heap.size d j t b nm T ++ (uRes w.heap.size d u st t mp next L ++ rs))) {id : Int} (hf : uget L id = none) (at_ : Int) (pv : Value) :
  Runs 10 #[.pointer (some ⟨u, 0, none⟩), .int .i64 id, .int .i64 at_, pv] w0 (.int .i64 6) w0 := by
 have hfi := ufind_gone h hf
 unfold Runs
 clear h hf
 go_enter Tryz.func10, Tryz.ntmps10
 go_wp2_with fail
 refine hfi.out.mono ?_
 rintro e w' ⟨rfl, rfl⟩
 go_wp2_with fail
 go_ret
 exact ⟨rfl, rfl⟩
set_option maxRecDepth 100000 in
theorem ufinish_gone {w0 : World} (h : Own w w0 (tRes w.heap.size d j t b nm T ++ (uRes w.heap.size d u st t mp next L ++ rs))) {id : Int} (hf : uget L id = none) (cl : List Value) (more : Value) :
  Calls Tryz.prog 12 #[.pointer (some ⟨u, 0, none⟩), .int .i64 id, .agg cl.toArray, more] w0 (QuietP w0 (.int .i64 6)) := by
 have hfi := ufind_gone (h.endObj (.cells cl.toArray 39)) hf
 have HK := Lib.hid ((Keeps.refl (fun _ => False) w0).alloc (.cells cl.toArray 39))
 clear h hf
 go_enter Tryz.func12, Tryz.ntmps12
 go_wp2_with fail
 refine hfi.out.mono ?_
 rintro e w' ⟨rfl, rfl⟩
 go_wp2_with fail
 go_ret
 exact ⟨rfl, HK.out⟩
end
end Go.Proofs.YtlcnhpjggjgnpaaGreatDoor
namespace Go.Proofs.YtlcnhpjggjgnpaaGreatDoor
set_option linter.unusedVariables false
set_option linter.unusedSimpArgs false
open Go.RowKit Go.MapKept
def KOne (S : List (Value × List UInt8)) (k : Kp) (x : KV) : Prop := x.id = (k.id : Int) ∧ x.e = k.ends ∧ (x.s, k.sure) ∈ S ∧ (x.m, k.may) ∈ S
def KRel (S : List (Value × List UInt8)) (hv : List Kp) (l : List KV) : Prop := l.length = hv.length ∧ ∀ (i : Nat) (k : Kp) (x : KV), hv[i]? = some k → l[i]? = some x → KOne S k x
section
variable {S S' : List (Value × List UInt8)} {hv : List Kp} {l : List KV} {k : Kp} {x : KV}
theorem KOne.mono (h : KOne S k x) (hs : ∀ p ∈ S, p ∈ S') : KOne S' k x := ⟨h.1, h.2.1, hs _ h.2.2.1, hs _ h.2.2.2⟩
theorem KRel.nil : KRel S [] [] := ⟨rfl, fun i k x h => by simp at h⟩
theorem KRel.mono (h : KRel S hv l) (hs : ∀ p ∈ S, p ∈ S') : KRel S' hv l := ⟨h.1, fun i k x h1 h2 => (h.2 i k x h1 h2).mono hs⟩
theorem KRel.at (h : KRel S hv l) {i : Nat} (hk : hv[i]? = some k) : ∃ x, l[i]? = some x ∧ KOne S k x := by
 have hlt : i < l.length := by rw [h.1]; exact (List.getElem?_eq_some_iff.1 hk).1
 exact ⟨l[i], List.getElem?_eq_getElem hlt, h.2 i k _ hk (List.getElem?_eq_getElem hlt)⟩
theorem KRel.push (h : KRel S hv l) (ho : KOne S k x) : KRel S (hv ++ [k]) (l ++ [x]) := by
 refine ⟨by simp [h.1], fun i k' x' h1 h2 => ?_⟩
 by_cases hi : i < hv.length
 ·rw [List.getElem?_append_left hi] at h1
  rw [List.getElem?_append_left (by rw [h.1]; exact hi)] at h2
  exact h.2 i _ _ h1 h2
 ·rw [List.getElem?_append_right (by omega)] at h1
  rw [List.getElem?_append_right (by rw [h.1]; omega), h.1] at h2
  have h0 : i - hv.length = 0 := by
   have := (List.getElem?_eq_some_iff.1 h1).1
   simp at this
   exact this
  rw [h0] at h1 h2
  cases h1; cases h2
  exact ho
theorem KRel.set (h : KRel S hv l) (i : Nat) (ho : KOne S k x) : KRel S (hv.set i k) (l.set i x) := by
 refine ⟨by simp [h.1], fun j k' x' h1 h2 => ?_⟩
 rw [List.getElem?_set] at h1 h2
 by_cases hij : i = j
 ·rw [if_pos hij] at h1 h2
  split at h1
  ·split at h2
   ·cases h1; cases h2; exact ho
   ·cases h2
  ·cases h1
 ·rw [if_neg hij] at h1 h2
  exact h.2 j _ _ h1 h2
theorem KRel.erase (h : KRel S hv l) (i : Nat) (hi : i < hv.length) : KRel S (hv.eraseIdx i) (l.eraseIdx i) := by
 refine ⟨by rw [List.length_eraseIdx_of_lt hi, List.length_eraseIdx_of_lt (by rw [h.1]; exact hi), h.1], fun j k' x' h1 h2 => ?_⟩
 rw [List.getElem?_eraseIdx] at h1 h2
 split at h1
 ·rw [if_pos (by assumption)] at h2
  exact h.2 _ _ _ h1 h2
 ·rw [if_neg (by assumption)] at h2
  exact h.2 _ _ _ h1 h2
theorem eraseIdx_take (l : List KV) (i : Nat) : l.eraseIdx i = l.take i ++ l.drop (i + 1) := List.eraseIdx_eq_take_drop_succ l i
theorem KRel.ok {w wr : World} {rs : List (Res w.heap.size)} (h : KRel S hv l) (ho : Own w wr rs) (hm : rRds w.heap.size S ∈ rs) : ∀ x ∈ l, x.Ok := fun x hx => by
 obtain ⟨i, hi⟩ := List.mem_iff_getElem?.1 hx
 have hlt := (List.getElem?_eq_some_iff.1 hi).1
 have hk : hv[i]? = some (hv[i]'(by rw [← h.1]; exact hlt)) := List.getElem?_eq_getElem _
 obtain ⟨-, -, h3, h4⟩ := h.2 i _ x hk hi
 obtain ⟨a, c, e, -, -⟩ := (ho.rds hm h3).form
 obtain ⟨a2, c2, e2, -, -⟩ := (ho.rds hm h4).form
 exact ⟨⟨_, _, _, e⟩, ⟨_, _, _, e2⟩⟩
theorem KRel.place (h : KRel S hv l) (id : Int) : (placeI l id = -1 ∧ ∀ k ∈ hv, ¬ (k.id : Int) = id) ∨ ∃ (i : Nat) (k : Kp), hv[i]? = some k ∧ (k.id : Int) = id ∧ placeI l id = (i : Int) := by
 unfold placeI
 cases hf : l.findIdx? (fun x => decide (x.id = id)) with
 | none =>
  refine .inl ⟨rfl, fun k hk e => ?_⟩
  obtain ⟨i, hi⟩ := List.mem_iff_getElem?.1 hk
  obtain ⟨x, hx, ho⟩ := h.at hi
  have := List.findIdx?_eq_none_iff.1 hf x (List.mem_of_getElem? hx)
  rw [ho.1, e] at this
  simp at this
 | some i =>
  obtain ⟨hlt, hp, -⟩ := List.findIdx?_eq_some_iff_getElem.1 hf
  have hk : hv[i]? = some (hv[i]'(by rw [← h.1]; exact hlt)) := List.getElem?_eq_getElem _
  have ho := h.2 i _ _ hk (List.getElem?_eq_getElem hlt)
  exact .inr ⟨i, _, hk, by rw [← ho.1]; simpa using hp, rfl⟩
end
section
variable {w wr : World} {d u st t mp j b : Nat} {nm : ByteArray} {T : TM} {next : Int} {L : UL} {rs : List (Res w.heap.size)}
theorem ofId_uget (id : Nat) : ∀ L : UL, ofId (L.map (·.1)) id = (uget L (id : Int)).map (·.1) := by
 intro L
 unfold ofId uget
 rw [List.find?_map]
 rfl
set_option maxRecDepth 100000 in
theorem ulook_gone {w0 : World} (h : Own w w0 (tRes w.heap.size d j t b nm T ++ (uRes w.heap.size d u st t mp next L ++ rs))) {id : Int} (hf : uget L id = none) : Calls Tryz.prog 13 #[.pointer (some ⟨u, 0, none⟩), .int .i64 id] w0 (QuietP w0 (.tuple #[.agg #[.string ⟨#[]⟩, .int .i64 0, .int .i64 0], .int .i64 6])) := by
 have HF := Lib.hid (ufind_gone (h.endObj (.cells #[.string ⟨#[]⟩, .int .i64 0, .int .i64 0] 43)) hf)
 have HR := Lib.hid (heap_alloc_new w0 (.cells #[.string ⟨#[]⟩, .int .i64 0, .int .i64 0] 43))
 have HK := Lib.hid ((Keeps.refl (fun _ => False) w0).alloc (.cells #[.string ⟨#[]⟩, .int .i64 0, .int .i64 0] 43))
 clear h hf
 go_enter Tryz.func13, Tryz.ntmps13
 go_wp2_with fail
 refine HF.out.out.mono ?_
 rintro e w' ⟨rfl, rfl⟩
 go_wp2_with fail
 refine bodyPost_ret (res_ses Tryz.results13 _ _ w0.heap.size _ rfl rfl HR.out) rfl ?_
 exact ⟨rfl, HK.out⟩
def lookOf (L : UL) (id : Int) : Value × Int := match uget L id with
 | some x => (sesV x.1, 0)
 | none => (.agg #[.string ⟨#[]⟩, .int .i64 0, .int .i64 0], 6)
theorem uget_split {L : UL} {id : Int} {x : Ses × Nat × Nat} (h : uget L id = some x) : x.1.id = id ∧ ∃ L1 L2, L = L1 ++ x :: L2 := by
 unfold uget at h
 exact ⟨by simpa using List.find?_some h, List.append_of_mem (List.mem_of_find?_eq_some h)⟩
theorem ulook_any {w0 : World} (h : Own w w0 (tRes w.heap.size d j t b nm T ++ (uRes w.heap.size d u st t mp next L ++ rs))) (id : Int) : Calls Tryz.prog 13 #[.pointer (some ⟨u, 0, none⟩), .int .i64 id] w0 (QuietP w0 (.tuple #[(lookOf L id).1, .int .i64 (lookOf L id).2])) := by
 unfold lookOf
 cases hf : uget L id with
 | none => exact ulook_gone h hf
 | some x =>
  obtain ⟨e, L1, L2, rfl⟩ := uget_split hf
  subst e
  obtain ⟨x, sp, q⟩ := x
  exact ulook_calls h hf
end
end Go.Proofs.YtlcnhpjggjgnpaaGreatDoor
