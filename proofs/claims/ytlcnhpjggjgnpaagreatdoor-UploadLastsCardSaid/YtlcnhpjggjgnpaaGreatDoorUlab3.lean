/- A part of the proof. -/
import Derived.Test.YtlcnhpjggjgnpaaGreatDoorUlaa2
import Derived.Test.YtlcnhpjggjgnpaaGreatDoorUlab0
import Derived.Outline
namespace Go.Proofs.YtlcnhpjggjgnpaaGreatDoor
set_option linter.unusedVariables false
open Go.RowKit Go.MapKept
def jrnObj (d : Nat) (nm : ByteArray) (size : Nat) : Obj := .cells #[.pointer (some ⟨d, 0, none⟩), .string nm, .int .i64 (size : Int)] 217 (0, 0)
def OpenPost (w : World) (d : Nat) (nm : ByteArray) (rs : List (Res w.heap.size)) (r : OpenR) (e : Ending) (w' : World) : Prop :=
 (r.res = none ∧ e = .returned (.tuple #[.pointer none, .slice none 0 0, .int .i64 r.code]) ∧ Own w w' (rDisk w.heap.size d r.m :: rs)) ∨
 ∃ (recs : List (List UInt8)) (used j : Nat) (v : Value), r.res = some (recs, used) ∧ e = .returned (.tuple #[.pointer (some ⟨j, 0, none⟩), v, .int .i64 r.code]) ∧ Own w w' (rDisk w.heap.size d r.m :: rObj w.heap.size j (jrnObj d nm used) :: rRows w.heap.size v recs :: rs)
theorem OpenPost.bad {w : World} {d : Nat} {nm : ByteArray} {rs : List (Res w.heap.size)} {r : OpenR} {c : Int} {m : DM} {w' : World} (hr : r = ⟨c, m, none⟩) (h : Own w w' (rDisk w.heap.size d m :: rs)) : OpenPost w d nm rs r (.returned (.tuple #[.pointer none, .slice none 0 0, .int .i64 c])) w' := by
 subst hr; exact .inl ⟨rfl, rfl, h⟩
theorem OpenPost.ok {w : World} {d : Nat} {nm : ByteArray} {rs : List (Res w.heap.size)} {r : OpenR} {m : DM} {recs : List (List UInt8)} {used j : Nat} {v : Value} {w' : World} (hr : r = ⟨0, m, some (recs, used)⟩) (h : Own w w' (rDisk w.heap.size d m :: rObj w.heap.size j (jrnObj d nm used) :: rRows w.heap.size v recs :: rs)) :
  OpenPost w d nm rs r (.returned (.tuple #[.pointer (some ⟨j, 0, none⟩), v, .int .i64 0])) w' := by
 subst hr; exact .inr ⟨recs, used, j, v, rfl, rfl, h⟩
def createFid : Nat → FuncId
 | 0 => 118
 | _ => 49
def createFst (d : Nat) : Nat → Array Value
 | 0 => #[]
 | _ => #[.pointer (some ⟨d, 0, none⟩)]
def createCap (b2 b3 : Nat) : Nat → Array Value
 | 0 => #[.pointer (some ⟨b2, 0, none⟩), .pointer (some ⟨b3, 0, none⟩)]
 | _ => #[]
theorem create_enters (k : Nat) (args : Array Value) (w : World) : (callFunc (createFid k) args).run Tryz.prog w = .ok (.enter (createFid k) args) w := by
 match k with
 | 0 => exact enters_at Tryz.func118 (by kernel_rfl) rfl args w
 | k + 1 => exact enters_at Tryz.func49 (by kernel_rfl) rfl args w
section
variable {w wr : World} {d : Nat} {m : DM} {rs : List (Res w.heap.size)}
set_option maxRecDepth 100000 in
theorem open1_calls (h : Own w wr (rDisk w.heap.size d m :: rs)) {n b3 b11 : Nat} {t : ByteArray} (hg : Good m n) (hn : n < 1099511627776)
  (h3 : rObj w.heap.size b3 (.cells #[.pointer (some ⟨d, 0, none⟩)] 30) ∈ rs) (h11 : rObj w.heap.size b11 (.cells #[.string t] 9) ∈ rs) :
  Calls Tryz.prog 118 #[.pointer (some ⟨b3, 0, none⟩), .pointer (some ⟨b11, 0, none⟩)] wr (DOwn w d rs (createOf m t)) := by
 have c3 := cell_at (i := 0) (h.at (List.mem_cons_of_mem _ h3)).1 rfl
 have c11 := cell_at (i := 0) (h.at (List.mem_cons_of_mem _ h11)).1 rfl
 obtain ⟨w1, hr, h1⟩ := h.create t hg.fuse (hg.loose hn)
 have H1 := Lib.hid h1
 clear h h3 h11 h1 hg
 go_enter Tryz.func118, Tryz.ntmps118
 go_wp2_with fail
 refine hr.out.mono ?_; rintro e w' ⟨rfl, rfl⟩
 go_wp2_with fail
 go_ret
 exact ⟨rfl, H1.out⟩
theorem create_steps (h : Own w wr (rDisk w.heap.size d m :: rs)) {n : Nat} (hg : Good m n) (hn : n + 10 < 1099511627776) {nm : ByteArray} {g b2 b3 : Nat} {T : TypeId}
  (hrow : rObj w.heap.size g (.cells #[.func (.func 118) #[] #[.pointer (some ⟨b2, 0, none⟩), .pointer (some ⟨b3, 0, none⟩)], .func (.func 49) #[.pointer (some ⟨d, 0, none⟩)] #[]] T) ∈ rs)
  (h2 : rObj w.heap.size b2 (.cells #[.pointer (some ⟨d, 0, none⟩)] 30) ∈ rs) (h3 : rObj w.heap.size b3 (.cells #[.string nm] 9) ∈ rs) :
  Calls Tryz.prog 117 #[.slice (some ⟨g, 0, none⟩) 2 2] wr (DOwn w d rs (runSteps (createSteps nm) m)) := by
 refine steps_disk h hg (createSteps nm) (by simp [createSteps]) createFid (createFst d) (createCap b2 b3) g 2 1 hrow ?_ create_enters (createSteps_good nm) ?_
 ·intro k hk
  match k, hk with
  | 0, _ => rfl
  | 1, _ => rfl
  | k + 2, hk => simp only [createSteps, List.length_cons, List.length_nil] at hk; omega
 ·intro k f w' m' j hf ho hgj hj
  have hj2 : j < 1099511627776 := by simp only [createSteps, List.length_cons, List.length_nil] at hj; omega
  match k, hf with
  | 0, hf => simp only [createSteps, List.getElem?_cons_zero, Option.some.injEq] at hf; subst hf; exact open1_calls ho hgj hj2 h2 h3
  | 1, hf => simp only [createSteps, List.getElem?_cons_succ, List.getElem?_cons_zero, Option.some.injEq] at hf; subst hf; exact ho.sync hgj.fuse hgj.fits1
  | k + 2, hf => simp [createSteps] at hf
theorem Own.size (h : Own w wr (rDisk w.heap.size d m :: rs)) (n : ByteArray) : Runs 57 #[.pointer (some ⟨d, 0, none⟩), .string n] wr (.tuple #[.int .i64 (sizeCode m n), .int .i64 (thereOf m n)]) wr := by
 obtain ⟨F, h1, _⟩ := h.disk
 exact size_runs h1 n
end
theorem Own.tuck2 {w wr : World} {r s t : Res w.heap.size} {rs : List (Res w.heap.size)} (h : Own w wr (r :: s :: t :: rs)) : Own w wr (s :: t :: r :: rs) :=
 h.perm ((List.Perm.swap ..).trans (List.Perm.cons _ (List.Perm.swap ..)))
theorem Own.drop3 {w wr : World} {r s t : Res w.heap.size} {rs : List (Res w.heap.size)} (h : Own w wr (r :: s :: t :: rs)) : Own w wr (r :: s :: rs) := h.third.drop
structure OpenStart (w w0 : World) (d : Nat) (m : DM) (nm : ByteArray) (rs : List (Res w.heap.size)) : Prop where
 i1 : ∀ W, Runs 104 #[.string nm] W (.bool true) W
 i2 : ∀ W, Runs 104 #[.string (tmpOf nm)] W (.bool true) W
 fr : ∀ W, Runs 116 #[.string nm] W (.string (tmpOf nm)) W
 own : Own w (((w0.alloc (.cells #[.pointer (some ⟨d, 0, none⟩)] 30)).alloc (.cells #[.string nm] 9)).alloc (jrnObj d nm 0)) (rDisk w.heap.size d m :: rObj w.heap.size (w0.heap.size + 1 + 1) (jrnObj d nm 0) :: rObj w.heap.size (w0.heap.size + 1) (.cells #[.string nm] 9) :: rObj w.heap.size w0.heap.size (.cells #[.pointer (some ⟨d, 0, none⟩)] 30) :: rs)
 size : Runs 57 #[.pointer (some ⟨d, 0, none⟩), .string nm] (((w0.alloc (.cells #[.pointer (some ⟨d, 0, none⟩)] 30)).alloc (.cells #[.string nm] 9)).alloc (jrnObj d nm 0)) (.tuple #[.int .i64 (sizeCode m nm), .int .i64 (thereOf m nm)]) (((w0.alloc (.cells #[.pointer (some ⟨d, 0, none⟩)] 30)).alloc (.cells #[.string nm] 9)).alloc (jrnObj d nm 0))
set_option maxRecDepth 100000 in
theorem open_other {w w0 : World} {d : Nat} {m : DM} {rs : List (Res w.heap.size)} {nm : ByteArray} (H : OpenStart w w0 d m nm rs) {r : OpenR} (hr : r = ⟨thereOf m nm, m, none⟩) (h6 : ¬ thereOf m nm = 6) (h0 : ¬ thereOf m nm = 0) :
  Calls Tryz.prog 58 #[.pointer (some ⟨d, 0, none⟩), .string nm] w0 (OpenPost w d nm rs r) := by
 have HE := Lib.hid hr
 have hs := H.size
 unfold jrnObj at hs
 generalize thereOf m nm = e at hs HE h6 h0
 generalize sizeCode m nm = sc at hs
 have HS := Lib.hid hs
 have b6 : (e == 6) = false := by simpa using h6
 have b0 : (e != 0) = true := by simpa using h0
 clear hr hs h6 h0
 go_enter Tryz.func58, Tryz.ntmps58
 go_wp2_with fail
 refine (H.i1 _).out.mono ?_; rintro e w' ⟨rfl, rfl⟩
 go_wp2_with fail
 refine (H.fr _).out.mono ?_; rintro e w' ⟨rfl, rfl⟩
 go_wp2_with fail
 refine (H.i2 _).out.mono ?_; rintro e w' ⟨rfl, rfl⟩
 go_wp2_with fail
 refine HS.out.out.mono ?_; rintro e w' ⟨rfl, rfl⟩
 go_wp2_with fail
 go_ret3
 exact OpenPost.bad HE.out H.own.drop2.drop_two
set_option maxRecDepth 100000 in
theorem open_create {w w0 : World} {d : Nat} {m : DM} {rs : List (Res w.heap.size)} {nm : ByteArray} (H : OpenStart w w0 d m nm rs) {n : Nat} (hg : Good m n) (hn : n < 549755813888) {r : OpenR}
  (hr : r = if (runSteps (createSteps nm) m).1 = 0 then ⟨0, (runSteps (createSteps nm) m).2, some ([], 0)⟩ else ⟨(runSteps (createSteps nm) m).1, (runSteps (createSteps nm) m).2, none⟩) (h6 : thereOf m nm = 6) :
  Calls Tryz.prog 58 #[.pointer (some ⟨d, 0, none⟩), .string nm] w0 (OpenPost w d nm rs r) := by
 have hs := H.size
 rw [h6] at hs
 unfold jrnObj at hs
 generalize sizeCode m nm = sc at hs
 have h4 := H.own.alloc2 (.cells #[.func (.func 118) #[] #[.pointer (some ⟨w0.heap.size, 0, none⟩), .pointer (some ⟨w0.heap.size + 1, 0, none⟩)], .func (.func 49) #[.pointer (some ⟨d, 0, none⟩)] #[]] 120)
 simp only [World.size_alloc] at h4
 have hst := create_steps (nm := nm) (b2 := w0.heap.size) (b3 := w0.heap.size + 1) (T := 120) h4 hg (by omega) (List.mem_cons_self ..) (by simp) (by simp)
 unfold jrnObj at hst
 have HE := Lib.hid hr
 have HS := Lib.hid hs
 have HST := Lib.hid hst
 clear hr hs h6 hst h4 hg hn
 go_enter Tryz.func58, Tryz.ntmps58
 go_wp2_with fail
 refine (H.i1 _).out.mono ?_; rintro e w' ⟨rfl, rfl⟩
 go_wp2_with fail
 refine (H.fr _).out.mono ?_; rintro e w' ⟨rfl, rfl⟩
 go_wp2_with fail
 refine (H.i2 _).out.mono ?_; rintro e w' ⟨rfl, rfl⟩
 go_wp2_with fail
 refine HS.out.out.mono ?_; rintro e w' ⟨rfl, rfl⟩
 go_wp2_with fail
 refine HST.out.mono ?_
 rintro e w2 ⟨rfl, h5⟩
 have H5 := Lib.hid h5.drop2
 have he := HE.out
 generalize runSteps (createSteps nm) m = q at H5 he ⊢
 obtain ⟨qc, qm⟩ := q
 clear h5 HST HE HS
 by_cases hq : qc = 0
 ·subst hq
  simp only [if_true] at he
  have HE := Lib.hid he
  clear he
  go_wp2_with fail
  go_ret3
  exact OpenPost.ok HE.out ((H5.out.drop3.drop3).nilRows.tuck2)
 ·simp only [hq, if_false] at he
  have HE := Lib.hid he
  have b0 : (qc != 0) = true := by simpa using hq
  clear he hq
  go_wp2_with fail
  go_ret3
  exact OpenPost.bad HE.out (H5.out.drop2.drop_two)
theorem open_piece (b : List UInt8) : pieceOf b 0 (b.length : Int) = b := by simp [pieceOf]
theorem open_store {w wr w1 w2 : World} {d j x : Nat} {m : DM} {nm : ByteArray} {rs : List (Res w.heap.size)} {o1 o2 : Res w.heap.size} {recs : List (List UInt8)} {used : Nat} {v : Value} (h : Own w w1 (rDisk w.heap.size d m :: rObj w.heap.size j (jrnObj d nm x) :: o1 :: o2 :: rs)) (hr : OwnsRecs w2 w1.heap.size v recs) (hk : Keeps (fun _ => False) w1 w2) :
  ((∃ u, w2.cell? ⟨j, 2, none⟩ = some u) ∧ w2.frozen? ⟨j, 2, none⟩ = false) ∧ Own w (w2.setCell ⟨j, 2, none⟩ (.int .i64 (used : Int))) (rDisk w.heap.size d m :: rObj w.heap.size j (jrnObj d nm used) :: o1 :: o2 :: rRows w.heap.size v recs :: rs) := by
 have h1 := h.addRecs hr hk
 have hj := (h1.at (b := j) (o := jrnObj d nm x) (by simp)).1
 have h2 := (h1.third.store 2 (.int .i64 (used : Int)))
 refine ⟨⟨⟨_, cell_at hj rfl⟩, free_at hj 2⟩, ?_⟩
 have e : (#[Value.pointer (some ⟨d, 0, none⟩), Value.string nm, Value.int .i64 (x : Int)] : Array Value).setIfInBounds 2 (.int .i64 (used : Int)) = #[Value.pointer (some ⟨d, 0, none⟩), Value.string nm, Value.int .i64 (used : Int)] := rfl
 rw [e] at h2
 refine h2.perm ?_
 refine (List.Perm.trans (List.Perm.cons _ (List.Perm.swap ..)) (List.Perm.swap ..)).trans ?_
 refine List.Perm.cons _ (List.Perm.cons _ ?_)
 exact (List.Perm.swap ..).trans (List.Perm.cons _ (List.Perm.swap ..))
theorem Own.drop45 {w wr : World} {r s t a b : Res w.heap.size} {rs : List (Res w.heap.size)} (h : Own w wr (r :: s :: a :: b :: t :: rs)) : Own w wr (r :: s :: t :: rs) := h.drop3.drop3
set_option maxRecDepth 100000 in
set_option maxHeartbeats 1000000 in
theorem open_there {w w0 : World} {d : Nat} {m : DM} {rs : List (Res w.heap.size)} {nm : ByteArray} (H : OpenStart w w0 d m nm rs) (hnm : nm.size ≤ 65536) {n : Nat} (hg : Good m n) (hn : n < 549755813888) {r : OpenR} {b : List UInt8} (hb : b = (fget m.now nm).getD [])
  (hr : r = if (scanOf b).2 < b.length then openLay m nm (scanOf b) else ⟨0, m, some (scanOf b)⟩) (h0 : thereOf m nm = 0) :
  Calls Tryz.prog 58 #[.pointer (some ⟨d, 0, none⟩), .string nm] w0 (OpenPost w d nm rs r) := by
 have hs := H.size
 have hbl : b.length ≤ 67108864 := by rw [hb]; exact hg.get nm
 have hsc : sizeCode m nm = (b.length : Int) := by unfold sizeCode; rw [if_pos h0, hb]
 rw [h0, hsc] at hs
 unfold jrnObj at hs
 obtain ⟨v2, w2, hread, hB, hk2, h2⟩ := H.own.read nm 0 (b.length : Int) (by rw [← hb]; omega)
 have hrc : readCode m nm 0 (b.length : Int) = 0 := by unfold readCode; rw [if_pos h0, if_neg (by omega)]
 have hrb : readBytes m nm 0 (b.length : Int) = b := by unfold readBytes; rw [if_pos h0, if_neg (by omega), ← hb, open_piece]
 rw [hrc] at hread
 rw [hrb] at hB
 unfold jrnObj at hread
 have hscan := scan_calls hB.reads (by omega)
 obtain ⟨a2, c2, rfl, _, _⟩ := hB.form
 have hle := scanOf_le b
 have hfl := scan_frames_le b
 have hstore := fun (w3 : World) (v : Value) (ho : OwnsRecs w3 w2.heap.size v (scanOf b).1) (hk : Keeps (fun _ => False) w2 w3) => open_store (wr := w2) (used := (scanOf b).2) h2 ho hk
 have HE := Lib.hid hr
 generalize scanOf b = s at hscan HE hle hfl hstore
 obtain ⟨recs, used⟩ := s
 simp only at hscan hle hfl hstore
 have HS := Lib.hid hs
 have HR := Lib.hid hread
 have HSC := Lib.hid hscan
 have HST := Lib.hid hstore
 have HG := Lib.hid hg
 have HX := Lib.hid (⟨hn, hbl, hle, hfl, hnm⟩ : n < 549755813888 ∧ b.length ≤ 67108864 ∧ used ≤ b.length ∧ (framesOf recs).length ≤ b.length ∧ nm.size ≤ 65536)
 clear hr hs h0 hread hscan hstore hsc hrc hrb hB hk2 h2 hg hn hbl hle hfl hnm hb
 go_enter Tryz.func58, Tryz.ntmps58
 go_wp2_with fail
 refine (H.i1 _).out.mono ?_; rintro e w' ⟨rfl, rfl⟩
 go_wp2_with fail
 refine (H.fr _).out.mono ?_; rintro e w' ⟨rfl, rfl⟩
 go_wp2_with fail
 refine (H.i2 _).out.mono ?_; rintro e w' ⟨rfl, rfl⟩
 go_wp2_with fail
 refine HS.out.out.mono ?_; rintro e w' ⟨rfl, rfl⟩
 go_wp2_with fail
 refine HR.out.out.mono ?_; rintro e w' ⟨rfl, rfl⟩
 go_wp2_with fail
 refine HSC.out.mono ?_
 rintro e w3 ⟨v, rfl, ho3, hk3⟩
 obtain ⟨⟨⟨u, hu⟩, hf⟩, h4⟩ := HST.out w3 v ho3 hk3
 obtain ⟨va, vc, rfl⟩ := ho3.form
 have H4 := Lib.hid h4
 clear h4 ho3 hk3 HST HSC HR HS
 by_cases hlt : used < b.length
 ·have he := HE.out
  simp only [hlt, if_true] at he
  have hlay := fun (W : World) (h : Own w W (rDisk w.heap.size d m :: rObj w.heap.size (w0.heap.size + 1 + 1) (jrnObj d nm used) :: rObj w.heap.size (w0.heap.size + 1) (.cells #[.string nm] 9) :: rObj w.heap.size w0.heap.size (.cells #[.pointer (some ⟨d, 0, none⟩)] 30) :: rRows w.heap.size (.slice va recs.length vc) recs :: rs)) =>
   lay_calls h HG.out nm HX.out.2.2.2.2 (h.rows (v := .slice va recs.length vc) (ll := recs) (by simp)).1 (by have := HX.out; omega)
  have hl4 := hlay _ H4.out
  have c3 := (H4.out.at (b := w0.heap.size + 1) (o := .cells #[.string nm] 9) (by simp)).1
  have c2' := (H4.out.at (b := w0.heap.size) (o := .cells #[.pointer (some ⟨d, 0, none⟩)] 30) (by simp)).1
  have c3' := cell_at (i := 0) c3 rfl
  have c2'' := cell_at (i := 0) c2' rfl
  have HL4 := Lib.hid hl4
  have HE2 := Lib.hid he
  have b1 : decide (used < b.length) = true := decide_eq_true hlt
  clear hlay hl4 he HE hlt c3 c2' H4
  go_wp2_with fail
  refine HL4.out.mono ?_
  rintro e w5 ⟨rfl, h5⟩
  have he := HE2.out
  unfold openLay at he
  have H5 := Lib.hid h5
  generalize layOf m nm (framesOf recs) = q at H5 he ⊢
  obtain ⟨qc, qm⟩ := q
  clear h5 HL4 HE2
  by_cases hq : qc = 0
  ·subst hq
   simp only [if_true] at he
   have HE := Lib.hid he
   clear he
   go_wp2_with fail
   go_ret3
   exact OpenPost.ok HE.out H5.out.drop45
  ·simp only [hq, if_false] at he
   have HE := Lib.hid he
   have b0 : (qc != 0) = true := by simpa using hq
   clear he hq
   go_wp2_with fail
   go_ret3
   exact OpenPost.bad HE.out H5.out.drop45.drop_two
 ·have he := HE.out
  simp only [hlt, if_false] at he
  have HE2 := Lib.hid he
  have b1 : decide (used < b.length) = false := decide_eq_false hlt
  clear he HE hlt
  go_wp2_with fail
  go_ret3
  exact OpenPost.ok HE2.out H4.out.drop45
theorem isName_small {s : ByteArray} (h : isName s = true) : s.size ≤ 160 := by
 unfold isName at h
 simp only [Bool.and_eq_true, decide_eq_true_eq] at h
 omega
set_option maxRecDepth 100000 in
set_option maxHeartbeats 1000000 in
theorem open_calls {w w0 : World} {d : Nat} {m : DM} {rs : List (Res w.heap.size)} (h : Own w w0 (rDisk w.heap.size d m :: rs)) {n : Nat} (hg : Good m n) (hn : n < 549755813888) (nm : ByteArray) :
  Calls Tryz.prog 58 #[.pointer (some ⟨d, 0, none⟩), .string nm] w0 (OpenPost w d nm rs (openOf m nm)) := by
 have h1 := (h.alloc2 (.cells #[.pointer (some ⟨d, 0, none⟩)] 30)).alloc2 (.cells #[.string nm] 9)
 simp only [World.size_alloc] at h1
 have hin1 : ∀ W, Runs 104 #[.string nm] W (.bool (isName nm)) W := fun W => isname_runs nm W
 have hin2 : ∀ W, Runs 104 #[.string (tmpOf nm)] W (.bool (isName (tmpOf nm))) W := fun W => isname_runs _ W
 by_cases hnm : isName nm = true
 ·have hsm := isName_small hnm
  have hfr : ∀ W, Runs 116 #[.string nm] W (.string (tmpOf nm)) W := fun W => fresh_runs nm W (by omega)
  by_cases hnm2 : isName (tmpOf nm) = true
  ·have hx : OpenStart w w0 d m nm rs := by
    have h2 := h1.alloc2 (jrnObj d nm 0)
    simp only [World.size_alloc] at h2
    exact ⟨fun W => by have := hin1 W; rwa [hnm] at this, fun W => by have := hin2 W; rwa [hnm2] at this, hfr, h2, h2.size nm⟩
   by_cases h6 : thereOf m nm = 6
   ·exact open_create hx hg hn (by unfold openOf; rw [if_pos ⟨hnm, hnm2⟩, if_pos h6]) h6
   ·by_cases h0 : thereOf m nm = 0
    ·exact open_there hx (by omega) hg hn rfl (by unfold openOf; rw [if_pos ⟨hnm, hnm2⟩, if_neg h6, if_pos h0]) h0
    ·exact open_other hx (by unfold openOf; rw [if_pos ⟨hnm, hnm2⟩, if_neg h6, if_neg h0]) h6 h0
  ·have he : openOf m nm = ⟨1, m, none⟩ := by unfold openOf; rw [if_neg (fun h => hnm2 h.2)]
   have HE := Lib.hid he
   have H1 := Lib.hid h1.drop_two
   rw [hnm] at hin1
   rw [Bool.eq_false_iff.2 hnm2] at hin2
   have HI1 := Lib.hid hin1
   have HI2 := Lib.hid hin2
   have HF := Lib.hid hfr
   clear he h1 h hg hin1 hin2 hfr hnm hnm2 hsm hn
   go_enter Tryz.func58, Tryz.ntmps58
   go_wp2_with fail
   refine (HI1.out _).out.mono ?_; rintro e w' ⟨rfl, rfl⟩
   go_wp2_with fail
   refine (HF.out _).out.mono ?_; rintro e w' ⟨rfl, rfl⟩
   go_wp2_with fail
   refine (HI2.out _).out.mono ?_; rintro e w' ⟨rfl, rfl⟩
   go_wp2_with fail
   go_ret3
   exact OpenPost.bad HE.out H1.out
 ·have he : openOf m nm = ⟨1, m, none⟩ := by unfold openOf; rw [if_neg (fun h => hnm h.1)]
  have HE := Lib.hid he
  have H1 := Lib.hid h1.drop_two
  rw [Bool.eq_false_iff.2 hnm] at hin1
  have HI1 := Lib.hid hin1
  clear he h1 h hg hin1 hin2 hnm hn
  go_enter Tryz.func58, Tryz.ntmps58
  go_wp2_with fail
  refine (HI1.out _).out.mono ?_; rintro e w' ⟨rfl, rfl⟩
  go_wp2_with fail
  go_ret3
  exact OpenPost.bad HE.out H1.out
def jAppendOf (m : DM) (nm : ByteArray) (size : Nat) (p : List UInt8) : Int × DM × Nat :=
 if 1048568 < p.length then (8, m, size) else if (appendOf m nm (frameOf p)).1 = 0 then (0, (appendOf m nm (frameOf p)).2, size + (8 + p.length)) else ((appendOf m nm (frameOf p)).1, (appendOf m nm (frameOf p)).2, size)
def JPost (w : World) (d j : Nat) (nm : ByteArray) (rs : List (Res w.heap.size)) (r : Int × DM × Nat) (e : Ending) (w' : World) : Prop :=
 e = .returned (.int .i64 r.1) ∧ Own w w' (rDisk w.heap.size d r.2.1 :: rObj w.heap.size j (jrnObj d nm r.2.2) :: rs)
theorem JPost.mk {w : World} {d j : Nat} {nm : ByteArray} {rs : List (Res w.heap.size)} {r : Int × DM × Nat} {c : Int} {m : DM} {s : Nat} {w' : World} (hr : r = (c, m, s)) (h : Own w w' (rDisk w.heap.size d m :: rObj w.heap.size j (jrnObj d nm s) :: rs)) : JPost w d j nm rs r (.returned (.int .i64 c)) w' := by
 subst hr; exact ⟨rfl, h⟩
theorem jrn_cells {w : World} {j d : Nat} {nm : ByteArray} {s : Nat} (h : w.heap[j]? = some (jrnObj d nm s)) : w.cell? ⟨j, 0, none⟩ = some (.pointer (some ⟨d, 0, none⟩)) ∧ w.cell? ⟨j, 1, none⟩ = some (.string nm) ∧ w.cell? ⟨j, 2, none⟩ = some (.int .i64 (s : Int)) ∧ ∀ i, w.frozen? ⟨j, i, none⟩ = false :=
 ⟨cell_at h rfl, cell_at h rfl, cell_at h rfl, fun i => free_at h i⟩
theorem jrn_store {w wr : World} {d j s x : Nat} {m : DM} {nm : ByteArray} {rs : List (Res w.heap.size)} (h : Own w wr (rDisk w.heap.size d m :: rObj w.heap.size j (jrnObj d nm s) :: rs)) :
  Own w (wr.setCell ⟨j, 2, none⟩ (.int .i64 (x : Int))) (rDisk w.heap.size d m :: rObj w.heap.size j (jrnObj d nm x) :: rs) := (h.swap.store 2 (.int .i64 (x : Int))).swap
set_option maxRecDepth 100000 in
set_option maxHeartbeats 1000000 in
theorem jappend_calls {w w0 : World} {d j : Nat} {m : DM} {nm : ByteArray} {size : Nat} {rs : List (Res w.heap.size)} (h : Own w w0 (rDisk w.heap.size d m :: rObj w.heap.size j (jrnObj d nm size) :: rs)) {n : Nat} (hg : Good m n) (hn : n < 549755813888) (hs : size ≤ 1099511627776) {v : Value} {p : List UInt8} (hp : Reads w0 v p) :
  Calls Tryz.prog 108 #[.pointer (some ⟨j, 0, none⟩), v] w0 (JPost w d j nm rs (jAppendOf m nm size p)) := by
 obtain ⟨pa, pc, rfl, _, _⟩ := hp.form
 by_cases hbig : 1048568 < p.length
 ·have he : jAppendOf m nm size p = (8, m, size) := by unfold jAppendOf; rw [if_pos hbig]
  have HE := Lib.hid he
  have HO := Lib.hid h
  have b0 : decide ((1048568 : Int) < (p.length : Int)) = true := decide_eq_true (by omega)
  clear he h hbig hp hs hn hg
  go_enter Tryz.func108, Tryz.ntmps108
  go_wp2_with fail
  go_ret
  exact JPost.mk HE.out HO.out
 ·have he : jAppendOf m nm size p = if (appendOf m nm (frameOf p)).1 = 0 then (0, (appendOf m nm (frameOf p)).2, size + (8 + p.length)) else ((appendOf m nm (frameOf p)).1, (appendOf m nm (frameOf p)).2, size) := by unfold jAppendOf; rw [if_neg hbig]
  have b0 : decide ((1048568 : Int) < (p.length : Int)) = false := decide_eq_false (by omega)
  have hj := (h.at (b := j) (o := jrnObj d nm size) (by simp))
  obtain ⟨c0, c1, _, _⟩ := jrn_cells hj.1
  have hfr := frame_calls (hp.keep (Keeps.refl _ w0).drew) (by omega)
  have hap := fun (v1 : Value) (w1 : World) (ho : Owns w1 w0.heap.size v1 (frameOf p)) (hk : Keeps (fun _ => False) w0.drew w1) =>
   (h.drew.quiet hk).append nm ho.bytes.reads hg.room0 hg.room1 hg.unow hg.fuse (hg.loose (by omega))
  have ck : ∀ w1 : World, Keeps (fun _ => False) w0.drew w1 → w1.cell? ⟨j, 0, none⟩ = some (.pointer (some ⟨d, 0, none⟩)) ∧ w1.cell? ⟨j, 1, none⟩ = some (.string nm) := fun w1 hk => by
   have e := (World.cell?_of_block (w := w0.drew) (a := ⟨j, 0, none⟩) (hk.block j hj.2.2 (fun e => e))).trans c0
   have e2 := (World.cell?_of_block (w := w0.drew) (a := ⟨j, 1, none⟩) (hk.block j hj.2.2 (fun e => e))).trans c1
   exact ⟨e, e2⟩
  have HE := Lib.hid he
  generalize frameOf p = fr at hfr hap HE
  generalize appendOf m nm fr = q at hap HE
  obtain ⟨qc, qm⟩ := q
  have HFR := Lib.hid hfr
  have HAP := Lib.hid hap
  have CK := Lib.hid ck
  have i1 : (p.length : Int) ≤ 1048568 := by omega
  have i2 : (size : Int) ≤ 1099511627776 := by omega
  have i3 : (0 : Int) ≤ size := by omega
  clear he h hbig hp hs hn hg hj ck hfr hap
  have c0d : w0.drew.cell? ⟨j, 0, none⟩ = some (.pointer (some ⟨d, 0, none⟩)) := c0
  have c1d : w0.drew.cell? ⟨j, 1, none⟩ = some (.string nm) := c1
  go_enter Tryz.func108, Tryz.ntmps108
  go_wp2_with fail
  go_region_law (first | (refine step_wanted rfl ?_; go_simp; go_at_call 155; refine HFR.out.mono ?_; rintro e w1 ⟨v1, rfl, ho1, hk1⟩; obtain ⟨c0w, c1w⟩ := CK.out _ hk1) | (refine step_wanted rfl ?_; go_simp; go_at_call 48; refine (HAP.out _ _ ho1 hk1).mono ?_; rintro e w2 ⟨rfl, h2⟩) | fail)
  all_goals
   have hcj := jrn_cells (h2.at (b := j) (o := jrnObj d nm size) (by simp)).1
   have hst := jrn_store (x := size + (8 + p.length)) h2
   have HST := Lib.hid hst
   have H2 := Lib.hid h2
   have he := HE.out
   obtain ⟨_, _, k2, k3⟩ := hcj
   have k3' := k3 2
   clear hst h2 c0w c1w c0 c1 c0d c1d ho1 hk1 HE k3
   by_cases hq : qc = 0
   ·subst hq
    simp only [if_true] at he
    have HE := Lib.hid he
    clear he
    go_wp2_with fail
    go_ret
    refine JPost.mk HE.out ?_
    have h := HST.out
    push_cast at h
    exact h
   ·simp only [hq, if_false] at he
    have HE := Lib.hid he
    have b1 : (qc != 0) = true := by simpa using hq
    clear he hq
    go_wp2_with fail
    go_ret
    exact JPost.mk HE.out H2.out
theorem jsync_calls {w w0 : World} {d j : Nat} {m : DM} {nm : ByteArray} {size : Nat} {rs : List (Res w.heap.size)} (h : Own w w0 (rDisk w.heap.size d m :: rObj w.heap.size j (jrnObj d nm size) :: rs)) {n : Nat} (hg : Good m n) :
  Calls Tryz.prog 109 #[.pointer (some ⟨j, 0, none⟩)] w0 (JPost w d j nm rs ((syncOf m).1, (syncOf m).2, size)) := by
 obtain ⟨c0, _, _, _⟩ := jrn_cells (h.at (b := j) (o := jrnObj d nm size) (by simp)).1
 have hs := h.sync hg.fuse hg.fits1
 have HS := Lib.hid hs
 clear h hg hs
 go_enter Tryz.func109, Tryz.ntmps109
 go_wp2_with fail
 refine HS.out.mono ?_
 rintro e w1 ⟨rfl, h1⟩
 have H1 := Lib.hid h1
 clear h1
 go_wp2_with fail
 go_ret
 exact ⟨rfl, H1.out⟩
theorem Reads.str {w : World} {v : Value} {l : List UInt8} (h : Reads w v l) : (convert 22 9 v).run Tryz.prog w = .ok (.string ⟨l.toArray⟩) w := by
 rcases h with ⟨rfl, rfl⟩ | ⟨x, c, rfl, h1, h2, h3⟩
 ·exact Lib.run_convert_nil_bytes w 22 9 5 0 Tryz.underlying22 Tryz.underlying5 Tryz.underlying9
 ·refine run_convert_bytes_back w 22 9 5 x c l Tryz.underlying22 Tryz.underlying5 Tryz.underlying9 (fun j hj => ?_)
  exact h3 j (u8v l[j]) (by simp [hj])
end Go.Proofs.YtlcnhpjggjgnpaaGreatDoor
