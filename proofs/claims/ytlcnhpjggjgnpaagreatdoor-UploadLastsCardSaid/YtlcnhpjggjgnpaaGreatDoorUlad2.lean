/- A part of the proof. -/
import Derived.Test.YtlcnhpjggjgnpaaGreatDoorUlaa8
import Derived.Test.YtlcnhpjggjgnpaaGreatDoorUlab4
import Derived.Test.YtlcnhpjggjgnpaaGreatDoorUlac9
import Derived.Test.YtlcnhpjggjgnpaaGreatDoorUlad1
namespace Go.Proofs.YtlcnhpjggjgnpaaGreatDoor
set_option linter.unusedVariables false
set_option linter.unusedSimpArgs false
open Go.RowKit Go.MapKept
open Go.ChangeMaps (setBlock)
def hdU : ByteArray := ⟨#[117, 47]⟩
section
variable {w wr : World} {d u st t mp j b : Nat} {nm : ByteArray} {T : TM} {next : Int} {L : UL} {rs : List (Res w.heap.size)}
theorem perm_fresh {α : Type} (T R : List α) (a p s : α) : (a :: p :: (T ++ (s :: R))).Perm (T ++ ((a :: s :: p :: []) ++ R)) := by
 have h1 : ([a, p] ++ (T ++ (s :: R))).Perm (T ++ ([a, p] ++ (s :: R))) := List.perm_append_comm_assoc _ _ _
 exact h1.trans (List.Perm.append_left T ((List.Perm.swap s p R).cons a))
theorem strs_empty {base : Nat} {W : World} {v : Value} (h : StrsAt base W v []) : ∃ a c, v = .slice a 0 c := by
 obtain ⟨a, c, e⟩ := ownsRow_slice h
 exact ⟨a, c, e⟩
set_option maxRecDepth 100000 in
theorem usweep_none {w0 : World} (h : Own w w0 (tRes w.heap.size d j t b nm T ++ (uRes w.heap.size d u st t mp next L ++ rs))) (hdn : T.m.down = false) (hs : FSorted T.m.now) (hn : ∀ p ∈ T.m.now, p.1.size ≤ maxLen) (hl : T.m.now.length ≤ 1099511627775) (hno : namesOf T.m.now hdU = []) :
  Calls Tryz.prog 68 #[.pointer (some ⟨u, 0, none⟩)] w0 (QuietP w0 (.int .i64 0)) := by
 obtain ⟨F, hdk, -⟩ := Own.disk (h : Own w w0 (rDisk w.heap.size d T.m :: _))
 have hnc := names_calls hdk hdU hdn hs hn hl
 rw [hno] at hnc
 unfold hdU at hnc
 obtain ⟨c0, -, -, -, -⟩ := u_cells (h.at (b := u) (o := uObj d st t next mp) (by simp [uRes])).1
 have HNC := Lib.hid hnc
 clear h hdk hnc hdn hs hn hl hno
 go_enter Tryz.func68, Tryz.ntmps68
 go_wp2_with fail
 refine HNC.out.mono ?_
 rintro e w1 ⟨v, rfl, hst, hk1⟩
 obtain ⟨a, c, rfl⟩ := strs_empty hst
 have HK := Lib.hid hk1
 clear hst hk1 HNC c0
 go_wp2_with fail
 go_loopw [5, 7, 8, 9, 10, 24] (fun gv _ _ _ _ iv wx => gv = .int .i64 0 ∧ iv = .int .i64 0 ∧ w1 = wx) (fun _ _ _ _ _ _ _ => 0)
 case atStart => exact ⟨rfl, rfl, rfl⟩
 case round =>
  obtain ⟨rfl, rfl, rfl⟩ := hrel
  go_wp2_with fail
  go_ret
  exact ⟨rfl, HK.out⟩
set_option maxRecDepth 100000 in
set_option maxHeartbeats 1000000 in
theorem uopen_none {w0 : World} {m : DM} {size : Nat} {dn : Bool} (h : Own w w0 (tRes w.heap.size d j t b nm ⟨m, size, [], dn⟩ ++ (rObj w.heap.size st (stObj1 d) :: rs))) (hdn : m.down = false) (hs : FSorted m.now) (hn : ∀ p ∈ m.now, p.1.size ≤ maxLen) (hl : m.now.length ≤ 1099511627775) (hno : namesOf m.now hdU = []) :
  Calls Tryz.prog 20 #[.pointer (some ⟨d, 0, none⟩), .pointer (some ⟨st, 0, none⟩), .pointer (some ⟨t, 0, none⟩)] w0 (fun e w' => ∃ u mp, e = .returned (.tuple #[.pointer (some ⟨u, 0, none⟩), .int .i64 0]) ∧ Own w w' (tRes w.heap.size d j t b nm ⟨m, size, [], dn⟩ ++ (uRes w.heap.size d u st t mp 1 [] ++ rs))) := by
 have hmm := @run_makeMap Tryz.prog
 have h1 := h.newPMap
 have h2 := h1.alloc (uObj d st t 1 w0.heap.size)
 change Own w ((w0.alloc (.map #[] 0)).alloc (.cells #[.pointer (some ⟨d, 0, none⟩), .pointer (some ⟨st, 0, none⟩), .pointer (some ⟨t, 0, none⟩), .int .i64 1, .map (some w0.heap.size)] 104)) _ at h2
 have H2 := Lib.hid h2
 rw [World.size_alloc] at h2
 have h3 : Own w _ (tRes w.heap.size d j t b nm ⟨m, size, [], dn⟩ ++ (uRes w.heap.size d (w0.heap.size + 1) st t w0.heap.size 1 [] ++ rs)) := h2.perm (perm_fresh ..)
 have hw := fun (W : World) (hW : Own w W (tRes w.heap.size d j t b nm ⟨m, size, [], dn⟩ ++ (uRes w.heap.size d (w0.heap.size + 1) st t w0.heap.size 1 [] ++ rs))) => usweep_none hW hdn hs hn hl hno
 have htb := fun (W : World) (hW : Own w W (tRes w.heap.size d j t b nm ⟨m, size, [], dn⟩ ++ (uRes w.heap.size d (w0.heap.size + 1) st t w0.heap.size 1 [] ++ rs))) =>
  (show ∃ F, W.heap[t]? = some (tabObj j b dn) ∧ MapFs F W b [] from by
   obtain ⟨F, hF, -⟩ := hW.mem (r := rMap w.heap.size b []) (by simp [tRes])
   exact ⟨F, (hW.at (b := t) (o := tabObj j b dn) (by simp [tRes])).1, hF.2⟩)
 have HSW := Lib.hid hw
 have HTB := Lib.hid htb
 have H3 := Lib.hid h3
 clear h h1 h2 h3 hdn hs hn hl hno hw htb
 go_enter Tryz.func20, Tryz.ntmps20
 go_wp2_with fail
 generalize (w0.alloc (.map #[] 0)).alloc (.cells #[.pointer (some ⟨d, 0, none⟩), .pointer (some ⟨st, 0, none⟩), .pointer (some ⟨t, 0, none⟩), .int .i64 1, .map (some w0.heap.size)] 104) = w2 at H3 ⊢
 generalize w0.heap.size + 1 = u at *
 generalize w0.heap.size = mp at *
 obtain ⟨F, hb, hm⟩ := HTB.out w2 H3.out
 have hget := tget_calls hb hm ⟨#[117]⟩ (by simp [fget])
 have HGET := Lib.hid hget
 clear hget hb hm hmm
 refine HGET.out.mono ?_
 rintro e w3 ⟨v, rfl, ho, hk3⟩
 have hnone : (fget ([] : FS) ⟨#[117]⟩).isSome = false := rfl
 obtain ⟨va, vc, rfl, -, -⟩ := ho.bytes.form
 rw [hnone]
 have H4 := Lib.hid (H3.out.quiet hk3)
 clear ho hk3 H3 HGET hnone
 obtain ⟨F2, hb, hm⟩ := HTB.out w3 H4.out
 have hlen := tlen_runs hb hm
 have hkeys := fun n => tkeys_calls hb hm FSorted.nil (by simp) (by simp) ⟨#[117, 47]⟩ ⟨#[]⟩ n
 have HL := Lib.hid hlen
 have HKY := Lib.hid hkeys
 clear hb hm hlen hkeys
 go_wp2_with fail
 refine HL.out.out.mono ?_
 rintro e w' ⟨rfl, rfl⟩
 go_wp2_with fail
 refine (HKY.out _).mono ?_
 rintro e w4 ⟨v, rfl, hst, hk4⟩
 obtain ⟨a, c, rfl⟩ := strs_empty (show StrsAt _ _ v [] from hst)
 have H5 := Lib.hid (H4.out.quiet hk4)
 clear hst hk4 H4 HL HKY
 go_wp2_with fail
 go_loopw [14, 15, 16, 17, 18, 19, 20, 21, 22, 23, 24, 72] (fun _ _ _ _ _ _ _ _ _ _ _ iv wx => iv = .int .i64 0 ∧ w4 = wx) (fun _ _ _ _ _ _ _ _ _ _ _ _ _ => 0)
 case atStart => exact ⟨rfl, rfl⟩
 case round =>
  obtain ⟨rfl, rfl⟩ := hrel
  go_wp2_with fail
  refine (HSW.out _ H5.out).mono ?_
  rintro e w5 ⟨rfl, hk5⟩
  have H6 := Lib.hid (H5.out.quiet hk5)
  clear hk5 H5
  go_wp2_with fail
  go_ret2
  exact ⟨u, mp, rfl, H6.out⟩
end
end Go.Proofs.YtlcnhpjggjgnpaaGreatDoor
namespace Go.Proofs.YtlcnhpjggjgnpaaGreatDoor
set_option linter.unusedVariables false
open Go.RowKit Go.MapKept
structure UE where
 id : Nat
 repo : ByteArray
 til : Int
 e : List UInt8
structure UEok (x : UE) : Prop where
 id0 : 1 ≤ x.id
 id1 : x.id ≤ 4294967295
 repo : isRepo x.repo = true
 til : 0 ≤ x.til ∧ x.til ≤ 1099511627776
 e : x.e = [] ∨ x.e.length = 32
def uval (x : UE) : List UInt8 := laidOf x.repo x.til.toNat x.e
def cancelOf (T : TM) (nm ky : ByteArray) : Int × TM × Bool :=
 if (tAppOf T nm [⟨ky, true, []⟩]).1 = 0 then
  (if (removeOf (tAppOf T nm [⟨ky, true, []⟩]).2.m ky).1 = 0 then
   ((syncOf (removeOf (tAppOf T nm [⟨ky, true, []⟩]).2.m ky).2).1, { (tAppOf T nm [⟨ky, true, []⟩]).2 with m := (syncOf (removeOf (tAppOf T nm [⟨ky, true, []⟩]).2.m ky).2).2 }, true)
   else ((removeOf (tAppOf T nm [⟨ky, true, []⟩]).2.m ky).1, { (tAppOf T nm [⟨ky, true, []⟩]).2 with m := (removeOf (tAppOf T nm [⟨ky, true, []⟩]).2.m ky).2 }, true))
 else ((tAppOf T nm [⟨ky, true, []⟩]).1, (tAppOf T nm [⟨ky, true, []⟩]).2, false)
def resumeOf (T : TM) (nm : ByteArray) (x : UE) : Int × TM × Option Ses :=
 if x.e.length = 32 then ((closeOf T nm (ukeyOf x.id) x.e).1, (closeOf T nm (ukeyOf x.id) x.e).2, none)
 else if thereOf T.m (ukeyOf x.id) = 0 then (0, T, some ⟨(x.id : Int), x.repo, x.til, contOf T.m (ukeyOf x.id)⟩)
 else (200, T, none)
def resumeAll (nm : ByteArray) : List UE → TM → List Ses → Int × TM × List Ses
 | [], T, L => (0, T, L)
 | x :: E, T, L => if (resumeOf T nm x).1 = 0 then resumeAll nm E (resumeOf T nm x).2.1 (L ++ (resumeOf T nm x).2.2.toList) else ((resumeOf T nm x).1, (resumeOf T nm x).2.1, L)
def sweepFrom (fs : FS) : List ByteArray → DM → Nat → Int × DM
 | [], m, g => if 0 < g then syncOf m else (0, m)
 | f :: l, m, g => if (fget fs f).isSome then sweepFrom fs l m g else if (removeOf m f).1 = 0 then sweepFrom fs l (removeOf m f).2 (g + 1) else removeOf m f
def sweepOf (T : TM) : Int × TM :=
 if T.m.down then (5, T) else ((sweepFrom T.fs (namesOf T.m.now hdU) T.m 0).1, { T with m := (sweepFrom T.fs (namesOf T.m.now hdU) T.m 0).2 })
def uOpenOf (T : TM) (nm : ByteArray) (E : List UE) : Int × TM × List Ses :=
 if (resumeAll nm E T []).1 = 0 then ((sweepOf (resumeAll nm E T []).2.1).1, (sweepOf (resumeAll nm E T []).2.1).2, (resumeAll nm E T []).2.2)
 else (resumeAll nm E T [])
structure UTab (fs : FS) (E : List UE) (nx : Nat) : Prop where
 ok : TabOk fs
 keys : fs.filter (fun p => beginsB p.1 hdU) = E.map (fun x => (ukeyOf x.id, uval x))
 each : ∀ x ∈ E, UEok x
 next : (fget fs uB = none ∧ nx = 1) ∨ (fget fs uB = some (putOf nx 8) ∧ 1 ≤ nx ∧ nx ≤ 4294967296)
end Go.Proofs.YtlcnhpjggjgnpaaGreatDoor
